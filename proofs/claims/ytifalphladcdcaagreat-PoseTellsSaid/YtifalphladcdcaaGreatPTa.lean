/- What the functions compute, and that they do so over the machine of plain values (printed by this session's program wip/vm/Walk.lean). No condition beyond those stated. -/
import Derived.Test.YtifalphladcdcaaGreatWk
import Derived.Test.YtifalphladcdcaaGreatHB
import Derived.Test.YtifalphladcdcaaGreatRowsR5Z
set_option linter.unusedVariables false
set_option linter.unusedSimpArgs false
namespace Go.Proofs.YtifalphladcdcaaGreat.H
open Go Go.VM
set_option maxRecDepth 100000
/-! ## types -/
def Y0 : ByteArray := ByteArray.mk (List.toArray (List.append (List.append [0, 1, 2, 2, 3, 3, 3, 3, 4, 4, 4, 4, 4, 4, 4, 4, 5, 5, 5, 5, 5, 5, 5, 5, 5, 5, 5, 5, 5, 5, 5, 5, 6, 6, 6, 6, 6, 6, 6, 6, 6, 6, 6, 6, 6, 6, 6, 6, 6, 6, 6, 6, 6, 6, 6, 6, 6, 6, 6, 6, 6, 6, 6, 6] [7, 7, 7, 7, 7, 7, 7, 7, 7, 7, 7, 7, 7, 7, 7, 7, 7, 7, 7, 7, 7, 7, 7, 7, 7, 7, 7, 7, 7, 7, 7, 7, 7, 7, 7, 7, 7, 7, 7, 7, 7, 7, 7, 7, 7, 7, 7, 7, 7, 7, 7, 7, 7, 7, 7, 7, 7, 7, 7, 7, 7, 7, 7, 7]) (List.append [8, 8, 8, 8, 8, 8, 8, 8, 8, 8, 8, 8, 8, 8, 8, 8, 8, 8, 8, 8, 8, 8, 8, 8, 8, 8, 8, 8, 8, 8, 8, 8, 8, 8, 8, 8, 8, 8, 8, 8, 8, 8, 8, 8, 8, 8, 8, 8, 8, 8, 8, 8, 8, 8, 8, 8, 8, 8, 8, 8, 8, 8, 8, 8] [8, 8, 8, 8, 8, 8, 8, 8, 8, 8, 8, 8, 8, 8, 8, 8, 8, 8, 8, 8, 8, 8, 8, 8, 8, 8, 8, 8, 8, 8, 8, 8, 8, 8, 8, 8, 8, 8, 8, 8, 8, 8, 8, 8, 8, 8, 8, 8, 8, 8, 8, 8, 8, 8, 8, 8, 8, 8, 8, 8, 8, 8, 8, 8])))
inductive A19 where
  | a0 (a : Int)
abbrev A19.out : A19 → V × Store
  | .a0 a => (i64 a, [])
abbrev E19 := Ent.o0 A19.out
inductive A43 where
  | a0 (a : Int) (d : LV) (f : Int)
abbrev A43.out : A43 → V × Store
  | .a0 a d f => (i64 a, [oF 2 [[lS 1 d, i64 f]]])
abbrev E43 := Ent.o0 A43.out
inductive A47 where
  | a0 (a : Int) (d : LV) (f : Int)
abbrev A47.out : A47 → V × Store
  | .a0 a d f => (i64 a, [oF 2 [[lS 1 d, i64 f]]])
abbrev E47 := Ent.o0 A47.out
inductive A106 where
  | a0 (a d : Int) (f : LV) (i : Int)
abbrev A106.out : A106 → V × Store
  | .a0 a d f i => (V.agg [i64 a, i64 d], [oF 2 [[lS 1 f, i64 i]]])
abbrev E106 := Ent.o0 A106.out
inductive A44 where
  | a0 (a : Bool) (d : Nat) (f : LV) (i : Int) (j : LV)
abbrev A44.out : A44 → V × Store
  | .a0 a d f i j => (V.agg [vb a, hS 1 d], [oF 2 [[lS 1 f, i64 i]], oT 2 j])
abbrev E44 := Ent.o0 A44.out
inductive A107 where
  | a0 (a d f i : Int) (j : LV) (l : Int)
abbrev A107.out : A107 → V × Store
  | .a0 a d f i j l => (V.agg [i64 a, i64 d, i64 f, i64 i], [oF 2 [[lS 1 j, i64 l]]])
abbrev E107 := Ent.o0 A107.out
inductive A45 where
  | a0 (a d f i j : Int) (l : LV) (m : Int)
abbrev A45.out : A45 → V × Store
  | .a0 a d f i j l m => (V.tup [i64 a, V.agg [i64 d, i64 f, i64 i, i64 j]], [oF 2 [[lS 1 l, i64 m]]])
abbrev E45 := Ent.o0 A45.out
inductive A46 where
  | a0 (a : Nat) (d : LV) (f : Int) (i : LV)
abbrev A46.out : A46 → V × Store
  | .a0 a d f i => (hS 1 a, [oF 2 [[lS 1 d, i64 f]], oT 7 i])
abbrev E46 := Ent.o0 A46.out
inductive A49 where
  | a0 (a d f i : Int) (j : LV) (l : Int)
abbrev A49.out : A49 → V × Store
  | .a0 a d f i j l => (V.agg [u8 a, u8 d, u8 f, u8 i], [oF 2 [[lS 1 j, i64 l]]])
abbrev E49 := Ent.o0 A49.out
inductive A48 where
  | a0 (a d f i j l m o p q s t u v : Int) (w : LV) (y : Int)
abbrev A48.out : A48 → V × Store
  | .a0 a d f i j l m o p q s t u v w y => (V.agg [i64 a, u8 d, u8 f, u8 i, u8 j, u8 l, u8 m, u8 o, u8 p, i64 q, i64 s, i64 t, i64 u, i64 v], [oF 2 [[lS 1 w, i64 y]]])
abbrev E48 := Ent.o0 A48.out
inductive A13 where
  | a0 (a d : Int) (f i j : Nat) (l : Bool) (m o p q s t u v w y z d0 d1 d2 d3 : Int) (d4 : Nat) (d5 : Bool) (d6 : Nat) (d7 d8 d9 f0 f1 : Int) (f2 f3 f4 : Nat) (f5 : LV) (f6 : Int) (f7 f8 f9 j0 j1 j2 j3 j4 : LV)
abbrev A13.out : A13 → V × Store
  | .a0 a d f i j l m o p q s t u v w y z d0 d1 d2 d3 d4 d5 d6 d7 d8 d9 f0 f1 f2 f3 f4 f5 f6 f7 f8 f9 j0 j1 j2 j3 j4 => (V.agg [i64 a, i64 d, hS 1 f, hS 2 i, hS 3 j, vb l, i64 m, i64 o, u8 p, u8 q, u8 s, u8 t, u8 u, u8 v, u8 w, u8 y, i64 z, i64 d0, i64 d1, i64 d2, i64 d3, hS 4 d4, vb d5, hS 5 d6, u8 d7, u8 d8, u8 d9, u8 f0, i64 f1, hS 6 f2, hS 7 f3, hS 8 f4], [oF 2 [[lS 1 f5, i64 f6]], oT 7 f7, oT 7 f8, oT 8 f9, oT 10 j0, oT 7 j1, oT 1 j2, oT 7 j3, oT 7 j4])
abbrev E13 := Ent.o0 A13.out
inductive A69 where
  | a0 (a d f i j l m : Int) (o p q s t u v w y : Nat) (z : Bool) (d0 : Nat) (d1 d2 : Int) (d3 d4 d5 : Nat) (d6 : Bool) (d7 d8 d9 f0 f1 f2 f3 f4 f5 f6 f7 f8 f9 j0 j1 : Int) (j2 : Nat) (j3 : Bool) (j4 : Nat) (j5 j6 j7 j8 j9 : Int) (l0 l1 l2 : Nat) (l3 : LV) (l4 : Int) (l5 l6 l7 l8 l9 m0 m1 m2 m3 m4 m5 m6 m7 m8 m9 o0 o1 o2 : LV)
abbrev A69.out : A69 → V × Store
  | .a0 a d f i j l m o p q s t u v w y z d0 d1 d2 d3 d4 d5 d6 d7 d8 d9 f0 f1 f2 f3 f4 f5 f6 f7 f8 f9 j0 j1 j2 j3 j4 j5 j6 j7 j8 j9 l0 l1 l2 l3 l4 l5 l6 l7 l8 l9 m0 m1 m2 m3 m4 m5 m6 m7 m8 m9 o0 o1 o2 => (V.agg [i64 a, i64 d, i64 f, i64 i, i64 j, i64 l, i64 m, hS 1 o, hS 2 p, hS 3 q, hS 4 s, hS 5 t, hS 6 u, hS 7 v, hS 8 w, hS 9 y, vb z, hS 10 d0, i64 d1, i64 d2, hS 11 d3, hS 12 d4, hS 13 d5, vb d6, i64 d7, i64 d8, u8 d9, u8 f0, u8 f1, u8 f2, u8 f3, u8 f4, u8 f5, u8 f6, i64 f7, i64 f8, i64 f9, i64 j0, i64 j1, hS 14 j2, vb j3, hS 15 j4, u8 j5, u8 j6, u8 j7, u8 j8, i64 j9, hS 16 l0, hS 17 l1, hS 18 l2], [oF 2 [[lS 1 l3, i64 l4]], oT 7 l5, oT 7 l6, oT 7 l7, oT 7 l8, oT 7 l9, oT 7 m0, oT 7 m1, oT 7 m2, oT 7 m3, oT 2 m4, oT 7 m5, oT 7 m6, oT 8 m7, oT 10 m8, oT 7 m9, oT 1 o0, oT 7 o1, oT 7 o2])
abbrev E69 := Ent.o0 A69.out
inductive A20 where
  | a0 (a d : Int) (f : Nat) (i : LV)
abbrev A20.out : A20 → V × Store
  | .a0 a d f i => (V.agg [i64 a, i64 d, hS 0 f], [oT 1 i])
abbrev E20 := Ent.o0 A20.out
inductive A133 where
  | a0 (a : Int)
abbrev A133.out : A133 → V × Store
  | .a0 a => (i64 a, [])
abbrev E133 := Ent.o0 A133.out
inductive A136 where
  | a0 (a : Int)
abbrev A136.out : A136 → V × Store
  | .a0 a => (i64 a, [])
abbrev E136 := Ent.o0 A136.out
inductive A187 where
  | a0 (a d : Int)
abbrev A187.out : A187 → V × Store
  | .a0 a d => (V.tup [V.int IntKind.u64 a, V.int IntKind.u64 d], [])
abbrev E187 := Ent.o0 A187.out
inductive A184 where
  | a0 (a d : Int)
abbrev A184.out : A184 → V × Store
  | .a0 a d => (V.tup [V.int IntKind.u64 a, V.int IntKind.u64 d], [])
abbrev E184 := Ent.o0 A184.out
inductive A183 where
  | a0 (a : Int)
abbrev A183.out : A183 → V × Store
  | .a0 a => (i64 a, [])
abbrev E183 := Ent.o0 A183.out
inductive A125 where
  | a0 (a : Int)
abbrev A125.out : A125 → V × Store
  | .a0 a => (i64 a, [])
abbrev E125 := Ent.o0 A125.out
inductive A231 where
  | a0 (a : Int)
abbrev A231.out : A231 → V × Store
  | .a0 a => (i64 a, [])
abbrev E231 := Ent.o0 A231.out
inductive A191 where
  | a0 (a : Int)
abbrev A191.out : A191 → V × Store
  | .a0 a => (i64 a, [])
abbrev E191 := Ent.o0 A191.out
inductive A135 where
  | a0 (a : Int)
abbrev A135.out : A135 → V × Store
  | .a0 a => (i64 a, [])
abbrev E135 := Ent.o0 A135.out
inductive A134 where
  | a0 (a : Int)
abbrev A134.out : A134 → V × Store
  | .a0 a => (i64 a, [])
abbrev E134 := Ent.o0 A134.out
inductive A72 where
  | a0 (a : Int)
abbrev A72.out : A72 → V × Store
  | .a0 a => (i64 a, [])
abbrev E72 := Ent.o0 A72.out
inductive A71 where
  | a0 (a d : Int)
abbrev A71.out : A71 → V × Store
  | .a0 a d => (i64 a, [oF 1 [[i64 d]]])
abbrev E71 := Ent.o0 A71.out
inductive A128 where
  | a0 (a : Int)
abbrev A128.out : A128 → V × Store
  | .a0 a => (i64 a, [])
abbrev E128 := Ent.o0 A128.out
inductive A127 where
  | a0 (a : Int)
abbrev A127.out : A127 → V × Store
  | .a0 a => (i64 a, [])
abbrev E127 := Ent.o0 A127.out
inductive A137 where
  | a0 (a : Int)
abbrev A137.out : A137 → V × Store
  | .a0 a => (i64 a, [])
abbrev E137 := Ent.o0 A137.out
inductive A73 where
  | a0 (a : W59)
abbrev A73.out : A73 → V × Store
  | .a0 a => (V.agg (W59.cells a), [])
abbrev E73 := Ent.o0 A73.out
inductive A21 where
  | a0 (a : W59)
abbrev A21.out : A21 → V × Store
  | .a0 a => (V.agg (W59.cells a), [])
abbrev E21 := Ent.o0 A21.out
inductive A77 where
  | a0 (a : Bool) (d : LV)
abbrev A77.out : A77 → V × Store
  | .a0 a d => (vb a, [oF 1 [[lS 50 d]]])
abbrev E77 := Ent.o0 A77.out
inductive A79 where
  | a0 (a : W59)
abbrev A79.out : A79 → V × Store
  | .a0 a => (V.agg (W59.cells a), [])
abbrev E79 := Ent.o0 A79.out
inductive A27 where
  | a0 (a : W59)
abbrev A27.out : A27 → V × Store
  | .a0 a => (V.agg (W59.cells a), [])
abbrev E27 := Ent.o0 A27.out
inductive A185 where
  | a0 (a : Int) (d : Bool)
abbrev A185.out : A185 → V × Store
  | .a0 a d => (V.tup [V.int IntKind.u64 a, vb d], [])
abbrev E185 := Ent.o0 A185.out
inductive A282 where
  | a0 (a : Int)
abbrev A282.out : A282 → V × Store
  | .a0 a => (i64 a, [])
abbrev E282 := Ent.o0 A282.out
inductive A263 where
  | a0 (a : Int)
abbrev A263.out : A263 → V × Store
  | .a0 a => (i64 a, [])
abbrev E263 := Ent.o0 A263.out
inductive A230 where
  | a0 (a d : Int)
abbrev A230.out : A230 → V × Store
  | .a0 a d => (V.tup [V.int IntKind.u64 a, V.int IntKind.u64 d], [])
abbrev E230 := Ent.o0 A230.out
inductive A188 where
  | a0 (a : Int)
abbrev A188.out : A188 → V × Store
  | .a0 a => (i64 a, [])
abbrev E188 := Ent.o0 A188.out
inductive A126 where
  | a0 (a : Int)
abbrev A126.out : A126 → V × Store
  | .a0 a => (i64 a, [])
abbrev E126 := Ent.o0 A126.out
inductive A76 where
  | a0 (a : Int)
abbrev A76.out : A76 → V × Store
  | .a0 a => (i64 a, [])
abbrev E76 := Ent.o0 A76.out
inductive A26 where
  | a0 (a : W59)
abbrev A26.out : A26 → V × Store
  | .a0 a => (V.agg (W59.cells a), [])
abbrev E26 := Ent.o0 A26.out
inductive A22 where
  | a0 (a : Int)
abbrev A22.out : A22 → V × Store
  | .a0 a => (i64 a, [])
abbrev E22 := Ent.o0 A22.out
inductive A24 where
  | a0 (a : Int)
abbrev A24.out : A24 → V × Store
  | .a0 a => (i64 a, [])
abbrev E24 := Ent.o0 A24.out
inductive A123 where
  | a0 (a d : Int)
abbrev A123.out : A123 → V × Store
  | .a0 a d => (V.agg [i64 a, i64 d], [])
abbrev E123 := Ent.o0 A123.out
inductive A122 where
  | a0 (a : Bool) (d : Nat) (f : LV)
abbrev A122.out : A122 → V × Store
  | .a0 a d f => (V.agg [vb a, hS 0 d], [oT 2 f])
abbrev E122 := Ent.o0 A122.out
inductive A63 where
  | a0 (a : Bool) (d : Nat) (f : LV)
abbrev A63.out : A63 → V × Store
  | .a0 a d f => (V.agg [vb a, hS 0 d], [oT 2 f])
abbrev E63 := Ent.o0 A63.out
inductive A65 where
  | a0 (a : Bool) (d : Nat) (f : LV)
abbrev A65.out : A65 → V × Store
  | .a0 a d f => (V.agg [vb a, hS 0 d], [oT 2 f])
abbrev E65 := Ent.o0 A65.out
inductive A67 where
  | a0 (a : Bool) (d : Nat) (f : LV)
abbrev A67.out : A67 → V × Store
  | .a0 a d f => (V.agg [vb a, hS 0 d], [oT 2 f])
abbrev E67 := Ent.o0 A67.out
inductive A224 where
  | a0 (a : LV)
abbrev A224.out : A224 → V × Store
  | .a0 a => (hS 0 (List.length a), [oT 2 a])
abbrev E224 := Ent.o0 A224.out
inductive A170 where
  | a0 (a : Bool) (d : Nat) (f : LV)
abbrev A170.out : A170 → V × Store
  | .a0 a d f => (V.agg [vb a, hS 0 d], [oT 2 f])
abbrev E170 := Ent.o0 A170.out
inductive A171 where
  | a0 (a : Bool) (d : Nat) (f : LV)
abbrev A171.out : A171 → V × Store
  | .a0 a d f => (V.agg [vb a, hS 0 d], [oT 2 f])
abbrev E171 := Ent.o0 A171.out
inductive A109 where
  | a0 (a : Bool) (d : Nat) (f : LV)
abbrev A109.out : A109 → V × Store
  | .a0 a d f => (V.agg [vb a, hS 0 d], [oT 2 f])
abbrev E109 := Ent.o0 A109.out
inductive A51 where
  | a0 (a : Bool) (d : Nat) (f : LV)
abbrev A51.out : A51 → V × Store
  | .a0 a d f => (V.agg [vb a, hS 0 d], [oT 2 f])
abbrev E51 := Ent.o0 A51.out
inductive A262 where
  | a0 (a : Int)
abbrev A262.out : A262 → V × Store
  | .a0 a => (i64 a, [])
abbrev E262 := Ent.o0 A262.out
inductive A226 where
  | a0 (a : Bool)
abbrev A226.out : A226 → V × Store
  | .a0 a => (vb a, [])
abbrev E226 := Ent.o0 A226.out
inductive A177 where
  | a0 (a : Bool)
abbrev A177.out : A177 → V × Store
  | .a0 a => (vb a, [])
abbrev E177 := Ent.o0 A177.out
inductive A264 where
  | a0 (a d : Int)
abbrev A264.out : A264 → V × Store
  | .a0 a d => (V.agg [i64 a, i64 d], [])
abbrev E264 := Ent.o0 A264.out
inductive A232v1 where
  | a0 (a : Nat) (d : LV)
abbrev A232v1.out : A232v1 → V × Store
  | .a0 a d => (hS 1 a, [Ob.dead, oT 2 d])
abbrev E232v1 := Ent.o0 A232v1.out
inductive A232 where
  | a0 (a : Nat) (d : LV)
abbrev A232.out : A232 → V × Store
  | .a0 a d => (hS 0 a, [oT 2 d])
abbrev E232 := Ent.o0 A232.out
inductive A192 where
  | a0 (a : Nat) (d : LV)
abbrev A192.out : A192 → V × Store
  | .a0 a d => (hS 0 a, [oT 2 d])
abbrev E192 := Ent.o0 A192.out
inductive A138 where
  | a0 (a : Bool) (d : Nat) (f : LV)
abbrev A138.out : A138 → V × Store
  | .a0 a d f => (V.agg [vb a, hS 0 d], [oT 2 f])
abbrev E138 := Ent.o0 A138.out
inductive A233 where
  | a0 (a d f i : Int)
abbrev A233.out : A233 → V × Store
  | .a0 a d f i => (V.agg [u8 a, u8 d, u8 f, u8 i], [])
abbrev E233 := Ent.o0 A233.out
inductive A193 where
  | a0 (a d f i : Int)
abbrev A193.out : A193 → V × Store
  | .a0 a d f i => (V.agg [u8 a, u8 d, u8 f, u8 i], [])
abbrev E193 := Ent.o0 A193.out
inductive A198 where
  | a0 (a d : Int)
abbrev A198.out : A198 → V × Store
  | .a0 a d => (V.agg [i64 a, i64 d], [])
abbrev E198 := Ent.o0 A198.out
inductive A147 where
  | a0 (a : Nat) (d : LV)
abbrev A147.out : A147 → V × Store
  | .a0 a d => (hS 0 a, [oT 2 d])
abbrev E147 := Ent.o0 A147.out
inductive A284 where
  | a0 (a : Int)
abbrev A284.out : A284 → V × Store
  | .a0 a => (i64 a, [])
abbrev E284 := Ent.o0 A284.out
inductive A265 where
  | a0 (a : Int)
abbrev A265.out : A265 → V × Store
  | .a0 a => (i64 a, [])
abbrev E265 := Ent.o0 A265.out
inductive A234 where
  | a0 (a : Int)
abbrev A234.out : A234 → V × Store
  | .a0 a => (i64 a, [])
abbrev E234 := Ent.o0 A234.out
inductive A194 where
  | a0 (a d f i j l m o p q s t u v : Int)
abbrev A194.out : A194 → V × Store
  | .a0 a d f i j l m o p q s t u v => (V.agg [i64 a, u8 d, u8 f, u8 i, u8 j, u8 l, u8 m, u8 o, u8 p, i64 q, i64 s, i64 t, i64 u, i64 v], [])
abbrev E194 := Ent.o0 A194.out
inductive A139 where
  | a0 (a : Nat) (d f i j l m o p q s t u v w y z : Int) (d0 : LV)
abbrev A139.out : A139 → V × Store
  | .a0 a d f i j l m o p q s t u v w y z d0 => (V.agg [hS 0 a, i64 d, i64 f, u8 i, u8 j, u8 l, u8 m, u8 o, u8 p, u8 q, u8 s, i64 t, i64 u, i64 v, i64 w, i64 y, i64 z], [oT 2 d0])
abbrev E139 := Ent.o0 A139.out
inductive A235 where
  | a0 (a d : Int)
abbrev A235.out : A235 → V × Store
  | .a0 a d => (V.tup [i64 a, i64 d], [])
abbrev E235 := Ent.o0 A235.out
inductive A285 where
  | a0 (a d : Int)
abbrev A285.out : A285 → V × Store
  | .a0 a d => (V.agg [i64 a, i64 d], [])
abbrev E285 := Ent.o0 A285.out
inductive A267 where
  | a0 (a d f i j : Int)
abbrev A267.out : A267 → V × Store
  | .a0 a d f i j => (V.tup [V.agg [i64 a, i64 d], V.agg [i64 f, i64 i], i64 j], [])
abbrev E267 := Ent.o0 A267.out
inductive A236 where
  | a0 (a : Int)
abbrev A236.out : A236 → V × Store
  | .a0 a => (i64 a, [])
abbrev E236 := Ent.o0 A236.out
inductive A269 where
  | a0 (a : Int)
abbrev A269.out : A269 → V × Store
  | .a0 a => (i64 a, [])
abbrev E269 := Ent.o0 A269.out
inductive A268 where
  | a0 (a d : Int)
abbrev A268.out : A268 → V × Store
  | .a0 a d => (V.agg [i64 a, i64 d], [])
abbrev E268 := Ent.o0 A268.out
inductive A237 where
  | a0 (a : Bool) (d : Nat) (f : LV)
abbrev A237.out : A237 → V × Store
  | .a0 a d f => (V.agg [vb a, hS 0 d], [oT 2 f])
abbrev E237 := Ent.o0 A237.out
inductive A195 where
  | a0 (a : Nat) (d : LV)
abbrev A195.out : A195 → V × Store
  | .a0 a d => (hS 0 a, [oT 2 d])
abbrev E195 := Ent.o0 A195.out
inductive A180 where
  | a0 (a : Int)
abbrev A180.out : A180 → V × Store
  | .a0 a => (i64 a, [])
abbrev E180 := Ent.o0 A180.out
inductive A115 where
  | a0 (a : Bool)
abbrev A115.out : A115 → V × Store
  | .a0 a => (vb a, [])
abbrev E115 := Ent.o0 A115.out
inductive A57 where
  | a0 (a : Bool)
abbrev A57.out : A57 → V × Store
  | .a0 a => (vb a, [])
abbrev E57 := Ent.o0 A57.out
inductive A196 where
  | a0 (a : Nat) (d : LV)
abbrev A196.out : A196 → V × Store
  | .a0 a d => (hS 0 a, [oT 2 d])
abbrev E196 := Ent.o0 A196.out
inductive A238 where
  | a0 (a : Nat) (d : LV)
abbrev A238.out : A238 → V × Store
  | .a0 a d => (hS 0 a, [oT 6 d])
abbrev E238 := Ent.o0 A238.out
inductive A270 where
  | a0 (a d : Int)
abbrev A270.out : A270 → V × Store
  | .a0 a d => (V.tup [i64 a, i64 d], [])
abbrev E270 := Ent.o0 A270.out
inductive A271 where
  | a0 (a d : Int)
abbrev A271.out : A271 → V × Store
  | .a0 a d => (V.agg [i64 a, i64 d], [])
abbrev E271 := Ent.o0 A271.out
inductive A286 where
  | a0 (a d : Int)
abbrev A286.out : A286 → V × Store
  | .a0 a d => (V.agg [i64 a, i64 d], [])
abbrev E286 := Ent.o0 A286.out
inductive A295 where
  | a0 (a : Int)
abbrev A295.out : A295 → V × Store
  | .a0 a => (i64 a, [])
abbrev E295 := Ent.o0 A295.out
inductive A296 where
  | a0 (a : LV)
abbrev A296.out : A296 → V × Store
  | .a0 a => (E, [oT 2 a])
abbrev E296 := Ent.o0 A296.out
inductive A287 where
  | a0 (a : Nat) (d : LV)
abbrev A287.out : A287 → V × Store
  | .a0 a d => (hS 0 a, [oT 2 d])
abbrev E287 := Ent.o0 A287.out
inductive A272 where
  | a0 (a : Bool) (d : Nat) (f i : LV)
abbrev A272.out : A272 → V × Store
  | .a0 a d f i => (V.agg [vb a, hS 1 d], [Ob.cells false true 2 f, oT 2 i])
abbrev E272 := Ent.o0 A272.out
inductive A239 where
  | a0 (a : Bool) (d : Nat) (f : LV)
abbrev A239.out : A239 → V × Store
  | .a0 a d f => (V.agg [vb a, hS 0 d], [oT 2 f])
abbrev E239 := Ent.o0 A239.out
inductive A240 where
  | a0 (a : Nat) (d : LV)
abbrev A240.out : A240 → V × Store
  | .a0 a d => (hS 0 a, [oT 2 d])
abbrev E240 := Ent.o0 A240.out
inductive A197 where
  | a0 (a : Nat) (d : LV)
abbrev A197.out : A197 → V × Store
  | .a0 a d => (hS 0 a, [oT 2 d])
abbrev E197 := Ent.o0 A197.out
inductive A140 where
  | a0 (a : Nat) (d f i j l m o p q s t u v w y z : Int) (d0 : LV)
abbrev A140.out : A140 → V × Store
  | .a0 a d f i j l m o p q s t u v w y z d0 => (V.agg [hS 0 a, i64 d, i64 f, u8 i, u8 j, u8 l, u8 m, u8 o, u8 p, u8 q, u8 s, i64 t, i64 u, i64 v, i64 w, i64 y, i64 z], [oT 2 d0])
abbrev E140 := Ent.o0 A140.out
inductive A75 where
  | a0 (a : Nat) (d : LV)
abbrev A75.out : A75 → V × Store
  | .a0 a d => (hS 0 a, [oT 17 d])
abbrev E75 := Ent.o0 A75.out
inductive A25 where
  | a0 (a : Bool)
abbrev A25.out : A25 → V × Store
  | .a0 a => (vb a, [])
abbrev E25 := Ent.o0 A25.out
inductive A155 where
  | a0 (a : Int)
abbrev A155.out : A155 → V × Store
  | .a0 a => (i64 a, [])
abbrev E155 := Ent.o0 A155.out
inductive A156 where
  | a0 (a : W57)
  | a1 (d f i j l m o : Int) (p : Nat) (q s t u v w y z : LV) (d0 : Bool) (d1 : LV) (d2 d3 : Int) (d4 d5 d6 : LV) (d7 : Bool) (d8 d9 f0 f1 f2 f3 f4 f5 f6 f7 f8 f9 j0 j1 j2 : Int) (j3 : LV) (j4 : Bool) (j5 : LV) (j6 j7 j8 j9 l0 : Int) (l1 l2 l3 l4 : LV)
  | a2 (l5 l6 l7 l8 l9 m0 m1 : Int) (m2 m3 m4 m5 m6 m7 m8 : LV) (m9 : Nat) (o0 : LV) (o1 : Bool) (o2 : LV) (o3 o4 : Int) (o5 o6 o7 : LV) (o8 : Bool) (o9 p0 p1 p2 p3 p4 p5 p6 p7 p8 p9 q0 q1 q2 q3 : Int) (q4 : LV) (q5 : Bool) (q6 : LV) (q7 q8 q9 t0 t1 : Int) (t2 t3 t4 t5 : LV)
  | a3 (t6 t7 t8 t9 v0 v1 v2 : Int) (v3 v4 v5 v6 v7 v8 v9 y0 : LV) (y1 : Nat) (y2 : Bool) (y3 : LV) (y4 y5 : Int) (y6 y7 y8 : LV) (y9 : Bool) (z0 z1 z2 z3 z4 z5 z6 z7 z8 z9 d10 d11 d12 d13 d14 : Int) (d15 : LV) (d16 : Bool) (d17 : LV) (d18 d19 d20 d21 d22 : Int) (d23 d24 d25 d26 : LV)
  | a4 (d27 d28 d29 d30 d31 d32 d33 : Int) (d34 d35 d36 d37 d38 d39 d40 d41 d42 : LV) (d43 : Bool) (d44 : Nat) (d45 d46 : Int) (d47 d48 d49 : LV) (d50 : Bool) (d51 d52 d53 d54 d55 d56 d57 d58 d59 d60 d61 d62 d63 d64 d65 : Int) (d66 : LV) (d67 : Bool) (d68 : LV) (d69 d70 d71 d72 d73 : Int) (d74 d75 d76 d77 : LV)
  | a5 (d78 d79 d80 d81 d82 d83 d84 : Int) (d85 d86 d87 d88 d89 d90 d91 d92 d93 : LV) (d94 : Bool) (d95 : LV) (d96 d97 : Int) (d98 : Nat) (d99 f10 : LV) (f11 : Bool) (f12 f13 f14 f15 f16 f17 f18 f19 f20 f21 f22 f23 f24 f25 f26 : Int) (f27 : LV) (f28 : Bool) (f29 : LV) (f30 f31 f32 f33 f34 : Int) (f35 f36 f37 f38 : LV)
  | a6 (f39 f40 f41 f42 f43 f44 f45 : Int) (f46 f47 f48 f49 f50 f51 f52 f53 f54 : LV) (f55 : Bool) (f56 : LV) (f57 f58 : Int) (f59 f60 : LV) (f61 : Nat) (f62 : Bool) (f63 f64 f65 f66 f67 f68 f69 f70 f71 f72 f73 f74 f75 f76 f77 : Int) (f78 : LV) (f79 : Bool) (f80 : LV) (f81 f82 f83 f84 f85 : Int) (f86 f87 f88 f89 : LV)
  | a7 (f90 f91 f92 f93 f94 f95 f96 : Int) (f97 f98 f99 j10 j11 j12 j13 j14 j15 : LV) (j16 : Bool) (j17 : LV) (j18 j19 : Int) (j20 j21 j22 : LV) (j23 : Bool) (j24 j25 j26 j27 j28 j29 j30 j31 j32 j33 j34 j35 j36 j37 j38 : Int) (j39 : Nat) (j40 : Bool) (j41 : LV) (j42 j43 j44 j45 j46 : Int) (j47 j48 j49 j50 : LV)
  | a8 (j51 j52 j53 j54 j55 j56 j57 : Int) (j58 j59 j60 j61 j62 j63 j64 j65 j66 : LV) (j67 : Bool) (j68 : LV) (j69 j70 : Int) (j71 j72 j73 : LV) (j74 : Bool) (j75 j76 j77 j78 j79 j80 j81 j82 j83 j84 j85 j86 j87 j88 j89 : Int) (j90 : LV) (j91 : Bool) (j92 : LV) (j93 j94 j95 j96 j97 : Int) (j98 : Nat) (j99 l10 l11 : LV)
  | a9 (l12 l13 l14 l15 l16 l17 l18 : Int) (l19 l20 l21 l22 l23 l24 l25 l26 l27 : LV) (l28 : Bool) (l29 : LV) (l30 l31 : Int) (l32 l33 l34 : LV) (l35 : Bool) (l36 l37 l38 l39 l40 l41 l42 l43 l44 l45 l46 l47 l48 l49 l50 : Int) (l51 : LV) (l52 : Bool) (l53 : LV) (l54 l55 l56 l57 l58 : Int) (l59 l60 : LV) (l61 : Nat) (l62 : LV)
abbrev A156.out : A156 → V × Store
  | .a0 a => (V.agg (W57.cells a), [])
  | .a1 d f i j l m o p q s t u v w y z d0 d1 d2 d3 d4 d5 d6 d7 d8 d9 f0 f1 f2 f3 f4 f5 f6 f7 f8 f9 j0 j1 j2 j3 j4 j5 j6 j7 j8 j9 l0 l1 l2 l3 l4 => (V.agg [i64 d, i64 f, i64 i, i64 j, i64 l, i64 m, i64 o, hS 0 p, lS 7 q, lS 7 s, lS 7 t, lS 7 u, lS 7 v, lS 7 w, lS 7 y, lS 7 z, vb d0, lS 2 d1, i64 d2, i64 d3, lS 7 d4, lS 7 d5, lS 8 d6, vb d7, i64 d8, i64 d9, u8 f0, u8 f1, u8 f2, u8 f3, u8 f4, u8 f5, u8 f6, u8 f7, i64 f8, i64 f9, i64 j0, i64 j1, i64 j2, lS 10 j3, vb j4, lS 7 j5, u8 j6, u8 j7, u8 j8, u8 j9, i64 l0, lS 1 l1, lS 7 l2, lS 7 l3], [oT 7 l4])
  | .a2 l5 l6 l7 l8 l9 m0 m1 m2 m3 m4 m5 m6 m7 m8 m9 o0 o1 o2 o3 o4 o5 o6 o7 o8 o9 p0 p1 p2 p3 p4 p5 p6 p7 p8 p9 q0 q1 q2 q3 q4 q5 q6 q7 q8 q9 t0 t1 t2 t3 t4 t5 => (V.agg [i64 l5, i64 l6, i64 l7, i64 l8, i64 l9, i64 m0, i64 m1, lS 7 m2, lS 7 m3, lS 7 m4, lS 7 m5, lS 7 m6, lS 7 m7, lS 7 m8, hS 0 m9, lS 7 o0, vb o1, lS 2 o2, i64 o3, i64 o4, lS 7 o5, lS 7 o6, lS 8 o7, vb o8, i64 o9, i64 p0, u8 p1, u8 p2, u8 p3, u8 p4, u8 p5, u8 p6, u8 p7, u8 p8, i64 p9, i64 q0, i64 q1, i64 q2, i64 q3, lS 10 q4, vb q5, lS 7 q6, u8 q7, u8 q8, u8 q9, u8 t0, i64 t1, lS 1 t2, lS 7 t3, lS 7 t4], [oT 7 t5])
  | .a3 t6 t7 t8 t9 v0 v1 v2 v3 v4 v5 v6 v7 v8 v9 y0 y1 y2 y3 y4 y5 y6 y7 y8 y9 z0 z1 z2 z3 z4 z5 z6 z7 z8 z9 d10 d11 d12 d13 d14 d15 d16 d17 d18 d19 d20 d21 d22 d23 d24 d25 d26 => (V.agg [i64 t6, i64 t7, i64 t8, i64 t9, i64 v0, i64 v1, i64 v2, lS 7 v3, lS 7 v4, lS 7 v5, lS 7 v6, lS 7 v7, lS 7 v8, lS 7 v9, lS 7 y0, hS 0 y1, vb y2, lS 2 y3, i64 y4, i64 y5, lS 7 y6, lS 7 y7, lS 8 y8, vb y9, i64 z0, i64 z1, u8 z2, u8 z3, u8 z4, u8 z5, u8 z6, u8 z7, u8 z8, u8 z9, i64 d10, i64 d11, i64 d12, i64 d13, i64 d14, lS 10 d15, vb d16, lS 7 d17, u8 d18, u8 d19, u8 d20, u8 d21, i64 d22, lS 1 d23, lS 7 d24, lS 7 d25], [oT 7 d26])
  | .a4 d27 d28 d29 d30 d31 d32 d33 d34 d35 d36 d37 d38 d39 d40 d41 d42 d43 d44 d45 d46 d47 d48 d49 d50 d51 d52 d53 d54 d55 d56 d57 d58 d59 d60 d61 d62 d63 d64 d65 d66 d67 d68 d69 d70 d71 d72 d73 d74 d75 d76 d77 => (V.agg [i64 d27, i64 d28, i64 d29, i64 d30, i64 d31, i64 d32, i64 d33, lS 7 d34, lS 7 d35, lS 7 d36, lS 7 d37, lS 7 d38, lS 7 d39, lS 7 d40, lS 7 d41, lS 7 d42, vb d43, hS 0 d44, i64 d45, i64 d46, lS 7 d47, lS 7 d48, lS 8 d49, vb d50, i64 d51, i64 d52, u8 d53, u8 d54, u8 d55, u8 d56, u8 d57, u8 d58, u8 d59, u8 d60, i64 d61, i64 d62, i64 d63, i64 d64, i64 d65, lS 10 d66, vb d67, lS 7 d68, u8 d69, u8 d70, u8 d71, u8 d72, i64 d73, lS 1 d74, lS 7 d75, lS 7 d76], [oT 2 d77])
  | .a5 d78 d79 d80 d81 d82 d83 d84 d85 d86 d87 d88 d89 d90 d91 d92 d93 d94 d95 d96 d97 d98 d99 f10 f11 f12 f13 f14 f15 f16 f17 f18 f19 f20 f21 f22 f23 f24 f25 f26 f27 f28 f29 f30 f31 f32 f33 f34 f35 f36 f37 f38 => (V.agg [i64 d78, i64 d79, i64 d80, i64 d81, i64 d82, i64 d83, i64 d84, lS 7 d85, lS 7 d86, lS 7 d87, lS 7 d88, lS 7 d89, lS 7 d90, lS 7 d91, lS 7 d92, lS 7 d93, vb d94, lS 2 d95, i64 d96, i64 d97, hS 0 d98, lS 7 d99, lS 8 f10, vb f11, i64 f12, i64 f13, u8 f14, u8 f15, u8 f16, u8 f17, u8 f18, u8 f19, u8 f20, u8 f21, i64 f22, i64 f23, i64 f24, i64 f25, i64 f26, lS 10 f27, vb f28, lS 7 f29, u8 f30, u8 f31, u8 f32, u8 f33, i64 f34, lS 1 f35, lS 7 f36, lS 7 f37], [oT 7 f38])
  | .a6 f39 f40 f41 f42 f43 f44 f45 f46 f47 f48 f49 f50 f51 f52 f53 f54 f55 f56 f57 f58 f59 f60 f61 f62 f63 f64 f65 f66 f67 f68 f69 f70 f71 f72 f73 f74 f75 f76 f77 f78 f79 f80 f81 f82 f83 f84 f85 f86 f87 f88 f89 => (V.agg [i64 f39, i64 f40, i64 f41, i64 f42, i64 f43, i64 f44, i64 f45, lS 7 f46, lS 7 f47, lS 7 f48, lS 7 f49, lS 7 f50, lS 7 f51, lS 7 f52, lS 7 f53, lS 7 f54, vb f55, lS 2 f56, i64 f57, i64 f58, lS 7 f59, lS 7 f60, hS 0 f61, vb f62, i64 f63, i64 f64, u8 f65, u8 f66, u8 f67, u8 f68, u8 f69, u8 f70, u8 f71, u8 f72, i64 f73, i64 f74, i64 f75, i64 f76, i64 f77, lS 10 f78, vb f79, lS 7 f80, u8 f81, u8 f82, u8 f83, u8 f84, i64 f85, lS 1 f86, lS 7 f87, lS 7 f88], [oT 8 f89])
  | .a7 f90 f91 f92 f93 f94 f95 f96 f97 f98 f99 j10 j11 j12 j13 j14 j15 j16 j17 j18 j19 j20 j21 j22 j23 j24 j25 j26 j27 j28 j29 j30 j31 j32 j33 j34 j35 j36 j37 j38 j39 j40 j41 j42 j43 j44 j45 j46 j47 j48 j49 j50 => (V.agg [i64 f90, i64 f91, i64 f92, i64 f93, i64 f94, i64 f95, i64 f96, lS 7 f97, lS 7 f98, lS 7 f99, lS 7 j10, lS 7 j11, lS 7 j12, lS 7 j13, lS 7 j14, lS 7 j15, vb j16, lS 2 j17, i64 j18, i64 j19, lS 7 j20, lS 7 j21, lS 8 j22, vb j23, i64 j24, i64 j25, u8 j26, u8 j27, u8 j28, u8 j29, u8 j30, u8 j31, u8 j32, u8 j33, i64 j34, i64 j35, i64 j36, i64 j37, i64 j38, hS 0 j39, vb j40, lS 7 j41, u8 j42, u8 j43, u8 j44, u8 j45, i64 j46, lS 1 j47, lS 7 j48, lS 7 j49], [oT 10 j50])
  | .a8 j51 j52 j53 j54 j55 j56 j57 j58 j59 j60 j61 j62 j63 j64 j65 j66 j67 j68 j69 j70 j71 j72 j73 j74 j75 j76 j77 j78 j79 j80 j81 j82 j83 j84 j85 j86 j87 j88 j89 j90 j91 j92 j93 j94 j95 j96 j97 j98 j99 l10 l11 => (V.agg [i64 j51, i64 j52, i64 j53, i64 j54, i64 j55, i64 j56, i64 j57, lS 7 j58, lS 7 j59, lS 7 j60, lS 7 j61, lS 7 j62, lS 7 j63, lS 7 j64, lS 7 j65, lS 7 j66, vb j67, lS 2 j68, i64 j69, i64 j70, lS 7 j71, lS 7 j72, lS 8 j73, vb j74, i64 j75, i64 j76, u8 j77, u8 j78, u8 j79, u8 j80, u8 j81, u8 j82, u8 j83, u8 j84, i64 j85, i64 j86, i64 j87, i64 j88, i64 j89, lS 10 j90, vb j91, lS 7 j92, u8 j93, u8 j94, u8 j95, u8 j96, i64 j97, hS 0 j98, lS 7 j99, lS 7 l10], [oT 1 l11])
  | .a9 l12 l13 l14 l15 l16 l17 l18 l19 l20 l21 l22 l23 l24 l25 l26 l27 l28 l29 l30 l31 l32 l33 l34 l35 l36 l37 l38 l39 l40 l41 l42 l43 l44 l45 l46 l47 l48 l49 l50 l51 l52 l53 l54 l55 l56 l57 l58 l59 l60 l61 l62 => (V.agg [i64 l12, i64 l13, i64 l14, i64 l15, i64 l16, i64 l17, i64 l18, lS 7 l19, lS 7 l20, lS 7 l21, lS 7 l22, lS 7 l23, lS 7 l24, lS 7 l25, lS 7 l26, lS 7 l27, vb l28, lS 2 l29, i64 l30, i64 l31, lS 7 l32, lS 7 l33, lS 8 l34, vb l35, i64 l36, i64 l37, u8 l38, u8 l39, u8 l40, u8 l41, u8 l42, u8 l43, u8 l44, u8 l45, i64 l46, i64 l47, i64 l48, i64 l49, i64 l50, lS 10 l51, vb l52, lS 7 l53, u8 l54, u8 l55, u8 l56, u8 l57, i64 l58, lS 1 l59, lS 7 l60, hS 0 l61], [oT 7 l62])
def A156.ex (g : A156 → Prop) : Prop := (∃ (a : W57), g (.a0 a)) ∨ (∃ (d f i j l m o : Int) (p : Nat) (q s t u v w y z : LV) (d0 : Bool) (d1 : LV) (d2 d3 : Int) (d4 d5 d6 : LV) (d7 : Bool) (d8 d9 f0 f1 f2 f3 f4 f5 f6 f7 f8 f9 j0 j1 j2 : Int) (j3 : LV) (j4 : Bool) (j5 : LV) (j6 j7 j8 j9 l0 : Int) (l1 l2 l3 l4 : LV), g (.a1 d f i j l m o p q s t u v w y z d0 d1 d2 d3 d4 d5 d6 d7 d8 d9 f0 f1 f2 f3 f4 f5 f6 f7 f8 f9 j0 j1 j2 j3 j4 j5 j6 j7 j8 j9 l0 l1 l2 l3 l4)) ∨ (∃ (l5 l6 l7 l8 l9 m0 m1 : Int) (m2 m3 m4 m5 m6 m7 m8 : LV) (m9 : Nat) (o0 : LV) (o1 : Bool) (o2 : LV) (o3 o4 : Int) (o5 o6 o7 : LV) (o8 : Bool) (o9 p0 p1 p2 p3 p4 p5 p6 p7 p8 p9 q0 q1 q2 q3 : Int) (q4 : LV) (q5 : Bool) (q6 : LV) (q7 q8 q9 t0 t1 : Int) (t2 t3 t4 t5 : LV), g (.a2 l5 l6 l7 l8 l9 m0 m1 m2 m3 m4 m5 m6 m7 m8 m9 o0 o1 o2 o3 o4 o5 o6 o7 o8 o9 p0 p1 p2 p3 p4 p5 p6 p7 p8 p9 q0 q1 q2 q3 q4 q5 q6 q7 q8 q9 t0 t1 t2 t3 t4 t5)) ∨ (∃ (t6 t7 t8 t9 v0 v1 v2 : Int) (v3 v4 v5 v6 v7 v8 v9 y0 : LV) (y1 : Nat) (y2 : Bool) (y3 : LV) (y4 y5 : Int) (y6 y7 y8 : LV) (y9 : Bool) (z0 z1 z2 z3 z4 z5 z6 z7 z8 z9 d10 d11 d12 d13 d14 : Int) (d15 : LV) (d16 : Bool) (d17 : LV) (d18 d19 d20 d21 d22 : Int) (d23 d24 d25 d26 : LV), g (.a3 t6 t7 t8 t9 v0 v1 v2 v3 v4 v5 v6 v7 v8 v9 y0 y1 y2 y3 y4 y5 y6 y7 y8 y9 z0 z1 z2 z3 z4 z5 z6 z7 z8 z9 d10 d11 d12 d13 d14 d15 d16 d17 d18 d19 d20 d21 d22 d23 d24 d25 d26)) ∨ (∃ (d27 d28 d29 d30 d31 d32 d33 : Int) (d34 d35 d36 d37 d38 d39 d40 d41 d42 : LV) (d43 : Bool) (d44 : Nat) (d45 d46 : Int) (d47 d48 d49 : LV) (d50 : Bool) (d51 d52 d53 d54 d55 d56 d57 d58 d59 d60 d61 d62 d63 d64 d65 : Int) (d66 : LV) (d67 : Bool) (d68 : LV) (d69 d70 d71 d72 d73 : Int) (d74 d75 d76 d77 : LV), g (.a4 d27 d28 d29 d30 d31 d32 d33 d34 d35 d36 d37 d38 d39 d40 d41 d42 d43 d44 d45 d46 d47 d48 d49 d50 d51 d52 d53 d54 d55 d56 d57 d58 d59 d60 d61 d62 d63 d64 d65 d66 d67 d68 d69 d70 d71 d72 d73 d74 d75 d76 d77)) ∨ (∃ (d78 d79 d80 d81 d82 d83 d84 : Int) (d85 d86 d87 d88 d89 d90 d91 d92 d93 : LV) (d94 : Bool) (d95 : LV) (d96 d97 : Int) (d98 : Nat) (d99 f10 : LV) (f11 : Bool) (f12 f13 f14 f15 f16 f17 f18 f19 f20 f21 f22 f23 f24 f25 f26 : Int) (f27 : LV) (f28 : Bool) (f29 : LV) (f30 f31 f32 f33 f34 : Int) (f35 f36 f37 f38 : LV), g (.a5 d78 d79 d80 d81 d82 d83 d84 d85 d86 d87 d88 d89 d90 d91 d92 d93 d94 d95 d96 d97 d98 d99 f10 f11 f12 f13 f14 f15 f16 f17 f18 f19 f20 f21 f22 f23 f24 f25 f26 f27 f28 f29 f30 f31 f32 f33 f34 f35 f36 f37 f38)) ∨ (∃ (f39 f40 f41 f42 f43 f44 f45 : Int) (f46 f47 f48 f49 f50 f51 f52 f53 f54 : LV) (f55 : Bool) (f56 : LV) (f57 f58 : Int) (f59 f60 : LV) (f61 : Nat) (f62 : Bool) (f63 f64 f65 f66 f67 f68 f69 f70 f71 f72 f73 f74 f75 f76 f77 : Int) (f78 : LV) (f79 : Bool) (f80 : LV) (f81 f82 f83 f84 f85 : Int) (f86 f87 f88 f89 : LV), g (.a6 f39 f40 f41 f42 f43 f44 f45 f46 f47 f48 f49 f50 f51 f52 f53 f54 f55 f56 f57 f58 f59 f60 f61 f62 f63 f64 f65 f66 f67 f68 f69 f70 f71 f72 f73 f74 f75 f76 f77 f78 f79 f80 f81 f82 f83 f84 f85 f86 f87 f88 f89)) ∨ (∃ (f90 f91 f92 f93 f94 f95 f96 : Int) (f97 f98 f99 j10 j11 j12 j13 j14 j15 : LV) (j16 : Bool) (j17 : LV) (j18 j19 : Int) (j20 j21 j22 : LV) (j23 : Bool) (j24 j25 j26 j27 j28 j29 j30 j31 j32 j33 j34 j35 j36 j37 j38 : Int) (j39 : Nat) (j40 : Bool) (j41 : LV) (j42 j43 j44 j45 j46 : Int) (j47 j48 j49 j50 : LV), g (.a7 f90 f91 f92 f93 f94 f95 f96 f97 f98 f99 j10 j11 j12 j13 j14 j15 j16 j17 j18 j19 j20 j21 j22 j23 j24 j25 j26 j27 j28 j29 j30 j31 j32 j33 j34 j35 j36 j37 j38 j39 j40 j41 j42 j43 j44 j45 j46 j47 j48 j49 j50)) ∨ (∃ (j51 j52 j53 j54 j55 j56 j57 : Int) (j58 j59 j60 j61 j62 j63 j64 j65 j66 : LV) (j67 : Bool) (j68 : LV) (j69 j70 : Int) (j71 j72 j73 : LV) (j74 : Bool) (j75 j76 j77 j78 j79 j80 j81 j82 j83 j84 j85 j86 j87 j88 j89 : Int) (j90 : LV) (j91 : Bool) (j92 : LV) (j93 j94 j95 j96 j97 : Int) (j98 : Nat) (j99 l10 l11 : LV), g (.a8 j51 j52 j53 j54 j55 j56 j57 j58 j59 j60 j61 j62 j63 j64 j65 j66 j67 j68 j69 j70 j71 j72 j73 j74 j75 j76 j77 j78 j79 j80 j81 j82 j83 j84 j85 j86 j87 j88 j89 j90 j91 j92 j93 j94 j95 j96 j97 j98 j99 l10 l11)) ∨ (∃ (l12 l13 l14 l15 l16 l17 l18 : Int) (l19 l20 l21 l22 l23 l24 l25 l26 l27 : LV) (l28 : Bool) (l29 : LV) (l30 l31 : Int) (l32 l33 l34 : LV) (l35 : Bool) (l36 l37 l38 l39 l40 l41 l42 l43 l44 l45 l46 l47 l48 l49 l50 : Int) (l51 : LV) (l52 : Bool) (l53 : LV) (l54 l55 l56 l57 l58 : Int) (l59 l60 : LV) (l61 : Nat) (l62 : LV), g (.a9 l12 l13 l14 l15 l16 l17 l18 l19 l20 l21 l22 l23 l24 l25 l26 l27 l28 l29 l30 l31 l32 l33 l34 l35 l36 l37 l38 l39 l40 l41 l42 l43 l44 l45 l46 l47 l48 l49 l50 l51 l52 l53 l54 l55 l56 l57 l58 l59 l60 l61 l62))
set_option maxHeartbeats 2000000 in
theorem A156.ok (g : A156 → Prop) : A156.ex g ↔ ∃ b, g b := ⟨fun h => match h with
  | .inl ⟨_, h⟩ => ⟨_, h⟩
  | .inr (.inl ⟨_, _, _, _, _, _, _, _, _, _, _, _, _, _, _, _, _, _, _, _, _, _, _, _, _, _, _, _, _, _, _, _, _, _, _, _, _, _, _, _, _, _, _, _, _, _, _, _, _, _, _, h⟩) => ⟨_, h⟩
  | .inr (.inr (.inl ⟨_, _, _, _, _, _, _, _, _, _, _, _, _, _, _, _, _, _, _, _, _, _, _, _, _, _, _, _, _, _, _, _, _, _, _, _, _, _, _, _, _, _, _, _, _, _, _, _, _, _, _, h⟩)) => ⟨_, h⟩
  | .inr (.inr (.inr (.inl ⟨_, _, _, _, _, _, _, _, _, _, _, _, _, _, _, _, _, _, _, _, _, _, _, _, _, _, _, _, _, _, _, _, _, _, _, _, _, _, _, _, _, _, _, _, _, _, _, _, _, _, _, h⟩))) => ⟨_, h⟩
  | .inr (.inr (.inr (.inr (.inl ⟨_, _, _, _, _, _, _, _, _, _, _, _, _, _, _, _, _, _, _, _, _, _, _, _, _, _, _, _, _, _, _, _, _, _, _, _, _, _, _, _, _, _, _, _, _, _, _, _, _, _, _, h⟩)))) => ⟨_, h⟩
  | .inr (.inr (.inr (.inr (.inr (.inl ⟨_, _, _, _, _, _, _, _, _, _, _, _, _, _, _, _, _, _, _, _, _, _, _, _, _, _, _, _, _, _, _, _, _, _, _, _, _, _, _, _, _, _, _, _, _, _, _, _, _, _, _, h⟩))))) => ⟨_, h⟩
  | .inr (.inr (.inr (.inr (.inr (.inr (.inl ⟨_, _, _, _, _, _, _, _, _, _, _, _, _, _, _, _, _, _, _, _, _, _, _, _, _, _, _, _, _, _, _, _, _, _, _, _, _, _, _, _, _, _, _, _, _, _, _, _, _, _, _, h⟩)))))) => ⟨_, h⟩
  | .inr (.inr (.inr (.inr (.inr (.inr (.inr (.inl ⟨_, _, _, _, _, _, _, _, _, _, _, _, _, _, _, _, _, _, _, _, _, _, _, _, _, _, _, _, _, _, _, _, _, _, _, _, _, _, _, _, _, _, _, _, _, _, _, _, _, _, _, h⟩))))))) => ⟨_, h⟩
  | .inr (.inr (.inr (.inr (.inr (.inr (.inr (.inr (.inl ⟨_, _, _, _, _, _, _, _, _, _, _, _, _, _, _, _, _, _, _, _, _, _, _, _, _, _, _, _, _, _, _, _, _, _, _, _, _, _, _, _, _, _, _, _, _, _, _, _, _, _, _, h⟩)))))))) => ⟨_, h⟩
  | .inr (.inr (.inr (.inr (.inr (.inr (.inr (.inr (.inr (⟨_, _, _, _, _, _, _, _, _, _, _, _, _, _, _, _, _, _, _, _, _, _, _, _, _, _, _, _, _, _, _, _, _, _, _, _, _, _, _, _, _, _, _, _, _, _, _, _, _, _, _, h⟩))))))))) => ⟨_, h⟩, fun ⟨b, h⟩ => match b, h with
  | .a0 _, h => .inl ⟨_, h⟩
  | .a1 _ _ _ _ _ _ _ _ _ _ _ _ _ _ _ _ _ _ _ _ _ _ _ _ _ _ _ _ _ _ _ _ _ _ _ _ _ _ _ _ _ _ _ _ _ _ _ _ _ _ _, h => .inr (.inl ⟨_, _, _, _, _, _, _, _, _, _, _, _, _, _, _, _, _, _, _, _, _, _, _, _, _, _, _, _, _, _, _, _, _, _, _, _, _, _, _, _, _, _, _, _, _, _, _, _, _, _, _, h⟩)
  | .a2 _ _ _ _ _ _ _ _ _ _ _ _ _ _ _ _ _ _ _ _ _ _ _ _ _ _ _ _ _ _ _ _ _ _ _ _ _ _ _ _ _ _ _ _ _ _ _ _ _ _ _, h => .inr (.inr (.inl ⟨_, _, _, _, _, _, _, _, _, _, _, _, _, _, _, _, _, _, _, _, _, _, _, _, _, _, _, _, _, _, _, _, _, _, _, _, _, _, _, _, _, _, _, _, _, _, _, _, _, _, _, h⟩))
  | .a3 _ _ _ _ _ _ _ _ _ _ _ _ _ _ _ _ _ _ _ _ _ _ _ _ _ _ _ _ _ _ _ _ _ _ _ _ _ _ _ _ _ _ _ _ _ _ _ _ _ _ _, h => .inr (.inr (.inr (.inl ⟨_, _, _, _, _, _, _, _, _, _, _, _, _, _, _, _, _, _, _, _, _, _, _, _, _, _, _, _, _, _, _, _, _, _, _, _, _, _, _, _, _, _, _, _, _, _, _, _, _, _, _, h⟩)))
  | .a4 _ _ _ _ _ _ _ _ _ _ _ _ _ _ _ _ _ _ _ _ _ _ _ _ _ _ _ _ _ _ _ _ _ _ _ _ _ _ _ _ _ _ _ _ _ _ _ _ _ _ _, h => .inr (.inr (.inr (.inr (.inl ⟨_, _, _, _, _, _, _, _, _, _, _, _, _, _, _, _, _, _, _, _, _, _, _, _, _, _, _, _, _, _, _, _, _, _, _, _, _, _, _, _, _, _, _, _, _, _, _, _, _, _, _, h⟩))))
  | .a5 _ _ _ _ _ _ _ _ _ _ _ _ _ _ _ _ _ _ _ _ _ _ _ _ _ _ _ _ _ _ _ _ _ _ _ _ _ _ _ _ _ _ _ _ _ _ _ _ _ _ _, h => .inr (.inr (.inr (.inr (.inr (.inl ⟨_, _, _, _, _, _, _, _, _, _, _, _, _, _, _, _, _, _, _, _, _, _, _, _, _, _, _, _, _, _, _, _, _, _, _, _, _, _, _, _, _, _, _, _, _, _, _, _, _, _, _, h⟩)))))
  | .a6 _ _ _ _ _ _ _ _ _ _ _ _ _ _ _ _ _ _ _ _ _ _ _ _ _ _ _ _ _ _ _ _ _ _ _ _ _ _ _ _ _ _ _ _ _ _ _ _ _ _ _, h => .inr (.inr (.inr (.inr (.inr (.inr (.inl ⟨_, _, _, _, _, _, _, _, _, _, _, _, _, _, _, _, _, _, _, _, _, _, _, _, _, _, _, _, _, _, _, _, _, _, _, _, _, _, _, _, _, _, _, _, _, _, _, _, _, _, _, h⟩))))))
  | .a7 _ _ _ _ _ _ _ _ _ _ _ _ _ _ _ _ _ _ _ _ _ _ _ _ _ _ _ _ _ _ _ _ _ _ _ _ _ _ _ _ _ _ _ _ _ _ _ _ _ _ _, h => .inr (.inr (.inr (.inr (.inr (.inr (.inr (.inl ⟨_, _, _, _, _, _, _, _, _, _, _, _, _, _, _, _, _, _, _, _, _, _, _, _, _, _, _, _, _, _, _, _, _, _, _, _, _, _, _, _, _, _, _, _, _, _, _, _, _, _, _, h⟩)))))))
  | .a8 _ _ _ _ _ _ _ _ _ _ _ _ _ _ _ _ _ _ _ _ _ _ _ _ _ _ _ _ _ _ _ _ _ _ _ _ _ _ _ _ _ _ _ _ _ _ _ _ _ _ _, h => .inr (.inr (.inr (.inr (.inr (.inr (.inr (.inr (.inl ⟨_, _, _, _, _, _, _, _, _, _, _, _, _, _, _, _, _, _, _, _, _, _, _, _, _, _, _, _, _, _, _, _, _, _, _, _, _, _, _, _, _, _, _, _, _, _, _, _, _, _, _, h⟩))))))))
  | .a9 _ _ _ _ _ _ _ _ _ _ _ _ _ _ _ _ _ _ _ _ _ _ _ _ _ _ _ _ _ _ _ _ _ _ _ _ _ _ _ _ _ _ _ _ _ _ _ _ _ _ _, h => .inr (.inr (.inr (.inr (.inr (.inr (.inr (.inr (.inr (⟨_, _, _, _, _, _, _, _, _, _, _, _, _, _, _, _, _, _, _, _, _, _, _, _, _, _, _, _, _, _, _, _, _, _, _, _, _, _, _, _, _, _, _, _, _, _, _, _, _, _, _, h⟩)))))))))⟩
abbrev E156 : Ent (V × Store) := ⟨A156, A156.out, A156.ex, A156.ok⟩
inductive A90 where
  | a0 (a d : Int) (f : Nat) (i j : LV)
abbrev A90.out : A90 → V × Store
  | .a0 a d f i j => (V.agg [i64 a, i64 d, hS 1 f], [oT 1 i, oT 1 j])
abbrev E90 := Ent.o0 A90.out
inductive A31 where
  | a0 (a d : Int) (f : Nat) (i : LV)
  | a1 (j l : Int) (m : Nat) (o p : LV)
abbrev A31.out : A31 → V × Store
  | .a0 a d f i => (V.agg [i64 a, i64 d, hS 0 f], [oT 1 i])
  | .a1 j l m o p => (V.agg [i64 j, i64 l, hS 1 m], [oT 1 o, oT 1 p])
def A31.ex (g : A31 → Prop) : Prop := (∃ (a d : Int) (f : Nat) (i : LV), g (.a0 a d f i)) ∨ (∃ (j l : Int) (m : Nat) (o p : LV), g (.a1 j l m o p))
theorem A31.ok (g : A31 → Prop) : A31.ex g ↔ ∃ b, g b := ⟨fun h => match h with
  | .inl ⟨_, _, _, _, h⟩ => ⟨_, h⟩
  | .inr (⟨_, _, _, _, _, h⟩) => ⟨_, h⟩, fun ⟨b, h⟩ => match b, h with
  | .a0 _ _ _ _, h => .inl ⟨_, _, _, _, h⟩
  | .a1 _ _ _ _ _, h => .inr (⟨_, _, _, _, _, h⟩)⟩
abbrev E31 : Ent (V × Store) := ⟨A31, A31.out, A31.ex, A31.ok⟩
inductive A172 where
  | a0 (a : Int)
abbrev A172.out : A172 → V × Store
  | .a0 a => (i64 a, [])
abbrev E172 := Ent.o0 A172.out
inductive A175 where
  | a0 (a : Int)
abbrev A175.out : A175 → V × Store
  | .a0 a => (i64 a, [])
abbrev E175 := Ent.o0 A175.out
inductive A261 where
  | a0 (a : Int)
abbrev A261.out : A261 → V × Store
  | .a0 a => (i64 a, [])
abbrev E261 := Ent.o0 A261.out
inductive A225 where
  | a0 (a : Int)
abbrev A225.out : A225 → V × Store
  | .a0 a => (i64 a, [])
abbrev E225 := Ent.o0 A225.out
inductive A174 where
  | a0 (a : Int)
abbrev A174.out : A174 → V × Store
  | .a0 a => (i64 a, [])
abbrev E174 := Ent.o0 A174.out
inductive A173 where
  | a0 (a : Int)
abbrev A173.out : A173 → V × Store
  | .a0 a => (i64 a, [])
abbrev E173 := Ent.o0 A173.out
inductive A110 where
  | a0 (a : Int)
abbrev A110.out : A110 → V × Store
  | .a0 a => (i64 a, [])
abbrev E110 := Ent.o0 A110.out
inductive A143 where
  | a0 (a : Int)
abbrev A143.out : A143 → V × Store
  | .a0 a => (i64 a, [])
abbrev E143 := Ent.o0 A143.out
inductive A130 where
  | a0 (a : Int)
abbrev A130.out : A130 → V × Store
  | .a0 a => (i64 a, [])
abbrev E130 := Ent.o0 A130.out
inductive A129 where
  | a0 (a : Int)
abbrev A129.out : A129 → V × Store
  | .a0 a => (i64 a, [])
abbrev E129 := Ent.o0 A129.out
inductive A144 where
  | a0 (a : W59)
abbrev A144.out : A144 → V × Store
  | .a0 a => (V.agg (W59.cells a), [])
abbrev E144 := Ent.o0 A144.out
inductive A82 where
  | a0 (a : W59)
abbrev A82.out : A82 → V × Store
  | .a0 a => (V.agg (W59.cells a), [])
abbrev E82 := Ent.o0 A82.out
inductive A80 where
  | a0 (a : W59)
abbrev A80.out : A80 → V × Store
  | .a0 a => (V.agg (W59.cells a), [])
abbrev E80 := Ent.o0 A80.out
inductive A83 where
  | a0 (a : Int)
abbrev A83.out : A83 → V × Store
  | .a0 a => (i64 a, [])
abbrev E83 := Ent.o0 A83.out
inductive A84 where
  | a0 (a : Int)
abbrev A84.out : A84 → V × Store
  | .a0 a => (i64 a, [])
abbrev E84 := Ent.o0 A84.out
inductive A86 where
  | a0 (a : Nat) (d : LV)
abbrev A86.out : A86 → V × Store
  | .a0 a d => (hS 0 a, [oT 2 d])
abbrev E86 := Ent.o0 A86.out
inductive A119 where
  | a0 (a : Bool)
abbrev A119.out : A119 → V × Store
  | .a0 a => (vb a, [])
abbrev E119 := Ent.o0 A119.out
inductive A273 where
  | a0 (a d : Int)
abbrev A273.out : A273 → V × Store
  | .a0 a d => (V.agg [i64 a, i64 d], [])
abbrev E273 := Ent.o0 A273.out
inductive A242 where
  | a0 (a : Nat) (d : LV)
abbrev A242.out : A242 → V × Store
  | .a0 a d => (hS 0 a, [oT 2 d])
abbrev E242 := Ent.o0 A242.out
inductive A200 where
  | a0 (a : Nat) (d : LV)
abbrev A200.out : A200 → V × Store
  | .a0 a d => (hS 0 a, [oT 2 d])
abbrev E200 := Ent.o0 A200.out
inductive A149 where
  | a0 (a : Bool) (d : Nat) (f : LV)
abbrev A149.out : A149 → V × Store
  | .a0 a d f => (V.agg [vb a, hS 0 d], [oT 2 f])
abbrev E149 := Ent.o0 A149.out
inductive A201 where
  | a0 (a d : Int)
abbrev A201.out : A201 → V × Store
  | .a0 a d => (V.agg [i64 a, i64 d], [])
abbrev E201 := Ent.o0 A201.out
inductive A199 where
  | a0 (a : Nat) (d : LV)
abbrev A199.out : A199 → V × Store
  | .a0 a d => (hS 0 a, [oT 2 d])
abbrev E199 := Ent.o0 A199.out
inductive A148 where
  | a0 (a : Nat) (d : LV)
abbrev A148.out : A148 → V × Store
  | .a0 a d => (hS 0 a, [oT 2 d])
abbrev E148 := Ent.o0 A148.out
inductive A87 where
  | a0 (a : Nat) (d : LV)
abbrev A87.out : A87 → V × Store
  | .a0 a d => (hS 0 a, [oT 2 d])
abbrev E87 := Ent.o0 A87.out
inductive A108 where
  | a0 (a : Bool)
abbrev A108.out : A108 → V × Store
  | .a0 a => (vb a, [])
abbrev E108 := Ent.o0 A108.out
inductive A85 where
  | a0 (a : Bool)
abbrev A85.out : A85 → V × Store
  | .a0 a => (vb a, [])
abbrev E85 := Ent.o0 A85.out
inductive A29 where
  | a0 (a : Bool)
abbrev A29.out : A29 → V × Store
  | .a0 a => (vb a, [])
abbrev E29 := Ent.o0 A29.out
inductive A124 where
  | a0 (a : Bool) (d : Nat) (f : LV)
abbrev A124.out : A124 → V × Store
  | .a0 a d f => (V.agg [vb a, hS 0 d], [oT 2 f])
abbrev E124 := Ent.o0 A124.out
inductive A64 where
  | a0 (a : Bool) (d : Nat) (f : LV)
abbrev A64.out : A64 → V × Store
  | .a0 a d f => (V.agg [vb a, hS 0 d], [oT 2 f])
abbrev E64 := Ent.o0 A64.out
inductive A66 where
  | a0 (a : Bool) (d : Nat) (f : LV)
abbrev A66.out : A66 → V × Store
  | .a0 a d f => (V.agg [vb a, hS 0 d], [oT 2 f])
abbrev E66 := Ent.o0 A66.out
inductive A68 where
  | a0 (a : Bool) (d : Nat) (f : LV)
abbrev A68.out : A68 → V × Store
  | .a0 a d f => (V.agg [vb a, hS 0 d], [oT 2 f])
abbrev E68 := Ent.o0 A68.out
inductive A176 where
  | a0 (a : Bool) (d : Nat) (f : LV)
abbrev A176.out : A176 → V × Store
  | .a0 a d f => (V.agg [vb a, hS 0 d], [oT 2 f])
abbrev E176 := Ent.o0 A176.out
inductive A111 where
  | a0 (a : Bool) (d : Nat) (f : LV)
abbrev A111.out : A111 → V × Store
  | .a0 a d f => (V.agg [vb a, hS 0 d], [oT 2 f])
abbrev E111 := Ent.o0 A111.out
inductive A52 where
  | a0 (a : Bool) (d : Nat) (f : LV)
abbrev A52.out : A52 → V × Store
  | .a0 a d f => (V.agg [vb a, hS 0 d], [oT 2 f])
abbrev E52 := Ent.o0 A52.out
inductive A274 where
  | a0 (a : Int)
abbrev A274.out : A274 → V × Store
  | .a0 a => (V.int IntKind.u64 a, [])
abbrev E274 := Ent.o0 A274.out
inductive A244 where
  | a0 (a : Int)
abbrev A244.out : A244 → V × Store
  | .a0 a => (i64 a, [])
abbrev E244 := Ent.o0 A244.out
inductive A202 where
  | a0 (a : Int)
abbrev A202.out : A202 → V × Store
  | .a0 a => (i64 a, [])
abbrev E202 := Ent.o0 A202.out
inductive A150 where
  | a0 (a d f i j l m o p q s t u v : Int)
abbrev A150.out : A150 → V × Store
  | .a0 a d f i j l m o p q s t u v => (V.agg [i64 a, u8 d, u8 f, u8 i, u8 j, u8 l, u8 m, u8 o, u8 p, i64 q, i64 s, i64 t, i64 u, i64 v], [])
abbrev E150 := Ent.o0 A150.out
inductive A203 where
  | a0 (a d f i : Int)
abbrev A203.out : A203 → V × Store
  | .a0 a d f i => (V.agg [u8 a, u8 d, u8 f, u8 i], [])
abbrev E203 := Ent.o0 A203.out
inductive A151 where
  | a0 (a d f i : Int)
abbrev A151.out : A151 → V × Store
  | .a0 a d f i => (V.agg [u8 a, u8 d, u8 f, u8 i], [])
abbrev E151 := Ent.o0 A151.out
inductive A204 where
  | a0 (a d : Int)
abbrev A204.out : A204 → V × Store
  | .a0 a d => (V.tup [i64 a, i64 d], [])
abbrev E204 := Ent.o0 A204.out
inductive A205 where
  | a0 (a : Bool) (d : Nat) (f : LV)
abbrev A205.out : A205 → V × Store
  | .a0 a d f => (V.agg [vb a, hS 0 d], [oT 2 f])
abbrev E205 := Ent.o0 A205.out
inductive A250 where
  | a0 (a d : Int)
abbrev A250.out : A250 → V × Store
  | .a0 a d => (V.agg [i64 a, i64 d], [])
abbrev E250 := Ent.o0 A250.out
inductive A246 where
  | a0 (a d f i : Int)
abbrev A246.out : A246 → V × Store
  | .a0 a d f i => (V.tup [V.agg [i64 a, i64 d], V.agg [i64 f, i64 i]], [])
abbrev E246 := Ent.o0 A246.out
inductive A247 where
  | a0 (a : Int)
abbrev A247.out : A247 → V × Store
  | .a0 a => (i64 a, [])
abbrev E247 := Ent.o0 A247.out
inductive A206 where
  | a0 (a : Int)
abbrev A206.out : A206 → V × Store
  | .a0 a => (i64 a, [])
abbrev E206 := Ent.o0 A206.out
inductive A249 where
  | a0 (a : Int)
abbrev A249.out : A249 → V × Store
  | .a0 a => (i64 a, [])
abbrev E249 := Ent.o0 A249.out
inductive A248 where
  | a0 (a d : Int)
abbrev A248.out : A248 → V × Store
  | .a0 a d => (V.agg [i64 a, i64 d], [])
abbrev E248 := Ent.o0 A248.out
inductive A207 where
  | a0 (a : Bool) (d : Nat) (f : LV)
abbrev A207.out : A207 → V × Store
  | .a0 a d f => (V.agg [vb a, hS 0 d], [oT 2 f])
abbrev E207 := Ent.o0 A207.out
inductive A152 where
  | a0 (a : Nat) (d : LV)
abbrev A152.out : A152 → V × Store
  | .a0 a d => (hS 0 a, [oT 2 d])
abbrev E152 := Ent.o0 A152.out
inductive A62 where
  | a0 (a : Bool)
abbrev A62.out : A62 → V × Store
  | .a0 a => (vb a, [])
abbrev E62 := Ent.o0 A62.out
inductive A153 where
  | a0 (a : Nat) (d : LV)
abbrev A153.out : A153 → V × Store
  | .a0 a d => (hS 0 a, [oT 2 d])
abbrev E153 := Ent.o0 A153.out
inductive A208 where
  | a0 (a : Nat) (d : LV)
abbrev A208.out : A208 → V × Store
  | .a0 a d => (hS 0 a, [oT 8 d])
abbrev E208 := Ent.o0 A208.out
inductive A209 where
  | a0 (a d : Int)
abbrev A209.out : A209 → V × Store
  | .a0 a d => (V.agg [i64 a, i64 d], [])
abbrev E209 := Ent.o0 A209.out
inductive A275 where
  | a0 (a : Int)
abbrev A275.out : A275 → V × Store
  | .a0 a => (i64 a, [])
abbrev E275 := Ent.o0 A275.out
inductive A251 where
  | a0 (a : Nat) (d : LV)
abbrev A251.out : A251 → V × Store
  | .a0 a d => (hS 0 a, [oT 2 d])
abbrev E251 := Ent.o0 A251.out
inductive A210 where
  | a0 (a : Bool) (d : Nat) (f : LV)
abbrev A210.out : A210 → V × Store
  | .a0 a d f => (V.agg [vb a, hS 0 d], [oT 2 f])
abbrev E210 := Ent.o0 A210.out
inductive A211 where
  | a0 (a : Nat) (d : LV)
abbrev A211.out : A211 → V × Store
  | .a0 a d => (hS 0 a, [oT 2 d])
abbrev E211 := Ent.o0 A211.out
inductive A154 where
  | a0 (a : Nat) (d : LV)
abbrev A154.out : A154 → V × Store
  | .a0 a d => (hS 0 a, [oT 2 d])
abbrev E154 := Ent.o0 A154.out
inductive A88 where
  | a0 (a : Nat) (d : LV)
abbrev A88.out : A88 → V × Store
  | .a0 a d => (hS 0 a, [oT 17 d])
abbrev E88 := Ent.o0 A88.out
inductive A89 where
  | a0 (a : Bool)
abbrev A89.out : A89 → V × Store
  | .a0 a => (vb a, [])
abbrev E89 := Ent.o0 A89.out
inductive A30 where
  | a0 (a : Bool)
abbrev A30.out : A30 → V × Store
  | .a0 a => (vb a, [])
abbrev E30 := Ent.o0 A30.out
inductive A7 where
  | a0 (a : Bool)
abbrev A7.out : A7 → V × Store
  | .a0 a => (vb a, [])
abbrev E7 := Ent.o0 A7.out
/-! ## F19 -/
noncomputable def D19 (f a d : Int) : PT A19 := .test (f ≥ a) (fun h0 => .auto 3 <| .test (f ≤ d) (fun h1 => .ret (.a0 f)) (fun h1 => .test (w64 (w64 (d - a) + 1) = 0) (fun _ => .fail) (fun h2 => .test (Int.tmod f (w64 (w64 (d - a) + 1)) < 0) (fun h3 => .ret (.a0 (w64 (a + w64 (w64 (w64 (Int.tmod f (w64 (w64 (d - a) + 1)) + d) - a) + 1))))) (fun h3 => .ret (.a0 (w64 (a + Int.tmod f (w64 (w64 (d - a) + 1))))))))) (fun h0 => .auto 4 <| .test (w64 (w64 (d - a) + 1) = 0) (fun _ => .fail) (fun h1 => .test (Int.tmod f (w64 (w64 (d - a) + 1)) < 0) (fun h2 => .ret (.a0 (w64 (a + w64 (w64 (w64 (Int.tmod f (w64 (w64 (d - a) + 1)) + d) - a) + 1))))) (fun h2 => .ret (.a0 (w64 (a + Int.tmod f (w64 (w64 (d - a) + 1))))))))
noncomputable def F19 (a d f : Int) : Option A19 := (D19 a d f).ev some
theorem F19_ok (a d f : Int) : FU E19 (F19 a d f) 19 [i64 a, i64 d, i64 f] := fu rfl rfl fun x => by kernel_rfl
/-! ## F43 -/
noncomputable def D43 (f : Int) (d : LV) (a : Int) : PT A43 := .auto 2 <| .test (a ≥ (d.length : Int)) (fun h0 => .ret (.a0 0 d a)) (fun h0 => .auto 4 <| .test (0 ≤ w64 (w64 (a + 1) - 1)) (fun h1 => .look RW3 (d[Int.toNat (w64 (w64 (a + (1 : Int)) - (1 : Int)))]?) fun i => .ask E19 (F19_ok i.c0 0 1073741824) fun ⟨j⟩ => .test (f = 0) (fun _ => .fail) (fun h2 => .ret (.a0 (Int.tmod j f) d (w64 (a + 1))))) (fun _ => .fail))
noncomputable def F43 (a : Int) (d : LV) (f : Int) : Option A43 := (D43 a d f).ev some
theorem F43_ok (a : Int) (d : LV) (f : Int) : FU E43 (F43 a d f) 43 [pT 0, i64 a] [oF 2 [[lS 1 d, i64 f]]] := fu rfl rfl fun x => by kernel_rfl
/-! ## F47 -/
noncomputable def D47 (a l : Int) (m : LV) (o : Int) : PT A47 := .ask E43 (F43_ok (w64 (w64 (l - a) + 1)) m o) fun ⟨d, p, q⟩ => .ask E43 (F43_ok 4 p q) fun ⟨j, f, i⟩ => .testB (j == 0) (fun h0 => .ret (.a0 (w64 (w64 (w64 (a + d) * 65536) + 32768)) f i)) (fun h0 => .testB (j == 1) (fun h1 => .ask E43 (F43_ok 65536 f i) fun ⟨s, t, u⟩ => .ret (.a0 (w64 (w64 (w64 (a + d) * 65536) + s)) t u)) (fun h1 => .ret (.a0 (w64 (w64 (a + d) * 65536)) f i)))
noncomputable def F47 (a d : Int) (f : LV) (i : Int) : Option A47 := (D47 a d f i).ev some
theorem F47_ok (a d : Int) (f : LV) (i : Int) : FU E47 (F47 a d f i) 47 [pT 0, i64 a, i64 d] [oF 2 [[lS 1 f, i64 i]]] := fu rfl rfl fun x => by kernel_rfl
/-! ## F106 -/
noncomputable def D106 (a d : Int) (f : LV) (i : Int) : PT A106 := .ask E47 (F47_ok a d f i) fun ⟨j, l, m⟩ => .ask E47 (F47_ok a d l m) fun ⟨o, p, q⟩ => .auto 1 <| .ret (.a0 j o p q)
noncomputable def F106 (a d : Int) (f : LV) (i : Int) : Option A106 := (D106 a d f i).ev some
theorem F106_ok (a d : Int) (f : LV) (i : Int) : FU E106 (F106 a d f i) 106 [pT 0, i64 a, i64 d] [oF 2 [[lS 1 f, i64 i]]] := fu rfl rfl fun x => by kernel_rfl
/-! ## F44 -/
noncomputable abbrev B44 : Code := (Tryz.f44.body).getD .skip
inductive T44_0s0 where
  | mk (a d : Int) (f : LV) (i : Int) (j : Bool) (l : Nat) (m : LV)
inductive T44_0e0 where
  | mk (a : LV) (d : Int) (f : Bool) (i : Nat) (j : LV)
inductive N44_0 where
  | s0 (x : T44_0s0)
  | e0 (x : T44_0e0)
abbrev N44_0.out : N44_0 → VX × S
  | .s0 (.mk a d f i j l m) => (vN, S.mk (pT 0 :: i64 a :: un 4 (pT 1 :: pT 2 :: i64 d :: un 44 [])) [oF 2 [[lS 1 f, i64 i]], oF 2 [[vb false, hS 3 0]], oF 2 [[vb j, hS 4 l]], oT 2 [], oT 2 m])
  | .e0 (.mk o p q s t) => (vX 0, S.mk (un 6 (pT 1 :: pT 2 :: un 45 [])) [oF 2 [[lS 1 o, i64 p]], oF 2 [[vb false, hS 3 0]], oF 2 [[vb q, hS 4 s]], oT 2 [], oT 2 t])
abbrev E44_0 := Ent.o2 N44_0.out .s0 .e0 (fun b => by cases b <;> simp)
noncomputable def D44_0 : T44_0s0 → PT N44_0 | .mk f i o p j a d => .test (i < f) (fun h0 => .auto 2 <| .test (0 ≤ w64 ((↑a : Int) - 1) ∧ w64 ((↑a : Int) - 1) < (↑a : Int)) (fun h1 => .look RW28 (d[(0 : Nat) + Int.toNat (w64 ((↑a : Int) - (1 : Int)))]?) fun q => .ask E106 (F106_ok (-2) 14 o p) fun ⟨l, m, u, v⟩ => .auto 2 <| .ask E43 (F43_ok 2 u v) fun ⟨w, s, t⟩ => .testB (w == 0) (fun h2 => .auto 5 <| .test (0 + a ≤ List.length d ∧ (a + 3) * 16 ≤ 140737488355328 ∧ a + 3 ≤ 140737488355328) (fun h3 => .auto 1 <| .ret (.s0 (.mk f (w64 (i + 1)) s t j (a + 3) (List.take a d ++ [[i64 q.c0, i64 q.c1], [i64 l, i64 m], [i64 l, i64 m]])))) (fun _ => .fail)) (fun h2 => .auto 1 <| .ask E106 (F106_ok (-2) 14 s t) fun ⟨y, z, d0, d1⟩ => .ask E106 (F106_ok (-2) 14 d0 d1) fun ⟨d2, d3, d4, d5⟩ => .auto 2 <| .test (0 + a ≤ List.length d ∧ (a + 3) * 16 ≤ 140737488355328 ∧ a + 3 ≤ 140737488355328) (fun h3 => .auto 1 <| .ret (.s0 (.mk f (w64 (i + 1)) d4 d5 j (a + 3) (List.take a d ++ [[i64 y, i64 z], [i64 d2, i64 d3], [i64 l, i64 m]])))) (fun _ => .fail))) (fun _ => .fail)) (fun h0 => .ret (.e0 (.mk o p j a d)))
noncomputable def L44_0 := E44_0.loop fun | .s0 x => D44_0 x | _ => .fail
theorem L44_0_ok : LU 44 1 B44 0 E44_0 L44_0 :=
  lk (L := notIn []) (fun b hb => by cases b <;> first | (cases hb; done) | (rename_i x; cases x; intro x; kernel_rfl) | (intro x; kernel_rfl))
noncomputable def N44_0.nx (n : Nat) : N44_0 → Option N44_0 | .s0 x => L44_0 n (.s0 x) | .e0 x => some (.e0 x)
theorem L44_0_s0 (n : Nat) (x : T44_0s0) : L44_0 (n + 1) (.s0 x) = (D44_0 x).ev (N44_0.nx n) := Ent.loop_eq fun c => by cases c <;> rfl
noncomputable def D44 (a : Int) (d : Bool) (f : LV) (i : Int) : PT A44 := .ask E106 (F106_ok (-2) 14 f i) fun ⟨j, l, m, o⟩ => .auto 1 <| .cut E44_0 (L44_0_ok (.s0 (.mk a 0 m o d 1 ([[i64 j, i64 l]]))) rfl) fun | .e0 (.mk p q s t u) => (.auto 2 <| .ret (.a0 s t p q u)) | _ => .fail
noncomputable def F44 (a : Int) (d : Bool) (f : LV) (i : Int) : Option A44 := (D44 a d f i).ev some
theorem F44_ok (a : Int) (d : Bool) (f : LV) (i : Int) : FU E44 (F44 a d f i) 44 [pT 0, i64 a, vb d] [oF 2 [[lS 1 f, i64 i]]] := fu rfl rfl fun x => by kernel_rfl
/-! ## F107 -/
noncomputable def D107 (a : LV) (d : Int) : PT A107 := .ask E43 (F43_ok 65537 a d) fun ⟨f, i, j⟩ => .ask E47 (F47_ok (-1) 1 i j) fun ⟨l, m, o⟩ => .ask E43 (F43_ok 65537 m o) fun ⟨p, q, s⟩ => .ask E47 (F47_ok 0 2 q s) fun ⟨t, u, v⟩ => .auto 1 <| .ret (.a0 f l p t u v)
noncomputable def F107 (a : LV) (d : Int) : Option A107 := (D107 a d).ev some
theorem F107_ok (a : LV) (d : Int) : FU E107 (F107 a d) 107 [pT 0] [oF 2 [[lS 1 a, i64 d]]] := fu rfl rfl fun x => by kernel_rfl
/-! ## F45 -/
noncomputable def D45 (i : LV) (j : Int) : PT A45 := .ask E43 (F43_ok 4 i j) fun ⟨f, a, d⟩ => .testB (f == 0) (fun h0 => .auto 1 <| .ret (.a0 0 0 0 0 0 a d)) (fun h0 => .testB (f == 1) (fun h1 => .ask E107 (F107_ok a d) fun ⟨l, m, o, p, q, s⟩ => .auto 1 <| .ret (.a0 2 l m o p q s)) (fun h1 => .auto 1 <| .ret (.a0 1 0 0 0 0 a d)))
noncomputable def F45 (a : LV) (d : Int) : Option A45 := (D45 a d).ev some
theorem F45_ok (a : LV) (d : Int) : FU E45 (F45 a d) 45 [pT 0] [oF 2 [[lS 1 a, i64 d]]] := fu rfl rfl fun x => by kernel_rfl
/-! ## F46 -/
noncomputable abbrev B46 : Code := (Tryz.f46.body).getD .skip
inductive T46_0s0 where
  | mk (a d : Int) (f : Nat) (i j : Int) (l : LV) (m : Int) (o : LV)
inductive T46_0e0 where
  | mk (a : Nat) (d : LV) (f : Int) (i : LV)
inductive N46_0 where
  | s0 (x : T46_0s0)
  | e0 (x : T46_0e0)
abbrev N46_0.out : N46_0 → VX × S
  | .s0 (.mk a d f i j l m o) => (vN, S.mk (pT 0 :: i64 a :: i64 d :: un 4 (hS 1 f :: i64 i :: i64 j :: un 32 [])) [oF 2 [[lS 1 l, i64 m]], oT 7 o])
  | .e0 (.mk p q s t) => (vX 0, S.mk (un 7 (hS 1 p :: un 34 [])) [oF 2 [[lS 1 q, i64 s]], oT 7 t])
abbrev E46_0 := Ent.o2 N46_0.out .s0 .e0 (fun b => by cases b <;> simp)
noncomputable def D46_0 : T46_0s0 → PT N46_0 | .mk f i a j l m o d => .test (l > 0) (fun h0 => .ask E47 (F47_ok f i m o) fun ⟨p, q, s⟩ => .auto 1 <| .ask E45 (F45_ok q s) fun ⟨t, u, v, w, y, z, d0⟩ => .auto 4 <| .test (0 + a ≤ List.length d ∧ (a + 1) * 56 ≤ 140737488355328 ∧ a + 1 ≤ 140737488355328) (fun h1 => .ask E43 (F43_ok 8 z d0) fun ⟨d1, d2, d3⟩ => .ret (.s0 (.mk f i (a + 1) (w64 (w64 (j + 1) + d1)) (w64 (l - 1)) d2 d3 (List.take a d ++ [[i64 j, i64 p, i64 t, i64 u, i64 v, i64 w, i64 y]])))) (fun _ => .fail)) (fun h0 => .ret (.e0 (.mk a m o d)))
noncomputable def L46_0 := E46_0.loop fun | .s0 x => D46_0 x | _ => .fail
theorem L46_0_ok : LU 46 1 B46 0 E46_0 L46_0 :=
  lk (L := notIn []) (fun b hb => by cases b <;> first | (cases hb; done) | (rename_i x; cases x; intro x; kernel_rfl) | (intro x; kernel_rfl))
noncomputable def N46_0.nx (n : Nat) : N46_0 → Option N46_0 | .s0 x => L46_0 n (.s0 x) | .e0 x => some (.e0 x)
theorem L46_0_s0 (n : Nat) (x : T46_0s0) : L46_0 (n + 1) (.s0 x) = (D46_0 x).ev (N46_0.nx n) := Ent.loop_eq fun c => by cases c <;> rfl
noncomputable def D46 (a d : Int) (f : LV) (i : Int) : PT A46 := .ask E43 (F43_ok 6 f i) fun ⟨j, l, m⟩ => .ask E43 (F43_ok 4 l m) fun ⟨o, p, q⟩ => .cut E46_0 (L46_0_ok (.s0 (.mk a d 0 j o p q ([]))) rfl) fun | .e0 (.mk s t u v) => .ret (.a0 s t u v) | _ => .fail
noncomputable def F46 (a d : Int) (f : LV) (i : Int) : Option A46 := (D46 a d f i).ev some
theorem F46_ok (a d : Int) (f : LV) (i : Int) : FU E46 (F46 a d f i) 46 [pT 0, i64 a, i64 d] [oF 2 [[lS 1 f, i64 i]]] := fu rfl rfl fun x => by kernel_rfl
/-! ## F49 -/
noncomputable def D49 (d : LV) (f : Int) : PT A49 := .ask E43 (F43_ok 256 d f) fun ⟨i, j, l⟩ => .ask E43 (F43_ok 256 j l) fun ⟨m, o, p⟩ => .ask E43 (F43_ok 256 o p) fun ⟨q, s, t⟩ => .ask E43 (F43_ok 256 s t) fun ⟨u, v, w⟩ => .ask E43 (F43_ok 4 v w) fun ⟨a, y, z⟩ => .test (0 ≤ a ∧ a < 4) (fun h0 => .look RW5 ([[u8 (255 : Int)], [u8 (255 : Int)], [u8 (128 : Int)], [u8 (IntKind.wrap IntKind.u8 u)]][(0 : Nat) + Int.toNat a]?) fun d0 => .auto 1 <| .ret (.a0 (IntKind.wrap IntKind.u8 i) (IntKind.wrap IntKind.u8 m) (IntKind.wrap IntKind.u8 q) d0.c0 y z)) (fun _ => .fail)
noncomputable def F49 (a : LV) (d : Int) : Option A49 := (D49 a d).ev some
theorem F49_ok (a : LV) (d : Int) : FU E49 (F49 a d) 49 [pT 0] [oF 2 [[lS 1 a, i64 d]]] := fu rfl rfl fun x => by kernel_rfl
/-! ## F48 -/
noncomputable def D48 (t : LV) (u : Int) : PT A48 := .ask E43 (F43_ok 3 t u) fun ⟨a, v, w⟩ => .ask E49 (F49_ok v w) fun ⟨d, f, i, j, y, z⟩ => .ask E49 (F49_ok y z) fun ⟨l, m, o, p, q, s⟩ => .auto 2 <| .testB (a != 0) (fun h0 => .ask E106 (F106_ok (-4) 12 q s) fun ⟨d0, d1, d2, d3⟩ => .ask E106 (F106_ok (-4) 12 d2 d3) fun ⟨d4, d5, d6, d7⟩ => .ask E47 (F47_ok 0 12 d6 d7) fun ⟨d8, d9, f0⟩ => .auto 5 <| .ret (.a0 a d f i j l m o p d0 d1 d4 d5 d8 d9 f0)) (fun h0 => .auto 2 <| .ret (.a0 a d f i j l m o p 0 0 0 0 0 q s))
noncomputable def F48 (a : LV) (d : Int) : Option A48 := (D48 a d).ev some
theorem F48_ok (a : LV) (d : Int) : FU E48 (F48 a d) 48 [pT 0] [oF 2 [[lS 1 a, i64 d]]] := fu rfl rfl fun x => by kernel_rfl
/-! ## F13 -/
noncomputable abbrev B13 : Code := (Tryz.f13.body).getD .skip
inductive T13_2s0 where
  | mk (a : Int) (d : LV) (f i j : Int) (l m o : Nat) (p : Bool) (q s t u v w y z d0 d1 d2 d3 d4 d5 d6 : Int) (d7 : Nat) (d8 : Bool) (d9 : Nat) (f0 f1 f2 f3 f4 : Int) (f5 : Nat) (f6 f7 f8 f9 j0 j1 : LV)
inductive T13_2e0 where
  | mk (a : LV) (d f i : Int) (j l m : Nat) (o : Bool) (p q s t u v w y z d0 d1 d2 d3 d4 d5 : Int) (d6 : Nat) (d7 : Bool) (d8 : Nat) (d9 f0 f1 f2 f3 : Int) (f4 : Nat) (f5 f6 f7 f8 f9 j0 : LV)
inductive N13_2 where
  | s0 (x : T13_2s0)
  | e0 (x : T13_2e0)
abbrev N13_2.out : N13_2 → VX × S
  | .s0 (.mk a d f i j l m o p q s t u v w y z d0 d1 d2 d3 d4 d5 d6 d7 d8 d9 f0 f1 f2 f3 f4 f5 f6 f7 f8 f9 j0 j1) => (vN, S.mk (pT 0 :: U :: pT 1 :: pT 2 :: un 5 (i64 a :: un 145 [])) [oF 2 [[lS 1 d, i64 f]], oF 32 [[i64 0, i64 0, hS 3 0, hS 4 0, hS 5 0, vb false, i64 0, i64 0, u8 0, u8 0, u8 0, u8 0, u8 0, u8 0, u8 0, u8 0, i64 0, i64 0, i64 0, i64 0, i64 0, hS 6 0, vb false, hS 7 0, u8 0, u8 0, u8 0, u8 0, i64 0, hS 8 0, hS 9 0, hS 10 0]], oF 32 [[i64 i, i64 j, hS 11 l, hS 12 m, hS 13 o, vb p, i64 q, i64 s, u8 t, u8 u, u8 v, u8 w, u8 y, u8 z, u8 d0, u8 d1, i64 d2, i64 d3, i64 d4, i64 d5, i64 d6, hS 14 d7, vb d8, hS 15 d9, u8 f0, u8 f1, u8 f2, u8 f3, i64 f4, hS 16 f5, hS 17 0, hS 18 0]], oT 7 [], oT 7 [], oT 8 [], oT 10 [], oT 7 [], oT 1 [], oT 7 [], oT 7 [], oT 7 f6, oT 7 f7, oT 8 f8, oT 10 f9, oT 7 j0, oT 1 j1, oT 7 [], oT 7 []])
  | .e0 (.mk j2 j3 j4 j5 j6 j7 j8 j9 l0 l1 l2 l3 l4 l5 l6 l7 l8 l9 m0 m1 m2 m3 m4 m5 m6 m7 m8 m9 o0 o1 o2 o3 o4 o5 o6 o7 o8 o9) => (vX 2, S.mk (pT 0 :: U :: pT 1 :: pT 2 :: un 151 []) [oF 2 [[lS 1 j2, i64 j3]], oF 32 [[i64 0, i64 0, hS 3 0, hS 4 0, hS 5 0, vb false, i64 0, i64 0, u8 0, u8 0, u8 0, u8 0, u8 0, u8 0, u8 0, u8 0, i64 0, i64 0, i64 0, i64 0, i64 0, hS 6 0, vb false, hS 7 0, u8 0, u8 0, u8 0, u8 0, i64 0, hS 8 0, hS 9 0, hS 10 0]], oF 32 [[i64 j4, i64 j5, hS 11 j6, hS 12 j7, hS 13 j8, vb j9, i64 l0, i64 l1, u8 l2, u8 l3, u8 l4, u8 l5, u8 l6, u8 l7, u8 l8, u8 l9, i64 m0, i64 m1, i64 m2, i64 m3, i64 m4, hS 14 m5, vb m6, hS 15 m7, u8 m8, u8 m9, u8 o0, u8 o1, i64 o2, hS 16 o3, hS 17 0, hS 18 0]], oT 7 [], oT 7 [], oT 8 [], oT 10 [], oT 7 [], oT 1 [], oT 7 [], oT 7 [], oT 7 o4, oT 7 o5, oT 8 o6, oT 10 o7, oT 7 o8, oT 1 o9, oT 7 [], oT 7 []])
abbrev E13_2 := Ent.o2 N13_2.out .s0 .e0 (fun b => by cases b <;> simp)
noncomputable def D13_2 : T13_2s0 → PT N13_2 | .mk f i j l m o p q s t u v w y z d0 d1 d2 d3 d4 d5 d6 d7 d8 d9 f0 f1 f2 f3 f4 f5 f6 a f7 f8 f9 j0 j1 d => .test (f > 0) (fun h0 => .auto 1 <| .ask E47 (F47_ok 1 5 i j) fun ⟨j2, j3, j4⟩ => .auto 1 <| .test (0 + a ≤ List.length d ∧ (a + 1) * 8 ≤ 140737488355328 ∧ a + 1 ≤ 140737488355328) (fun h1 => .auto 1 <| .ret (.s0 (.mk (w64 (f - 1)) j3 j4 l m o p q s t u v w y z d0 d1 d2 d3 d4 d5 d6 d7 d8 d9 f0 f1 f2 f3 f4 f5 f6 (a + 1) f7 f8 f9 j0 j1 (List.take a d ++ [[i64 j2]])))) (fun _ => .fail)) (fun h0 => .ret (.e0 (.mk i j l m o p q s t u v w y z d0 d1 d2 d3 d4 d5 d6 d7 d8 d9 f0 f1 f2 f3 f4 f5 f6 a f7 f8 f9 j0 j1 d)))
noncomputable def L13_2 := E13_2.loop fun | .s0 x => D13_2 x | _ => .fail
theorem L13_2_ok : LU 13 1 B13 2 E13_2 L13_2 :=
  lk (L := notIn []) (fun b hb => by cases b <;> first | (cases hb; done) | (rename_i x; cases x; intro x; kernel_rfl) | (intro x; kernel_rfl))
noncomputable def N13_2.nx (n : Nat) : N13_2 → Option N13_2 | .s0 x => L13_2 n (.s0 x) | .e0 x => some (.e0 x)
theorem L13_2_s0 (n : Nat) (x : T13_2s0) : L13_2 (n + 1) (.s0 x) = (D13_2 x).ev (N13_2.nx n) := Ent.loop_eq fun c => by cases c <;> rfl
inductive T13_r21s0 where
  | mk (a : LV) (d f i : Int) (j l m : Nat) (o : Bool) (p q s t u v w y z d0 d1 d2 d3 d4 d5 : Int) (d6 : Nat) (d7 d8 d9 f0 : LV)
abbrev T13_r21s0.st : T13_r21s0 → S
  | .mk a d f i j l m o p q s t u v w y z d0 d1 d2 d3 d4 d5 d6 d7 d8 d9 f0 => S.mk (pT 0 :: U :: pT 1 :: pT 2 :: un 151 []) [oF 2 [[lS 1 a, i64 d]], oF 32 [[i64 0, i64 0, hS 3 0, hS 4 0, hS 5 0, vb false, i64 0, i64 0, u8 0, u8 0, u8 0, u8 0, u8 0, u8 0, u8 0, u8 0, i64 0, i64 0, i64 0, i64 0, i64 0, hS 6 0, vb false, hS 7 0, u8 0, u8 0, u8 0, u8 0, i64 0, hS 8 0, hS 9 0, hS 10 0]], oF 32 [[i64 f, i64 i, hS 11 j, hS 12 l, hS 13 m, vb o, i64 p, i64 q, u8 s, u8 t, u8 u, u8 v, u8 w, u8 y, u8 z, u8 d0, i64 d1, i64 d2, i64 d3, i64 d4, i64 d5, hS 14 d6, vb false, hS 15 0, u8 0, u8 0, u8 0, u8 0, i64 0, hS 16 0, hS 17 0, hS 18 0]], oT 7 [], oT 7 [], oT 8 [], oT 10 [], oT 7 [], oT 1 [], oT 7 [], oT 7 [], oT 7 d7, oT 7 d8, oT 8 d9, oT 10 f0, oT 7 [], oT 1 [], oT 7 [], oT 7 []]
inductive T13_r21e0 where
  | mk (a : LV) (d f i : Int) (j l m : Nat) (o : Bool) (p q s t u v w y z d0 d1 d2 d3 d4 d5 : Int) (d6 : Nat) (d7 : Bool) (d8 d9 f0 f1 : LV)
inductive N13_r21 where
  | e0 (x : T13_r21e0)
abbrev N13_r21.out : N13_r21 → VX × S
  | .e0 (.mk a d f i j l m o p q s t u v w y z d0 d1 d2 d3 d4 d5 d6 d7 d8 d9 f0 f1) => (vN, S.mk (pT 0 :: U :: pT 1 :: pT 2 :: un 151 []) [oF 2 [[lS 1 a, i64 d]], oF 32 [[i64 0, i64 0, hS 3 0, hS 4 0, hS 5 0, vb false, i64 0, i64 0, u8 0, u8 0, u8 0, u8 0, u8 0, u8 0, u8 0, u8 0, i64 0, i64 0, i64 0, i64 0, i64 0, hS 6 0, vb false, hS 7 0, u8 0, u8 0, u8 0, u8 0, i64 0, hS 8 0, hS 9 0, hS 10 0]], oF 32 [[i64 f, i64 i, hS 11 j, hS 12 l, hS 13 m, vb o, i64 p, i64 q, u8 s, u8 t, u8 u, u8 v, u8 w, u8 y, u8 z, u8 d0, i64 d1, i64 d2, i64 d3, i64 d4, i64 d5, hS 14 d6, vb d7, hS 15 0, u8 0, u8 0, u8 0, u8 0, i64 0, hS 16 0, hS 17 0, hS 18 0]], oT 7 [], oT 7 [], oT 8 [], oT 10 [], oT 7 [], oT 1 [], oT 7 [], oT 7 [], oT 7 d8, oT 7 d9, oT 8 f0, oT 10 f1, oT 7 [], oT 1 [], oT 7 [], oT 7 []])
abbrev E13_r21 := Ent.o1 N13_r21.out .e0 fun ⟨x⟩ => ⟨x, rfl⟩
noncomputable def D13_r21 : T13_r21s0 → PT N13_r21 | .mk f1 f2 d f i j l a m o p q s t u v w y z d0 d1 d2 d3 d4 d5 d6 d7 d8 => .ask E43 (F43_ok 3 f1 f2) fun ⟨f3, d9, f0⟩ => .testB (f3 == 0) (fun h0 => .auto 4 <| .ret (.e0 (.mk d9 f0 d f i j l a m o p q s t u v w y z d0 d1 d2 d3 d4 true d5 d6 d7 d8))) (fun h0 => .auto 5 <| .ret (.e0 (.mk d9 f0 d f i j l a m o p q s t u v w y z d0 d1 d2 d3 d4 (!a) d5 d6 d7 d8)))
noncomputable def J13_r21 (y : T13_r21s0) : Option N13_r21 := (D13_r21 y).ev some
theorem J13_r21_ok (y : T13_r21s0) : ∀ b, J13_r21 y = some b → regP Tryz.prog X CC 13 1 B13 21 y.st = some (E13_r21.out b) := by
  cases y; exact reg_ok (E := E13_r21) (fun x => by kernel_rfl)
inductive T13_c90s0 where
  | mk (a : Bool) (d : LV) (f i j : Int) (l m o : Nat) (p : Bool) (q s t u v w y z d0 d1 d2 d3 d4 d5 d6 : Int) (d7 d8 d9 : LV)
abbrev T13_c90s0.st : T13_c90s0 → S
  | .mk a d f i j l m o p q s t u v w y z d0 d1 d2 d3 d4 d5 d6 d7 d8 d9 => S.mk (pT 0 :: U :: pT 1 :: pT 2 :: un 86 (vb a :: un 64 [])) [oF 2 [[lS 1 d, i64 f]], oF 32 [[i64 0, i64 0, hS 3 0, hS 4 0, hS 5 0, vb false, i64 0, i64 0, u8 0, u8 0, u8 0, u8 0, u8 0, u8 0, u8 0, u8 0, i64 0, i64 0, i64 0, i64 0, i64 0, hS 6 0, vb false, hS 7 0, u8 0, u8 0, u8 0, u8 0, i64 0, hS 8 0, hS 9 0, hS 10 0]], oF 32 [[i64 i, i64 j, hS 11 l, hS 12 m, hS 13 o, vb p, i64 q, i64 s, u8 t, u8 u, u8 v, u8 w, u8 y, u8 z, u8 d0, u8 d1, i64 d2, i64 d3, i64 d4, i64 d5, i64 d6, hS 14 0, vb false, hS 15 0, u8 0, u8 0, u8 0, u8 0, i64 0, hS 16 0, hS 17 0, hS 18 0]], oT 7 [], oT 7 [], oT 8 [], oT 10 [], oT 7 [], oT 1 [], oT 7 [], oT 7 [], oT 7 d7, oT 7 d8, oT 8 d9, oT 10 [], oT 7 [], oT 1 [], oT 7 [], oT 7 []]
inductive T13_c90e0 where
  | mk (a : LV) (d f i : Int) (j l m : Nat) (o : Bool) (p q s t u v w y z d0 d1 d2 d3 d4 d5 : Int) (d6 : Nat) (d7 d8 d9 f0 : LV)
inductive N13_c90 where
  | e0 (x : T13_c90e0)
abbrev N13_c90.out : N13_c90 → VX × S
  | .e0 (.mk a d f i j l m o p q s t u v w y z d0 d1 d2 d3 d4 d5 d6 d7 d8 d9 f0) => (vN, S.mk (pT 0 :: U :: pT 1 :: pT 2 :: un 151 []) [oF 2 [[lS 1 a, i64 d]], oF 32 [[i64 0, i64 0, hS 3 0, hS 4 0, hS 5 0, vb false, i64 0, i64 0, u8 0, u8 0, u8 0, u8 0, u8 0, u8 0, u8 0, u8 0, i64 0, i64 0, i64 0, i64 0, i64 0, hS 6 0, vb false, hS 7 0, u8 0, u8 0, u8 0, u8 0, i64 0, hS 8 0, hS 9 0, hS 10 0]], oF 32 [[i64 f, i64 i, hS 11 j, hS 12 l, hS 13 m, vb o, i64 p, i64 q, u8 s, u8 t, u8 u, u8 v, u8 w, u8 y, u8 z, u8 d0, i64 d1, i64 d2, i64 d3, i64 d4, i64 d5, hS 14 d6, vb false, hS 15 0, u8 0, u8 0, u8 0, u8 0, i64 0, hS 16 0, hS 17 0, hS 18 0]], oT 7 [], oT 7 [], oT 8 [], oT 10 [], oT 7 [], oT 1 [], oT 7 [], oT 7 [], oT 7 d7, oT 7 d8, oT 8 d9, oT 10 f0, oT 7 [], oT 1 [], oT 7 [], oT 7 []])
abbrev E13_c90 := Ent.o1 N13_c90.out .e0 fun ⟨x⟩ => ⟨x, rfl⟩
noncomputable def D13_c90 : T13_c90s0 → PT N13_c90 | .mk d9 a d f i j l m o p q s t u v w y z d0 d1 d2 d3 d4 d5 d6 d7 d8 => .testB d9 (fun h0 => .ask E43 (F43_ok 5 a d) fun ⟨f0, f1, f2⟩ => .ask E49 (F49_ok f1 f2) fun ⟨f3, f4, f5, f6, f7, f8⟩ => .ask E43 (F43_ok 9 f7 f8) fun ⟨f9, j0, j1⟩ => .ask E49 (F49_ok j0 j1) fun ⟨j2, j3, j4, j5, j6, j7⟩ => .auto 1 <| .ret (.e0 (.mk j6 j7 f i j l m o p q s t u v w y z d0 d1 d2 d3 d4 d5 2 d6 d7 d8 ([[i64 f0, u8 f3, u8 f4, u8 f5, u8 f6, i64 1, i64 0, i64 0, i64 0, i64 0], [i64 (w64 (5 + f9)), u8 j2, u8 j3, u8 j4, u8 j5, i64 0, i64 0, i64 0, i64 0, i64 0]])))) (fun h0 => .ret (.e0 (.mk a d f i j l m o p q s t u v w y z d0 d1 d2 d3 d4 d5 0 d6 d7 d8 ([]))))
noncomputable def J13_c90 (y : T13_c90s0) : Option N13_c90 := (D13_c90 y).ev some
theorem J13_c90_ok (y : T13_c90s0) : CU 13 1 B13 90 E13_c90 (J13_c90 y) y.st := by
  cases y; exact cond_ok (L := notIn []) fun x => by kernel_rfl
inductive T13_0s0 where
  | mk (a : Int) (d : Bool) (f i : Int) (j : LV) (l m o : Int) (p : Nat) (q : LV)
inductive T13_0e0 where
  | mk (a : LV) (d f i : Int) (j : Nat) (l : LV)
inductive N13_0 where
  | s0 (x : T13_0s0)
  | e0 (x : T13_0e0)
abbrev N13_0.out : N13_0 → VX × S
  | .s0 (.mk a d f i j l m o p q) => (vN, S.mk (pT 0 :: U :: pT 1 :: pT 2 :: i64 a :: vb d :: i64 f :: i64 i :: un 147 []) [oF 2 [[lS 1 j, i64 l]], oF 32 [[i64 0, i64 0, hS 3 0, hS 4 0, hS 5 0, vb false, i64 0, i64 0, u8 0, u8 0, u8 0, u8 0, u8 0, u8 0, u8 0, u8 0, i64 0, i64 0, i64 0, i64 0, i64 0, hS 6 0, vb false, hS 7 0, u8 0, u8 0, u8 0, u8 0, i64 0, hS 8 0, hS 9 0, hS 10 0]], oF 32 [[i64 m, i64 o, hS 11 0, hS 12 0, hS 13 p, vb false, i64 0, i64 0, u8 0, u8 0, u8 0, u8 0, u8 0, u8 0, u8 0, u8 0, i64 0, i64 0, i64 0, i64 0, i64 0, hS 14 0, vb false, hS 15 0, u8 0, u8 0, u8 0, u8 0, i64 0, hS 16 0, hS 17 0, hS 18 0]], oT 7 [], oT 7 [], oT 8 [], oT 10 [], oT 7 [], oT 1 [], oT 7 [], oT 7 [], oT 7 [], oT 7 [], oT 8 q, oT 10 [], oT 7 [], oT 1 [], oT 7 [], oT 7 []])
  | .e0 (.mk s t u v w y) => (vX 0, S.mk (pT 0 :: U :: pT 1 :: pT 2 :: un 151 []) [oF 2 [[lS 1 s, i64 t]], oF 32 [[i64 0, i64 0, hS 3 0, hS 4 0, hS 5 0, vb false, i64 0, i64 0, u8 0, u8 0, u8 0, u8 0, u8 0, u8 0, u8 0, u8 0, i64 0, i64 0, i64 0, i64 0, i64 0, hS 6 0, vb false, hS 7 0, u8 0, u8 0, u8 0, u8 0, i64 0, hS 8 0, hS 9 0, hS 10 0]], oF 32 [[i64 u, i64 v, hS 11 0, hS 12 0, hS 13 w, vb false, i64 0, i64 0, u8 0, u8 0, u8 0, u8 0, u8 0, u8 0, u8 0, u8 0, i64 0, i64 0, i64 0, i64 0, i64 0, hS 14 0, vb false, hS 15 0, u8 0, u8 0, u8 0, u8 0, i64 0, hS 16 0, hS 17 0, hS 18 0]], oT 7 [], oT 7 [], oT 8 [], oT 10 [], oT 7 [], oT 1 [], oT 7 [], oT 7 [], oT 7 [], oT 7 [], oT 8 y, oT 10 [], oT 7 [], oT 1 [], oT 7 [], oT 7 []])
abbrev E13_0 := Ent.o2 N13_0.out .s0 .e0 (fun b => by cases b <;> simp)
noncomputable def D13_0 : T13_0s0 → PT N13_0 | .mk f i j l m o p q a d => .test (l > 0) (fun h0 => .ask E44 (F44_ok f i m o) fun ⟨u, s, v, w, t⟩ => .auto 1 <| .ask E45 (F45_ok v w) fun ⟨y, z, d0, d1, d2, d3, d4⟩ => .auto 4 <| .test (0 + s ≤ List.length t) (fun h1 => .auto 1 <| .test (0 + a ≤ List.length d ∧ (a + 1) * 80 ≤ 140737488355328 ∧ a + 1 ≤ 140737488355328) (fun h2 => .auto 1 <| .ask E43 (F43_ok 6 d3 d4) fun ⟨d5, d6, d7⟩ => .ret (.s0 (.mk f i (w64 (w64 (j + 1) + d5)) (w64 (l - 1)) d6 d7 p q (a + 1) (List.take a d ++ [[i64 j, vb u, lS 2 (List.take s t), i64 y, i64 z, i64 d0, i64 d1, i64 d2]])))) (fun _ => .fail)) (fun _ => .fail)) (fun h0 => .ret (.e0 (.mk m o p q a d)))
noncomputable def L13_0 := E13_0.loop fun | .s0 x => D13_0 x | _ => .fail
theorem L13_0_ok : LU 13 1 B13 0 E13_0 L13_0 :=
  lk (L := notIn []) (fun b hb => by cases b <;> first | (cases hb; done) | (rename_i x; cases x; intro x; kernel_rfl) | (intro x; kernel_rfl))
noncomputable def N13_0.nx (n : Nat) : N13_0 → Option N13_0 | .s0 x => L13_0 n (.s0 x) | .e0 x => some (.e0 x)
theorem L13_0_s0 (n : Nat) (x : T13_0s0) : L13_0 (n + 1) (.s0 x) = (D13_0 x).ev (N13_0.nx n) := Ent.loop_eq fun c => by cases c <;> rfl
inductive T13_c22s0 where
  | mk (a : Bool) (d : LV) (f i j : Int)
abbrev T13_c22s0.st : T13_c22s0 → S
  | .mk a d f i j => S.mk (pT 0 :: U :: pT 1 :: pT 2 :: un 18 (vb a :: un 132 [])) [oF 2 [[lS 1 d, i64 f]], oF 32 [[i64 0, i64 0, hS 3 0, hS 4 0, hS 5 0, vb false, i64 0, i64 0, u8 0, u8 0, u8 0, u8 0, u8 0, u8 0, u8 0, u8 0, i64 0, i64 0, i64 0, i64 0, i64 0, hS 6 0, vb false, hS 7 0, u8 0, u8 0, u8 0, u8 0, i64 0, hS 8 0, hS 9 0, hS 10 0]], oF 32 [[i64 i, i64 j, hS 11 0, hS 12 0, hS 13 0, vb false, i64 0, i64 0, u8 0, u8 0, u8 0, u8 0, u8 0, u8 0, u8 0, u8 0, i64 0, i64 0, i64 0, i64 0, i64 0, hS 14 0, vb false, hS 15 0, u8 0, u8 0, u8 0, u8 0, i64 0, hS 16 0, hS 17 0, hS 18 0]], oT 7 [], oT 7 [], oT 8 [], oT 10 [], oT 7 [], oT 1 [], oT 7 [], oT 7 [], oT 7 [], oT 7 [], oT 8 [], oT 10 [], oT 7 [], oT 1 [], oT 7 [], oT 7 []]
inductive T13_c22e0 where
  | mk (a : LV) (d f i : Int) (j l m : Nat) (o p q : LV)
inductive N13_c22 where
  | e0 (x : T13_c22e0)
abbrev N13_c22.out : N13_c22 → VX × S
  | .e0 (.mk a d f i j l m o p q) => (vN, S.mk (pT 0 :: U :: pT 1 :: pT 2 :: un 151 []) [oF 2 [[lS 1 a, i64 d]], oF 32 [[i64 0, i64 0, hS 3 0, hS 4 0, hS 5 0, vb false, i64 0, i64 0, u8 0, u8 0, u8 0, u8 0, u8 0, u8 0, u8 0, u8 0, i64 0, i64 0, i64 0, i64 0, i64 0, hS 6 0, vb false, hS 7 0, u8 0, u8 0, u8 0, u8 0, i64 0, hS 8 0, hS 9 0, hS 10 0]], oF 32 [[i64 f, i64 i, hS 11 j, hS 12 l, hS 13 m, vb false, i64 0, i64 0, u8 0, u8 0, u8 0, u8 0, u8 0, u8 0, u8 0, u8 0, i64 0, i64 0, i64 0, i64 0, i64 0, hS 14 0, vb false, hS 15 0, u8 0, u8 0, u8 0, u8 0, i64 0, hS 16 0, hS 17 0, hS 18 0]], oT 7 [], oT 7 [], oT 8 [], oT 10 [], oT 7 [], oT 1 [], oT 7 [], oT 7 [], oT 7 o, oT 7 p, oT 8 q, oT 10 [], oT 7 [], oT 1 [], oT 7 [], oT 7 []])
abbrev E13_c22 := Ent.o1 N13_c22.out .e0 fun ⟨x⟩ => ⟨x, rfl⟩
noncomputable def D13_c22 : T13_c22s0 → PT N13_c22 | .mk p f i j l => .testB p (fun h0 => .ask E43 (F43_ok 3 f i) fun ⟨q, s, t⟩ => .ask E43 (F43_ok 2 s t) fun ⟨u, v, w⟩ => .ask E43 (F43_ok 4 v w) fun ⟨y, z, d0⟩ => .ask E43 (F43_ok 3 z d0) fun ⟨d1, d2, d3⟩ => .cut E13_0 (L13_0_ok (.s0 (.mk (w64 (1 + q)) (u == 0) y (w64 (1 + d1)) d2 d3 j l 0 ([]))) rfl) fun | .e0 (.mk d4 d5 d6 d7 d8 d9) => .ret (.e0 (.mk d4 d5 d6 d7 0 0 d8 ([]) ([]) d9)) | _ => .fail) (fun h0 => .ask E46 (F46_ok 1 14 f i) fun ⟨a, f0, f1, m⟩ => .ask E47 (F47_ok 1 14 f0 f1) fun ⟨f2, f3, f4⟩ => .auto 1 <| .test (0 + a ≤ List.length m ∧ (a + 1) * 56 ≤ 140737488355328 ∧ a + 1 ≤ 140737488355328) (fun h1 => .auto 1 <| .ask E46 (F46_ok 1 14 f3 f4) fun ⟨d, f5, f6, o⟩ => .ask E47 (F47_ok 1 14 f5 f6) fun ⟨f7, f8, f9⟩ => .auto 1 <| .test (0 + d ≤ List.length o ∧ (d + 1) * 56 ≤ 140737488355328 ∧ d + 1 ≤ 140737488355328) (fun h2 => .auto 1 <| .ret (.e0 (.mk f8 f9 j l (a + 1) (d + 1) 0 (List.take a m ++ [[i64 60, i64 f2, i64 0, i64 0, i64 0, i64 0, i64 0]]) (List.take d o ++ [[i64 60, i64 f7, i64 0, i64 0, i64 0, i64 0, i64 0]]) ([])))) (fun _ => .fail)) (fun _ => .fail))
noncomputable def J13_c22 (y : T13_c22s0) : Option N13_c22 := (D13_c22 y).ev some
theorem J13_c22_ok (y : T13_c22s0) : CU 13 1 B13 22 E13_c22 (J13_c22 y) y.st := by
  cases y; exact cond_ok (L := notIn []) fun x => by kernel_rfl
inductive T13_c15s0 where
  | mk (a : Bool) (d : LV) (f i : Int)
abbrev T13_c15s0.st : T13_c15s0 → S
  | .mk a d f i => S.mk (pT 0 :: U :: pT 1 :: pT 2 :: un 11 (vb a :: un 139 [])) [oF 2 [[lS 1 d, i64 f]], oF 32 [[i64 0, i64 0, hS 3 0, hS 4 0, hS 5 0, vb false, i64 0, i64 0, u8 0, u8 0, u8 0, u8 0, u8 0, u8 0, u8 0, u8 0, i64 0, i64 0, i64 0, i64 0, i64 0, hS 6 0, vb false, hS 7 0, u8 0, u8 0, u8 0, u8 0, i64 0, hS 8 0, hS 9 0, hS 10 0]], oF 32 [[i64 i, i64 0, hS 11 0, hS 12 0, hS 13 0, vb false, i64 0, i64 0, u8 0, u8 0, u8 0, u8 0, u8 0, u8 0, u8 0, u8 0, i64 0, i64 0, i64 0, i64 0, i64 0, hS 14 0, vb false, hS 15 0, u8 0, u8 0, u8 0, u8 0, i64 0, hS 16 0, hS 17 0, hS 18 0]], oT 7 [], oT 7 [], oT 8 [], oT 10 [], oT 7 [], oT 1 [], oT 7 [], oT 7 [], oT 7 [], oT 7 [], oT 8 [], oT 10 [], oT 7 [], oT 1 [], oT 7 [], oT 7 []]
inductive T13_c15e0 where
  | mk (a : LV) (d f i : Int)
inductive N13_c15 where
  | e0 (x : T13_c15e0)
abbrev N13_c15.out : N13_c15 → VX × S
  | .e0 (.mk a d f i) => (vN, S.mk (pT 0 :: U :: pT 1 :: pT 2 :: un 151 []) [oF 2 [[lS 1 a, i64 d]], oF 32 [[i64 0, i64 0, hS 3 0, hS 4 0, hS 5 0, vb false, i64 0, i64 0, u8 0, u8 0, u8 0, u8 0, u8 0, u8 0, u8 0, u8 0, i64 0, i64 0, i64 0, i64 0, i64 0, hS 6 0, vb false, hS 7 0, u8 0, u8 0, u8 0, u8 0, i64 0, hS 8 0, hS 9 0, hS 10 0]], oF 32 [[i64 f, i64 i, hS 11 0, hS 12 0, hS 13 0, vb false, i64 0, i64 0, u8 0, u8 0, u8 0, u8 0, u8 0, u8 0, u8 0, u8 0, i64 0, i64 0, i64 0, i64 0, i64 0, hS 14 0, vb false, hS 15 0, u8 0, u8 0, u8 0, u8 0, i64 0, hS 16 0, hS 17 0, hS 18 0]], oT 7 [], oT 7 [], oT 8 [], oT 10 [], oT 7 [], oT 1 [], oT 7 [], oT 7 [], oT 7 [], oT 7 [], oT 8 [], oT 10 [], oT 7 [], oT 1 [], oT 7 [], oT 7 []])
abbrev E13_c15 := Ent.o1 N13_c15.out .e0 fun ⟨x⟩ => ⟨x, rfl⟩
noncomputable def D13_c15 : T13_c15s0 → PT N13_c15 | .mk i a d f => .testB i (fun h0 => .ask E43 (F43_ok 5 a d) fun ⟨j, l, m⟩ => .auto 1 <| .ret (.e0 (.mk l m f (w64 (2 + j))))) (fun h0 => .ret (.e0 (.mk a d f 0)))
noncomputable def J13_c15 (y : T13_c15s0) : Option N13_c15 := (D13_c15 y).ev some
theorem J13_c15_ok (y : T13_c15s0) : CU 13 1 B13 15 E13_c15 (J13_c15 y) y.st := by
  cases y; exact cond_ok (L := notIn []) fun x => by kernel_rfl
noncomputable def D13 (o4 : LV) (o5 : Int) : PT A13 := .ask E43 (F43_ok 4 o4 o5) fun ⟨f, o6, o7⟩ => .auto 2 <| .cut E13_c15 (J13_c15_ok (.mk (f == 2) o6 o7 f)) fun | .e0 (.mk o8 o9 i p0) => .auto 1 <| .cut E13_c22 (J13_c22_ok (.mk (i == 3) o8 o9 i p0)) fun | .e0 (.mk p1 p2 p3 p4 p5 p6 p7 p8 p9 q0) => .ask E43 (F43_ok 3 p1 p2) fun ⟨q1, q2, q3⟩ => .auto 1 <| .ask E43 (F43_ok 2 q2 q3) fun ⟨q4, q5, q6⟩ => .auto 1 <| .ask E48 (F48_ok q5 q6) fun ⟨q7, q8, q9, t0, t1, t2, t3, t4, t5, t6, t7, t8, t9, v0, v1, v2⟩ => .auto 1 <| .ask E43 (F43_ok 3 v1 v2) fun ⟨v3, v4, v5⟩ => .cut E13_c90 (J13_c90_ok (.mk (v3 == 0) v4 v5 p3 p4 p5 p6 p7 (decide (q1 > 0)) q4 q7 q8 q9 t0 t1 t2 t3 t4 t5 t6 t7 t8 t9 v0 p8 p9 q0)) fun | .e0 (.mk v6 v7 v8 v9 y0 y1 y2 y3 y4 y5 y6 y7 y8 y9 z0 z1 z2 z3 z4 z5 z6 z7 z8 z9 d10 d11 d12 d13) => .cut E13_r21 (J13_r21_ok (.mk v6 v7 v8 v9 y0 y1 y2 y3 y4 y5 y6 y7 y8 y9 z0 z1 z2 z3 z4 z5 z6 z7 z8 z9 d10 d11 d12 d13)) fun | .e0 (.mk j l m o p q s t u v w y z d0 d1 d2 d3 d4 d5 d6 d7 d8 d9 f0 d f1 f2 f3 f4) => .auto 1 <| .testB d (fun h0 => .ask E46 (F46_ok 0 4 j l) fun ⟨a, d14, d15, f5⟩ => .ask E47 (F47_ok 1 4 d14 d15) fun ⟨d16, d17, d18⟩ => .auto 1 <| .test (0 + a ≤ List.length f5 ∧ (a + 1) * 56 ≤ 140737488355328 ∧ a + 1 ≤ 140737488355328) (fun h1 => .auto 1 <| .ask E49 (F49_ok d17 d18) fun ⟨d19, d20, d21, d22, d23, d24⟩ => .auto 1 <| .ask E43 (F43_ok 2 d23 d24) fun ⟨d25, d26, d27⟩ => .auto 1 <| .ask E43 (F43_ok 4 d26 d27) fun ⟨d28, d29, d30⟩ => .ask E43 (F43_ok 2 d29 d30) fun ⟨d31, d32, d33⟩ => .cut E13_2 (L13_2_ok (.s0 (.mk (w64 (d28 * d31)) d32 d33 m o p q s t u v w y z d0 d1 d2 d3 d4 d5 d6 d7 d8 d9 f0 d (a + 1) d19 d20 d21 d22 d25 0 f1 f2 f3 f4 (List.take a f5 ++ [[i64 60, i64 d16, i64 0, i64 0, i64 0, i64 0, i64 0]]) ([]))) rfl) fun | .e0 (.mk d34 d35 f6 f7 f8 f9 j0 j1 j2 j3 j4 j5 j6 j7 j8 j9 l0 l1 l2 l3 l4 l5 l6 l7 l8 l9 m0 m1 m2 m3 m4 m5 m6 m7 m8 m9 o0 o1) => (.ask E43 (F43_ok 2 d34 d35) fun ⟨d36, o2, o3⟩ => .testB (d36 == 0) (fun h2 => .ask E46 (F46_ok 0 1 o2 o3) fun ⟨d37, d38, d39, d40⟩ => .ask E46 (F46_ok 0 1 d38 d39) fun ⟨d41, d42, d43, d44⟩ => .auto 4 <| .ret (.a0 f6 f7 f8 f9 j0 j1 j2 j3 j4 j5 j6 j7 j8 j9 l0 l1 l2 l3 l4 l5 l6 l7 l8 l9 m0 m1 m2 m3 m4 m5 d37 d41 d42 d43 m6 m7 m8 m9 o0 o1 d40 d44)) (fun h2 => .auto 2 <| .ret (.a0 f6 f7 f8 f9 j0 j1 j2 j3 j4 j5 j6 j7 j8 j9 l0 l1 l2 l3 l4 l5 l6 l7 l8 l9 m0 m1 m2 m3 m4 m5 0 0 o2 o3 m6 m7 m8 m9 o0 o1 ([]) ([])))) | _ => .fail) (fun _ => .fail)) (fun h0 => .auto 2 <| .ret (.a0 m o p q s t u v w y z d0 d1 d2 d3 d4 d5 d6 d7 d8 d9 f0 d 0 0 0 0 0 0 0 0 0 j l f1 f2 f3 f4 ([]) ([]) ([]) ([])))
noncomputable def F13 (a : LV) (d : Int) : Option A13 := (D13 a d).ev some
theorem F13_ok (a : LV) (d : Int) : FU E13 (F13 a d) 13 [pT 0] [oF 2 [[lS 1 a, i64 d]]] := fu rfl rfl fun x => by kernel_rfl
end Go.Proofs.YtifalphladcdcaaGreat.H
