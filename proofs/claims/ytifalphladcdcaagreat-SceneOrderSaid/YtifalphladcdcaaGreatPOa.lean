/- What the functions compute, and that they do so over the machine of plain values (printed by this session's program wip/vm/Walk.lean). No condition beyond those stated. -/
import Derived.Test.YtifalphladcdcaaGreatWk
import Derived.Test.YtifalphladcdcaaGreatHB
import Derived.Test.YtifalphladcdcaaGreatRowsR5Z
set_option linter.unusedVariables false
set_option linter.unusedSimpArgs false
namespace Go.Proofs.YtifalphladcdcaaGreat.H
open Go Go.VM
set_option maxRecDepth 100000
/-! ## types -/
def Y0 : ByteArray := ByteArray.mk (List.toArray (List.append (List.append [0, 1, 2, 2, 3, 3, 3, 3, 4, 4, 4, 4, 4, 4, 4, 4, 5, 5, 5, 5, 5, 5, 5, 5, 5, 5, 5, 5, 5, 5, 5, 5, 6, 6, 6, 6, 6, 6, 6, 6, 6, 6, 6, 6, 6, 6, 6, 6, 6, 6, 6, 6, 6, 6, 6, 6, 6, 6, 6, 6, 6, 6, 6, 6] [7, 7, 7, 7, 7, 7, 7, 7, 7, 7, 7, 7, 7, 7, 7, 7, 7, 7, 7, 7, 7, 7, 7, 7, 7, 7, 7, 7, 7, 7, 7, 7, 7, 7, 7, 7, 7, 7, 7, 7, 7, 7, 7, 7, 7, 7, 7, 7, 7, 7, 7, 7, 7, 7, 7, 7, 7, 7, 7, 7, 7, 7, 7, 7]) (List.append [8, 8, 8, 8, 8, 8, 8, 8, 8, 8, 8, 8, 8, 8, 8, 8, 8, 8, 8, 8, 8, 8, 8, 8, 8, 8, 8, 8, 8, 8, 8, 8, 8, 8, 8, 8, 8, 8, 8, 8, 8, 8, 8, 8, 8, 8, 8, 8, 8, 8, 8, 8, 8, 8, 8, 8, 8, 8, 8, 8, 8, 8, 8, 8] [8, 8, 8, 8, 8, 8, 8, 8, 8, 8, 8, 8, 8, 8, 8, 8, 8, 8, 8, 8, 8, 8, 8, 8, 8, 8, 8, 8, 8, 8, 8, 8, 8, 8, 8, 8, 8, 8, 8, 8, 8, 8, 8, 8, 8, 8, 8, 8, 8, 8, 8, 8, 8, 8, 8, 8, 8, 8, 8, 8, 8, 8, 8, 8])))
inductive A19 where
  | a0 (a : Int)
abbrev A19.out : A19 → V × Store
  | .a0 a => (i64 a, [])
abbrev E19 := Ent.o0 A19.out
inductive A43 where
  | a0 (a : Int) (d : LV) (f : Int)
abbrev A43.out : A43 → V × Store
  | .a0 a d f => (i64 a, [oF 2 [[lS 1 d, i64 f]]])
abbrev E43 := Ent.o0 A43.out
inductive A47 where
  | a0 (a : Int) (d : LV) (f : Int)
abbrev A47.out : A47 → V × Store
  | .a0 a d f => (i64 a, [oF 2 [[lS 1 d, i64 f]]])
abbrev E47 := Ent.o0 A47.out
inductive A106 where
  | a0 (a d : Int) (f : LV) (i : Int)
abbrev A106.out : A106 → V × Store
  | .a0 a d f i => (V.agg [i64 a, i64 d], [oF 2 [[lS 1 f, i64 i]]])
abbrev E106 := Ent.o0 A106.out
inductive A44 where
  | a0 (a : Bool) (d : Nat) (f : LV) (i : Int) (j : LV)
abbrev A44.out : A44 → V × Store
  | .a0 a d f i j => (V.agg [vb a, hS 1 d], [oF 2 [[lS 1 f, i64 i]], oT 2 j])
abbrev E44 := Ent.o0 A44.out
inductive A107 where
  | a0 (a d f i : Int) (j : LV) (l : Int)
abbrev A107.out : A107 → V × Store
  | .a0 a d f i j l => (V.agg [i64 a, i64 d, i64 f, i64 i], [oF 2 [[lS 1 j, i64 l]]])
abbrev E107 := Ent.o0 A107.out
inductive A45 where
  | a0 (a d f i j : Int) (l : LV) (m : Int)
abbrev A45.out : A45 → V × Store
  | .a0 a d f i j l m => (V.tup [i64 a, V.agg [i64 d, i64 f, i64 i, i64 j]], [oF 2 [[lS 1 l, i64 m]]])
abbrev E45 := Ent.o0 A45.out
inductive A46 where
  | a0 (a : Nat) (d : LV) (f : Int) (i : LV)
abbrev A46.out : A46 → V × Store
  | .a0 a d f i => (hS 1 a, [oF 2 [[lS 1 d, i64 f]], oT 7 i])
abbrev E46 := Ent.o0 A46.out
inductive A49 where
  | a0 (a d f i : Int) (j : LV) (l : Int)
abbrev A49.out : A49 → V × Store
  | .a0 a d f i j l => (V.agg [u8 a, u8 d, u8 f, u8 i], [oF 2 [[lS 1 j, i64 l]]])
abbrev E49 := Ent.o0 A49.out
inductive A48 where
  | a0 (a d f i j l m o p q s t u v : Int) (w : LV) (y : Int)
abbrev A48.out : A48 → V × Store
  | .a0 a d f i j l m o p q s t u v w y => (V.agg [i64 a, u8 d, u8 f, u8 i, u8 j, u8 l, u8 m, u8 o, u8 p, i64 q, i64 s, i64 t, i64 u, i64 v], [oF 2 [[lS 1 w, i64 y]]])
abbrev E48 := Ent.o0 A48.out
inductive A13 where
  | a0 (a d : Int) (f i j : Nat) (l : Bool) (m o p q s t u v w y z d0 d1 d2 d3 : Int) (d4 : Nat) (d5 : Bool) (d6 : Nat) (d7 d8 d9 f0 f1 : Int) (f2 f3 f4 : Nat) (f5 : LV) (f6 : Int) (f7 f8 f9 j0 j1 j2 j3 j4 : LV)
abbrev A13.out : A13 → V × Store
  | .a0 a d f i j l m o p q s t u v w y z d0 d1 d2 d3 d4 d5 d6 d7 d8 d9 f0 f1 f2 f3 f4 f5 f6 f7 f8 f9 j0 j1 j2 j3 j4 => (V.agg [i64 a, i64 d, hS 1 f, hS 2 i, hS 3 j, vb l, i64 m, i64 o, u8 p, u8 q, u8 s, u8 t, u8 u, u8 v, u8 w, u8 y, i64 z, i64 d0, i64 d1, i64 d2, i64 d3, hS 4 d4, vb d5, hS 5 d6, u8 d7, u8 d8, u8 d9, u8 f0, i64 f1, hS 6 f2, hS 7 f3, hS 8 f4], [oF 2 [[lS 1 f5, i64 f6]], oT 7 f7, oT 7 f8, oT 8 f9, oT 10 j0, oT 7 j1, oT 1 j2, oT 7 j3, oT 7 j4])
abbrev E13 := Ent.o0 A13.out
inductive A69 where
  | a0 (a d f i j l m : Int) (o p q s t u v w y : Nat) (z : Bool) (d0 : Nat) (d1 d2 : Int) (d3 d4 d5 : Nat) (d6 : Bool) (d7 d8 d9 f0 f1 f2 f3 f4 f5 f6 f7 f8 f9 j0 j1 : Int) (j2 : Nat) (j3 : Bool) (j4 : Nat) (j5 j6 j7 j8 j9 : Int) (l0 l1 l2 : Nat) (l3 : LV) (l4 : Int) (l5 l6 l7 l8 l9 m0 m1 m2 m3 m4 m5 m6 m7 m8 m9 o0 o1 o2 : LV)
abbrev A69.out : A69 → V × Store
  | .a0 a d f i j l m o p q s t u v w y z d0 d1 d2 d3 d4 d5 d6 d7 d8 d9 f0 f1 f2 f3 f4 f5 f6 f7 f8 f9 j0 j1 j2 j3 j4 j5 j6 j7 j8 j9 l0 l1 l2 l3 l4 l5 l6 l7 l8 l9 m0 m1 m2 m3 m4 m5 m6 m7 m8 m9 o0 o1 o2 => (V.agg [i64 a, i64 d, i64 f, i64 i, i64 j, i64 l, i64 m, hS 1 o, hS 2 p, hS 3 q, hS 4 s, hS 5 t, hS 6 u, hS 7 v, hS 8 w, hS 9 y, vb z, hS 10 d0, i64 d1, i64 d2, hS 11 d3, hS 12 d4, hS 13 d5, vb d6, i64 d7, i64 d8, u8 d9, u8 f0, u8 f1, u8 f2, u8 f3, u8 f4, u8 f5, u8 f6, i64 f7, i64 f8, i64 f9, i64 j0, i64 j1, hS 14 j2, vb j3, hS 15 j4, u8 j5, u8 j6, u8 j7, u8 j8, i64 j9, hS 16 l0, hS 17 l1, hS 18 l2], [oF 2 [[lS 1 l3, i64 l4]], oT 7 l5, oT 7 l6, oT 7 l7, oT 7 l8, oT 7 l9, oT 7 m0, oT 7 m1, oT 7 m2, oT 7 m3, oT 2 m4, oT 7 m5, oT 7 m6, oT 8 m7, oT 10 m8, oT 7 m9, oT 1 o0, oT 7 o1, oT 7 o2])
abbrev E69 := Ent.o0 A69.out
inductive A20 where
  | a0 (a d : Int) (f : Nat) (i : LV)
abbrev A20.out : A20 → V × Store
  | .a0 a d f i => (V.agg [i64 a, i64 d, hS 0 f], [oT 1 i])
abbrev E20 := Ent.o0 A20.out
inductive A252 where
  | a0 (a : Int)
abbrev A252.out : A252 → V × Store
  | .a0 a => (i64 a, [])
abbrev E252 := Ent.o0 A252.out
inductive A212 where
  | a0 (a : Bool)
abbrev A212.out : A212 → V × Store
  | .a0 a => (vb a, [])
abbrev E212 := Ent.o0 A212.out
inductive A262 where
  | a0 (a : Int)
abbrev A262.out : A262 → V × Store
  | .a0 a => (i64 a, [])
abbrev E262 := Ent.o0 A262.out
inductive A226 where
  | a0 (a : Bool)
abbrev A226.out : A226 → V × Store
  | .a0 a => (vb a, [])
abbrev E226 := Ent.o0 A226.out
inductive A177 where
  | a0 (a : Bool)
abbrev A177.out : A177 → V × Store
  | .a0 a => (vb a, [])
abbrev E177 := Ent.o0 A177.out
inductive A277 where
  | a0 (a : Nat) (d : LV)
abbrev A277.out : A277 → V × Store
  | .a0 a d => (hS 0 a, [oT 1 d])
abbrev E277 := Ent.o0 A277.out
inductive A114 where
  | a0 (a : Bool)
abbrev A114.out : A114 → V × Store
  | .a0 a => (vb a, [])
abbrev E114 := Ent.o0 A114.out
inductive A56 where
  | a0 (a : Bool)
abbrev A56.out : A56 → V × Store
  | .a0 a => (vb a, [])
abbrev E56 := Ent.o0 A56.out
inductive A278 where
  | a0 (a : Bool)
abbrev A278.out : A278 → V × Store
  | .a0 a => (vb a, [])
abbrev E278 := Ent.o0 A278.out
inductive A289 where
  | a0 (a : Int)
abbrev A289.out : A289 → V × Store
  | .a0 a => (i64 a, [])
abbrev E289 := Ent.o0 A289.out
inductive A276 where
  | a0 (a : Bool)
abbrev A276.out : A276 → V × Store
  | .a0 a => (vb a, [])
abbrev E276 := Ent.o0 A276.out
inductive A290 where
  | a0 (a : Bool)
abbrev A290.out : A290 → V × Store
  | .a0 a => (vb a, [])
abbrev E290 := Ent.o0 A290.out
inductive A161 where
  | a0 (a : Bool)
abbrev A161.out : A161 → V × Store
  | .a0 a => (vb a, [])
abbrev E161 := Ent.o0 A161.out
inductive A299 where
  | a0 (a : Bool)
abbrev A299.out : A299 → V × Store
  | .a0 a => (vb a, [])
abbrev E299 := Ent.o0 A299.out
inductive A298 where
  | a0 (a : Bool)
abbrev A298.out : A298 → V × Store
  | .a0 a => (vb a, [])
abbrev E298 := Ent.o0 A298.out
inductive A297 where
  | a0 (a : Bool)
abbrev A297.out : A297 → V × Store
  | .a0 a => (vb a, [])
abbrev E297 := Ent.o0 A297.out
inductive A291 where
  | a0 (a : Bool)
abbrev A291.out : A291 → V × Store
  | .a0 a => (vb a, [])
abbrev E291 := Ent.o0 A291.out
inductive A292 where
  | a0 (a : Bool)
abbrev A292.out : A292 → V × Store
  | .a0 a => (vb a, [])
abbrev E292 := Ent.o0 A292.out
inductive A293 where
  | a0 (a : Bool)
abbrev A293.out : A293 → V × Store
  | .a0 a => (vb a, [])
abbrev E293 := Ent.o0 A293.out
inductive A279 where
  | a0 (a : Bool)
abbrev A279.out : A279 → V × Store
  | .a0 a => (vb a, [])
abbrev E279 := Ent.o0 A279.out
inductive A112 where
  | a0 (a : Bool)
abbrev A112.out : A112 → V × Store
  | .a0 a => (vb a, [])
abbrev E112 := Ent.o0 A112.out
inductive A53 where
  | a0 (a : Bool)
abbrev A53.out : A53 → V × Store
  | .a0 a => (vb a, [])
abbrev E53 := Ent.o0 A53.out
inductive A54 where
  | a0 (a : Bool)
abbrev A54.out : A54 → V × Store
  | .a0 a => (vb a, [])
abbrev E54 := Ent.o0 A54.out
inductive A55 where
  | a0 (a : Bool)
abbrev A55.out : A55 → V × Store
  | .a0 a => (vb a, [])
abbrev E55 := Ent.o0 A55.out
inductive A180 where
  | a0 (a : Int)
abbrev A180.out : A180 → V × Store
  | .a0 a => (i64 a, [])
abbrev E180 := Ent.o0 A180.out
inductive A115 where
  | a0 (a : Bool)
abbrev A115.out : A115 → V × Store
  | .a0 a => (vb a, [])
abbrev E115 := Ent.o0 A115.out
inductive A57 where
  | a0 (a : Bool)
abbrev A57.out : A57 → V × Store
  | .a0 a => (vb a, [])
abbrev E57 := Ent.o0 A57.out
inductive A15 where
  | a0 (a : Bool)
abbrev A15.out : A15 → V × Store
  | .a0 a => (vb a, [])
abbrev E15 := Ent.o0 A15.out
inductive A280 where
  | a0 (a : Bool)
abbrev A280.out : A280 → V × Store
  | .a0 a => (vb a, [])
abbrev E280 := Ent.o0 A280.out
inductive A253 where
  | a0 (a : Bool)
abbrev A253.out : A253 → V × Store
  | .a0 a => (vb a, [])
abbrev E253 := Ent.o0 A253.out
inductive A281 where
  | a0 (a : Bool)
abbrev A281.out : A281 → V × Store
  | .a0 a => (vb a, [])
abbrev E281 := Ent.o0 A281.out
inductive A254 where
  | a0 (a : Bool)
abbrev A254.out : A254 → V × Store
  | .a0 a => (vb a, [])
abbrev E254 := Ent.o0 A254.out
inductive A215 where
  | a0 (a : Int)
abbrev A215.out : A215 → V × Store
  | .a0 a => (i64 a, [])
abbrev E215 := Ent.o0 A215.out
inductive A256 where
  | a0 (a : Nat) (d : LV)
abbrev A256.out : A256 → V × Store
  | .a0 a d => (hS 0 a, [oT 1 d])
abbrev E256 := Ent.o0 A256.out
inductive A216 where
  | a0 (a : Int)
abbrev A216.out : A216 → V × Store
  | .a0 a => (i64 a, [])
abbrev E216 := Ent.o0 A216.out
inductive A256v1 where
  | a0 (a : Nat) (d : LV)
abbrev A256v1.out : A256v1 → V × Store
  | .a0 a d => (hS 0 a, [oT 1 d])
abbrev E256v1 := Ent.o0 A256v1.out
inductive A217 where
  | a0 (a : Int)
abbrev A217.out : A217 → V × Store
  | .a0 a => (i64 a, [])
abbrev E217 := Ent.o0 A217.out
inductive A157 where
  | a0 (a : Int)
abbrev A157.out : A157 → V × Store
  | .a0 a => (i64 a, [])
abbrev E157 := Ent.o0 A157.out
inductive A133 where
  | a0 (a : Int)
abbrev A133.out : A133 → V × Store
  | .a0 a => (i64 a, [])
abbrev E133 := Ent.o0 A133.out
inductive A136 where
  | a0 (a : Int)
abbrev A136.out : A136 → V × Store
  | .a0 a => (i64 a, [])
abbrev E136 := Ent.o0 A136.out
inductive A187 where
  | a0 (a d : Int)
abbrev A187.out : A187 → V × Store
  | .a0 a d => (V.tup [V.int IntKind.u64 a, V.int IntKind.u64 d], [])
abbrev E187 := Ent.o0 A187.out
inductive A184 where
  | a0 (a d : Int)
abbrev A184.out : A184 → V × Store
  | .a0 a d => (V.tup [V.int IntKind.u64 a, V.int IntKind.u64 d], [])
abbrev E184 := Ent.o0 A184.out
inductive A183 where
  | a0 (a : Int)
abbrev A183.out : A183 → V × Store
  | .a0 a => (i64 a, [])
abbrev E183 := Ent.o0 A183.out
inductive A125 where
  | a0 (a : Int)
abbrev A125.out : A125 → V × Store
  | .a0 a => (i64 a, [])
abbrev E125 := Ent.o0 A125.out
inductive A231 where
  | a0 (a : Int)
abbrev A231.out : A231 → V × Store
  | .a0 a => (i64 a, [])
abbrev E231 := Ent.o0 A231.out
inductive A191 where
  | a0 (a : Int)
abbrev A191.out : A191 → V × Store
  | .a0 a => (i64 a, [])
abbrev E191 := Ent.o0 A191.out
inductive A135 where
  | a0 (a : Int)
abbrev A135.out : A135 → V × Store
  | .a0 a => (i64 a, [])
abbrev E135 := Ent.o0 A135.out
inductive A134 where
  | a0 (a : Int)
abbrev A134.out : A134 → V × Store
  | .a0 a => (i64 a, [])
abbrev E134 := Ent.o0 A134.out
inductive A72 where
  | a0 (a : Int)
abbrev A72.out : A72 → V × Store
  | .a0 a => (i64 a, [])
abbrev E72 := Ent.o0 A72.out
inductive A22 where
  | a0 (a : Int)
abbrev A22.out : A22 → V × Store
  | .a0 a => (i64 a, [])
abbrev E22 := Ent.o0 A22.out
inductive A77 where
  | a0 (a : Bool) (d : LV)
abbrev A77.out : A77 → V × Store
  | .a0 a d => (vb a, [oF 1 [[lS 50 d]]])
abbrev E77 := Ent.o0 A77.out
inductive A71 where
  | a0 (a d : Int)
abbrev A71.out : A71 → V × Store
  | .a0 a d => (i64 a, [oF 1 [[i64 d]]])
abbrev E71 := Ent.o0 A71.out
inductive A128 where
  | a0 (a : Int)
abbrev A128.out : A128 → V × Store
  | .a0 a => (i64 a, [])
abbrev E128 := Ent.o0 A128.out
inductive A127 where
  | a0 (a : Int)
abbrev A127.out : A127 → V × Store
  | .a0 a => (i64 a, [])
abbrev E127 := Ent.o0 A127.out
inductive A137 where
  | a0 (a : Int)
abbrev A137.out : A137 → V × Store
  | .a0 a => (i64 a, [])
abbrev E137 := Ent.o0 A137.out
inductive A73 where
  | a0 (a : W59)
abbrev A73.out : A73 → V × Store
  | .a0 a => (V.agg (W59.cells a), [])
abbrev E73 := Ent.o0 A73.out
inductive A21 where
  | a0 (a : W59)
abbrev A21.out : A21 → V × Store
  | .a0 a => (V.agg (W59.cells a), [])
abbrev E21 := Ent.o0 A21.out
inductive A79 where
  | a0 (a : W59)
abbrev A79.out : A79 → V × Store
  | .a0 a => (V.agg (W59.cells a), [])
abbrev E79 := Ent.o0 A79.out
inductive A27 where
  | a0 (a : W59)
abbrev A27.out : A27 → V × Store
  | .a0 a => (V.agg (W59.cells a), [])
abbrev E27 := Ent.o0 A27.out
inductive A24 where
  | a0 (a : Int)
abbrev A24.out : A24 → V × Store
  | .a0 a => (i64 a, [])
abbrev E24 := Ent.o0 A24.out
inductive A123 where
  | a0 (a d : Int)
abbrev A123.out : A123 → V × Store
  | .a0 a d => (V.agg [i64 a, i64 d], [])
abbrev E123 := Ent.o0 A123.out
inductive A122 where
  | a0 (a : Bool) (d : Nat) (f : LV)
abbrev A122.out : A122 → V × Store
  | .a0 a d f => (V.agg [vb a, hS 0 d], [oT 2 f])
abbrev E122 := Ent.o0 A122.out
inductive A63 where
  | a0 (a : Bool) (d : Nat) (f : LV)
abbrev A63.out : A63 → V × Store
  | .a0 a d f => (V.agg [vb a, hS 0 d], [oT 2 f])
abbrev E63 := Ent.o0 A63.out
inductive A65 where
  | a0 (a : Bool) (d : Nat) (f : LV)
abbrev A65.out : A65 → V × Store
  | .a0 a d f => (V.agg [vb a, hS 0 d], [oT 2 f])
abbrev E65 := Ent.o0 A65.out
inductive A67 where
  | a0 (a : Bool) (d : Nat) (f : LV)
abbrev A67.out : A67 → V × Store
  | .a0 a d f => (V.agg [vb a, hS 0 d], [oT 2 f])
abbrev E67 := Ent.o0 A67.out
inductive A224 where
  | a0 (a : LV)
abbrev A224.out : A224 → V × Store
  | .a0 a => (hS 0 (List.length a), [oT 2 a])
abbrev E224 := Ent.o0 A224.out
inductive A170 where
  | a0 (a : Bool) (d : Nat) (f : LV)
abbrev A170.out : A170 → V × Store
  | .a0 a d f => (V.agg [vb a, hS 0 d], [oT 2 f])
abbrev E170 := Ent.o0 A170.out
inductive A171 where
  | a0 (a : Bool) (d : Nat) (f : LV)
abbrev A171.out : A171 → V × Store
  | .a0 a d f => (V.agg [vb a, hS 0 d], [oT 2 f])
abbrev E171 := Ent.o0 A171.out
inductive A109 where
  | a0 (a : Bool) (d : Nat) (f : LV)
abbrev A109.out : A109 → V × Store
  | .a0 a d f => (V.agg [vb a, hS 0 d], [oT 2 f])
abbrev E109 := Ent.o0 A109.out
inductive A51 where
  | a0 (a : Bool) (d : Nat) (f : LV)
abbrev A51.out : A51 → V × Store
  | .a0 a d f => (V.agg [vb a, hS 0 d], [oT 2 f])
abbrev E51 := Ent.o0 A51.out
inductive A264 where
  | a0 (a d : Int)
abbrev A264.out : A264 → V × Store
  | .a0 a d => (V.agg [i64 a, i64 d], [])
abbrev E264 := Ent.o0 A264.out
inductive A232v1 where
  | a0 (a : Nat) (d : LV)
abbrev A232v1.out : A232v1 → V × Store
  | .a0 a d => (hS 1 a, [Ob.dead, oT 2 d])
abbrev E232v1 := Ent.o0 A232v1.out
inductive A232 where
  | a0 (a : Nat) (d : LV)
abbrev A232.out : A232 → V × Store
  | .a0 a d => (hS 0 a, [oT 2 d])
abbrev E232 := Ent.o0 A232.out
inductive A192 where
  | a0 (a : Nat) (d : LV)
abbrev A192.out : A192 → V × Store
  | .a0 a d => (hS 0 a, [oT 2 d])
abbrev E192 := Ent.o0 A192.out
inductive A138 where
  | a0 (a : Bool) (d : Nat) (f : LV)
abbrev A138.out : A138 → V × Store
  | .a0 a d f => (V.agg [vb a, hS 0 d], [oT 2 f])
abbrev E138 := Ent.o0 A138.out
inductive A233 where
  | a0 (a d f i : Int)
abbrev A233.out : A233 → V × Store
  | .a0 a d f i => (V.agg [u8 a, u8 d, u8 f, u8 i], [])
abbrev E233 := Ent.o0 A233.out
inductive A193 where
  | a0 (a d f i : Int)
abbrev A193.out : A193 → V × Store
  | .a0 a d f i => (V.agg [u8 a, u8 d, u8 f, u8 i], [])
abbrev E193 := Ent.o0 A193.out
inductive A198 where
  | a0 (a d : Int)
abbrev A198.out : A198 → V × Store
  | .a0 a d => (V.agg [i64 a, i64 d], [])
abbrev E198 := Ent.o0 A198.out
inductive A147 where
  | a0 (a : Nat) (d : LV)
abbrev A147.out : A147 → V × Store
  | .a0 a d => (hS 0 a, [oT 2 d])
abbrev E147 := Ent.o0 A147.out
inductive A284 where
  | a0 (a : Int)
abbrev A284.out : A284 → V × Store
  | .a0 a => (i64 a, [])
abbrev E284 := Ent.o0 A284.out
inductive A265 where
  | a0 (a : Int)
abbrev A265.out : A265 → V × Store
  | .a0 a => (i64 a, [])
abbrev E265 := Ent.o0 A265.out
inductive A234 where
  | a0 (a : Int)
abbrev A234.out : A234 → V × Store
  | .a0 a => (i64 a, [])
abbrev E234 := Ent.o0 A234.out
inductive A194 where
  | a0 (a d f i j l m o p q s t u v : Int)
abbrev A194.out : A194 → V × Store
  | .a0 a d f i j l m o p q s t u v => (V.agg [i64 a, u8 d, u8 f, u8 i, u8 j, u8 l, u8 m, u8 o, u8 p, i64 q, i64 s, i64 t, i64 u, i64 v], [])
abbrev E194 := Ent.o0 A194.out
inductive A139 where
  | a0 (a : Nat) (d f i j l m o p q s t u v w y z : Int) (d0 : LV)
abbrev A139.out : A139 → V × Store
  | .a0 a d f i j l m o p q s t u v w y z d0 => (V.agg [hS 0 a, i64 d, i64 f, u8 i, u8 j, u8 l, u8 m, u8 o, u8 p, u8 q, u8 s, i64 t, i64 u, i64 v, i64 w, i64 y, i64 z], [oT 2 d0])
abbrev E139 := Ent.o0 A139.out
inductive A235 where
  | a0 (a d : Int)
abbrev A235.out : A235 → V × Store
  | .a0 a d => (V.tup [i64 a, i64 d], [])
abbrev E235 := Ent.o0 A235.out
inductive A285 where
  | a0 (a d : Int)
abbrev A285.out : A285 → V × Store
  | .a0 a d => (V.agg [i64 a, i64 d], [])
abbrev E285 := Ent.o0 A285.out
inductive A267 where
  | a0 (a d f i j : Int)
abbrev A267.out : A267 → V × Store
  | .a0 a d f i j => (V.tup [V.agg [i64 a, i64 d], V.agg [i64 f, i64 i], i64 j], [])
abbrev E267 := Ent.o0 A267.out
inductive A236 where
  | a0 (a : Int)
abbrev A236.out : A236 → V × Store
  | .a0 a => (i64 a, [])
abbrev E236 := Ent.o0 A236.out
inductive A269 where
  | a0 (a : Int)
abbrev A269.out : A269 → V × Store
  | .a0 a => (i64 a, [])
abbrev E269 := Ent.o0 A269.out
inductive A268 where
  | a0 (a d : Int)
abbrev A268.out : A268 → V × Store
  | .a0 a d => (V.agg [i64 a, i64 d], [])
abbrev E268 := Ent.o0 A268.out
inductive A237 where
  | a0 (a : Bool) (d : Nat) (f : LV)
abbrev A237.out : A237 → V × Store
  | .a0 a d f => (V.agg [vb a, hS 0 d], [oT 2 f])
abbrev E237 := Ent.o0 A237.out
inductive A195 where
  | a0 (a : Nat) (d : LV)
abbrev A195.out : A195 → V × Store
  | .a0 a d => (hS 0 a, [oT 2 d])
abbrev E195 := Ent.o0 A195.out
inductive A196 where
  | a0 (a : Nat) (d : LV)
abbrev A196.out : A196 → V × Store
  | .a0 a d => (hS 0 a, [oT 2 d])
abbrev E196 := Ent.o0 A196.out
inductive A238 where
  | a0 (a : Nat) (d : LV)
abbrev A238.out : A238 → V × Store
  | .a0 a d => (hS 0 a, [oT 6 d])
abbrev E238 := Ent.o0 A238.out
inductive A270 where
  | a0 (a d : Int)
abbrev A270.out : A270 → V × Store
  | .a0 a d => (V.tup [i64 a, i64 d], [])
abbrev E270 := Ent.o0 A270.out
inductive A271 where
  | a0 (a d : Int)
abbrev A271.out : A271 → V × Store
  | .a0 a d => (V.agg [i64 a, i64 d], [])
abbrev E271 := Ent.o0 A271.out
inductive A286 where
  | a0 (a d : Int)
abbrev A286.out : A286 → V × Store
  | .a0 a d => (V.agg [i64 a, i64 d], [])
abbrev E286 := Ent.o0 A286.out
inductive A295 where
  | a0 (a : Int)
abbrev A295.out : A295 → V × Store
  | .a0 a => (i64 a, [])
abbrev E295 := Ent.o0 A295.out
inductive A296 where
  | a0 (a : LV)
abbrev A296.out : A296 → V × Store
  | .a0 a => (E, [oT 2 a])
abbrev E296 := Ent.o0 A296.out
inductive A287 where
  | a0 (a : Nat) (d : LV)
abbrev A287.out : A287 → V × Store
  | .a0 a d => (hS 0 a, [oT 2 d])
abbrev E287 := Ent.o0 A287.out
inductive A272 where
  | a0 (a : Bool) (d : Nat) (f i : LV)
abbrev A272.out : A272 → V × Store
  | .a0 a d f i => (V.agg [vb a, hS 1 d], [Ob.cells false true 2 f, oT 2 i])
abbrev E272 := Ent.o0 A272.out
inductive A239 where
  | a0 (a : Bool) (d : Nat) (f : LV)
abbrev A239.out : A239 → V × Store
  | .a0 a d f => (V.agg [vb a, hS 0 d], [oT 2 f])
abbrev E239 := Ent.o0 A239.out
inductive A240 where
  | a0 (a : Nat) (d : LV)
abbrev A240.out : A240 → V × Store
  | .a0 a d => (hS 0 a, [oT 2 d])
abbrev E240 := Ent.o0 A240.out
inductive A197 where
  | a0 (a : Nat) (d : LV)
abbrev A197.out : A197 → V × Store
  | .a0 a d => (hS 0 a, [oT 2 d])
abbrev E197 := Ent.o0 A197.out
inductive A140 where
  | a0 (a : Nat) (d f i j l m o p q s t u v w y z : Int) (d0 : LV)
abbrev A140.out : A140 → V × Store
  | .a0 a d f i j l m o p q s t u v w y z d0 => (V.agg [hS 0 a, i64 d, i64 f, u8 i, u8 j, u8 l, u8 m, u8 o, u8 p, u8 q, u8 s, i64 t, i64 u, i64 v, i64 w, i64 y, i64 z], [oT 2 d0])
abbrev E140 := Ent.o0 A140.out
inductive A75 where
  | a0 (a : Nat) (d : LV)
abbrev A75.out : A75 → V × Store
  | .a0 a d => (hS 0 a, [oT 17 d])
abbrev E75 := Ent.o0 A75.out
inductive A86 where
  | a0 (a : Nat) (d : LV)
abbrev A86.out : A86 → V × Store
  | .a0 a d => (hS 0 a, [oT 2 d])
abbrev E86 := Ent.o0 A86.out
inductive A259 where
  | a0 (a : Nat) (d : LV)
abbrev A259.out : A259 → V × Store
  | .a0 a d => (hS 0 a, [oT 23 d])
abbrev E259 := Ent.o0 A259.out
inductive A218 where
  | a0 (a : Nat) (d : LV)
abbrev A218.out : A218 → V × Store
  | .a0 a d => (hS 0 a, [oT 23 d])
abbrev E218 := Ent.o0 A218.out
inductive A158 where
  | a0 (a : Nat) (d : LV)
abbrev A158.out : A158 → V × Store
  | .a0 a d => (hS 0 a, [oT 23 d])
abbrev E158 := Ent.o0 A158.out
inductive A91 where
  | a0 (a : Nat) (d : LV)
abbrev A91.out : A91 → V × Store
  | .a0 a d => (hS 0 a, [oT 23 d])
abbrev E91 := Ent.o0 A91.out
inductive A33 where
  | a0 (a : Nat) (d : LV)
abbrev A33.out : A33 → V × Store
  | .a0 a d => (hS 0 a, [oT 23 d])
abbrev E33 := Ent.o0 A33.out
inductive A162 where
  | a0 (a d f i : Int)
abbrev A162.out : A162 → V × Store
  | .a0 a d f i => (V.agg [i64 a, i64 d, i64 f, i64 i], [])
abbrev E162 := Ent.o0 A162.out
inductive A166 where
  | a0 (a d f i : Int)
abbrev A166.out : A166 → V × Store
  | .a0 a d f i => (V.agg [i64 a, i64 d, i64 f, i64 i], [])
abbrev E166 := Ent.o0 A166.out
inductive A102 where
  | a0 (a d f i : Int)
abbrev A102.out : A102 → V × Store
  | .a0 a d f i => (V.agg [i64 a, i64 d, i64 f, i64 i], [])
abbrev E102 := Ent.o0 A102.out
inductive A94 where
  | a0 (a d f i : Int)
abbrev A94.out : A94 → V × Store
  | .a0 a d f i => (V.agg [i64 a, i64 d, i64 f, i64 i], [])
abbrev E94 := Ent.o0 A94.out
inductive A160 where
  | a0 (a : Bool)
abbrev A160.out : A160 → V × Store
  | .a0 a => (vb a, [])
abbrev E160 := Ent.o0 A160.out
inductive A159 where
  | a0 (a : Bool)
abbrev A159.out : A159 → V × Store
  | .a0 a => (vb a, [])
abbrev E159 := Ent.o0 A159.out
inductive A92 where
  | a0 (a : Bool)
abbrev A92.out : A92 → V × Store
  | .a0 a => (vb a, [])
abbrev E92 := Ent.o0 A92.out
inductive A93 where
  | a0 (a : Bool)
abbrev A93.out : A93 → V × Store
  | .a0 a => (vb a, [])
abbrev E93 := Ent.o0 A93.out
inductive A34 where
  | a0 (a : Bool)
abbrev A34.out : A34 → V × Store
  | .a0 a => (vb a, [])
abbrev E34 := Ent.o0 A34.out
inductive A35 where
  | a0 (a : Bool)
abbrev A35.out : A35 → V × Store
  | .a0 a => (vb a, [])
abbrev E35 := Ent.o0 A35.out
inductive A108 where
  | a0 (a : Bool)
abbrev A108.out : A108 → V × Store
  | .a0 a => (vb a, [])
abbrev E108 := Ent.o0 A108.out
inductive A85 where
  | a0 (a : Bool)
abbrev A85.out : A85 → V × Store
  | .a0 a => (vb a, [])
abbrev E85 := Ent.o0 A85.out
inductive A100 where
  | a0 (a : Bool)
abbrev A100.out : A100 → V × Store
  | .a0 a => (vb a, [])
abbrev E100 := Ent.o0 A100.out
inductive A39 where
  | a0 (a : Bool)
abbrev A39.out : A39 → V × Store
  | .a0 a => (vb a, [])
abbrev E39 := Ent.o0 A39.out
inductive A10 where
  | a0 (a : Bool)
abbrev A10.out : A10 → V × Store
  | .a0 a => (vb a, [])
abbrev E10 := Ent.o0 A10.out
/-! ## F19 -/
noncomputable def D19 (f a d : Int) : PT A19 := .test (f ≥ a) (fun h0 => .auto 3 <| .test (f ≤ d) (fun h1 => .ret (.a0 f)) (fun h1 => .test (w64 (w64 (d - a) + 1) = 0) (fun _ => .fail) (fun h2 => .test (Int.tmod f (w64 (w64 (d - a) + 1)) < 0) (fun h3 => .ret (.a0 (w64 (a + w64 (w64 (w64 (Int.tmod f (w64 (w64 (d - a) + 1)) + d) - a) + 1))))) (fun h3 => .ret (.a0 (w64 (a + Int.tmod f (w64 (w64 (d - a) + 1))))))))) (fun h0 => .auto 4 <| .test (w64 (w64 (d - a) + 1) = 0) (fun _ => .fail) (fun h1 => .test (Int.tmod f (w64 (w64 (d - a) + 1)) < 0) (fun h2 => .ret (.a0 (w64 (a + w64 (w64 (w64 (Int.tmod f (w64 (w64 (d - a) + 1)) + d) - a) + 1))))) (fun h2 => .ret (.a0 (w64 (a + Int.tmod f (w64 (w64 (d - a) + 1))))))))
noncomputable def F19 (a d f : Int) : Option A19 := (D19 a d f).ev some
theorem F19_ok (a d f : Int) : FU E19 (F19 a d f) 19 [i64 a, i64 d, i64 f] := fu rfl rfl fun x => by kernel_rfl
/-! ## F43 -/
noncomputable def D43 (f : Int) (d : LV) (a : Int) : PT A43 := .auto 2 <| .test (a ≥ (d.length : Int)) (fun h0 => .ret (.a0 0 d a)) (fun h0 => .auto 4 <| .test (0 ≤ w64 (w64 (a + 1) - 1)) (fun h1 => .look RW3 (d[Int.toNat (w64 (w64 (a + (1 : Int)) - (1 : Int)))]?) fun i => .ask E19 (F19_ok i.c0 0 1073741824) fun ⟨j⟩ => .test (f = 0) (fun _ => .fail) (fun h2 => .ret (.a0 (Int.tmod j f) d (w64 (a + 1))))) (fun _ => .fail))
noncomputable def F43 (a : Int) (d : LV) (f : Int) : Option A43 := (D43 a d f).ev some
theorem F43_ok (a : Int) (d : LV) (f : Int) : FU E43 (F43 a d f) 43 [pT 0, i64 a] [oF 2 [[lS 1 d, i64 f]]] := fu rfl rfl fun x => by kernel_rfl
/-! ## F47 -/
noncomputable def D47 (a l : Int) (m : LV) (o : Int) : PT A47 := .ask E43 (F43_ok (w64 (w64 (l - a) + 1)) m o) fun ⟨d, p, q⟩ => .ask E43 (F43_ok 4 p q) fun ⟨j, f, i⟩ => .testB (j == 0) (fun h0 => .ret (.a0 (w64 (w64 (w64 (a + d) * 65536) + 32768)) f i)) (fun h0 => .testB (j == 1) (fun h1 => .ask E43 (F43_ok 65536 f i) fun ⟨s, t, u⟩ => .ret (.a0 (w64 (w64 (w64 (a + d) * 65536) + s)) t u)) (fun h1 => .ret (.a0 (w64 (w64 (a + d) * 65536)) f i)))
noncomputable def F47 (a d : Int) (f : LV) (i : Int) : Option A47 := (D47 a d f i).ev some
theorem F47_ok (a d : Int) (f : LV) (i : Int) : FU E47 (F47 a d f i) 47 [pT 0, i64 a, i64 d] [oF 2 [[lS 1 f, i64 i]]] := fu rfl rfl fun x => by kernel_rfl
/-! ## F106 -/
noncomputable def D106 (a d : Int) (f : LV) (i : Int) : PT A106 := .ask E47 (F47_ok a d f i) fun ⟨j, l, m⟩ => .ask E47 (F47_ok a d l m) fun ⟨o, p, q⟩ => .auto 1 <| .ret (.a0 j o p q)
noncomputable def F106 (a d : Int) (f : LV) (i : Int) : Option A106 := (D106 a d f i).ev some
theorem F106_ok (a d : Int) (f : LV) (i : Int) : FU E106 (F106 a d f i) 106 [pT 0, i64 a, i64 d] [oF 2 [[lS 1 f, i64 i]]] := fu rfl rfl fun x => by kernel_rfl
/-! ## F44 -/
noncomputable abbrev B44 : Code := (Tryz.f44.body).getD .skip
inductive T44_0s0 where
  | mk (a d : Int) (f : LV) (i : Int) (j : Bool) (l : Nat) (m : LV)
inductive T44_0e0 where
  | mk (a : LV) (d : Int) (f : Bool) (i : Nat) (j : LV)
inductive N44_0 where
  | s0 (x : T44_0s0)
  | e0 (x : T44_0e0)
abbrev N44_0.out : N44_0 → VX × S
  | .s0 (.mk a d f i j l m) => (vN, S.mk (pT 0 :: i64 a :: un 4 (pT 1 :: pT 2 :: i64 d :: un 44 [])) [oF 2 [[lS 1 f, i64 i]], oF 2 [[vb false, hS 3 0]], oF 2 [[vb j, hS 4 l]], oT 2 [], oT 2 m])
  | .e0 (.mk o p q s t) => (vX 0, S.mk (un 6 (pT 1 :: pT 2 :: un 45 [])) [oF 2 [[lS 1 o, i64 p]], oF 2 [[vb false, hS 3 0]], oF 2 [[vb q, hS 4 s]], oT 2 [], oT 2 t])
abbrev E44_0 := Ent.o2 N44_0.out .s0 .e0 (fun b => by cases b <;> simp)
noncomputable def D44_0 : T44_0s0 → PT N44_0 | .mk f i o p j a d => .test (i < f) (fun h0 => .auto 2 <| .test (0 ≤ w64 ((↑a : Int) - 1) ∧ w64 ((↑a : Int) - 1) < (↑a : Int)) (fun h1 => .look RW28 (d[(0 : Nat) + Int.toNat (w64 ((↑a : Int) - (1 : Int)))]?) fun q => .ask E106 (F106_ok (-2) 14 o p) fun ⟨l, m, u, v⟩ => .auto 2 <| .ask E43 (F43_ok 2 u v) fun ⟨w, s, t⟩ => .testB (w == 0) (fun h2 => .auto 5 <| .test (0 + a ≤ List.length d ∧ (a + 3) * 16 ≤ 140737488355328 ∧ a + 3 ≤ 140737488355328) (fun h3 => .auto 1 <| .ret (.s0 (.mk f (w64 (i + 1)) s t j (a + 3) (List.take a d ++ [[i64 q.c0, i64 q.c1], [i64 l, i64 m], [i64 l, i64 m]])))) (fun _ => .fail)) (fun h2 => .auto 1 <| .ask E106 (F106_ok (-2) 14 s t) fun ⟨y, z, d0, d1⟩ => .ask E106 (F106_ok (-2) 14 d0 d1) fun ⟨d2, d3, d4, d5⟩ => .auto 2 <| .test (0 + a ≤ List.length d ∧ (a + 3) * 16 ≤ 140737488355328 ∧ a + 3 ≤ 140737488355328) (fun h3 => .auto 1 <| .ret (.s0 (.mk f (w64 (i + 1)) d4 d5 j (a + 3) (List.take a d ++ [[i64 y, i64 z], [i64 d2, i64 d3], [i64 l, i64 m]])))) (fun _ => .fail))) (fun _ => .fail)) (fun h0 => .ret (.e0 (.mk o p j a d)))
noncomputable def L44_0 := E44_0.loop fun | .s0 x => D44_0 x | _ => .fail
theorem L44_0_ok : LU 44 1 B44 0 E44_0 L44_0 :=
  lk (L := notIn []) (fun b hb => by cases b <;> first | (cases hb; done) | (rename_i x; cases x; intro x; kernel_rfl) | (intro x; kernel_rfl))
noncomputable def N44_0.nx (n : Nat) : N44_0 → Option N44_0 | .s0 x => L44_0 n (.s0 x) | .e0 x => some (.e0 x)
theorem L44_0_s0 (n : Nat) (x : T44_0s0) : L44_0 (n + 1) (.s0 x) = (D44_0 x).ev (N44_0.nx n) := Ent.loop_eq fun c => by cases c <;> rfl
noncomputable def D44 (a : Int) (d : Bool) (f : LV) (i : Int) : PT A44 := .ask E106 (F106_ok (-2) 14 f i) fun ⟨j, l, m, o⟩ => .auto 1 <| .cut E44_0 (L44_0_ok (.s0 (.mk a 0 m o d 1 ([[i64 j, i64 l]]))) rfl) fun | .e0 (.mk p q s t u) => (.auto 2 <| .ret (.a0 s t p q u)) | _ => .fail
noncomputable def F44 (a : Int) (d : Bool) (f : LV) (i : Int) : Option A44 := (D44 a d f i).ev some
theorem F44_ok (a : Int) (d : Bool) (f : LV) (i : Int) : FU E44 (F44 a d f i) 44 [pT 0, i64 a, vb d] [oF 2 [[lS 1 f, i64 i]]] := fu rfl rfl fun x => by kernel_rfl
/-! ## F107 -/
noncomputable def D107 (a : LV) (d : Int) : PT A107 := .ask E43 (F43_ok 65537 a d) fun ⟨f, i, j⟩ => .ask E47 (F47_ok (-1) 1 i j) fun ⟨l, m, o⟩ => .ask E43 (F43_ok 65537 m o) fun ⟨p, q, s⟩ => .ask E47 (F47_ok 0 2 q s) fun ⟨t, u, v⟩ => .auto 1 <| .ret (.a0 f l p t u v)
noncomputable def F107 (a : LV) (d : Int) : Option A107 := (D107 a d).ev some
theorem F107_ok (a : LV) (d : Int) : FU E107 (F107 a d) 107 [pT 0] [oF 2 [[lS 1 a, i64 d]]] := fu rfl rfl fun x => by kernel_rfl
/-! ## F45 -/
noncomputable def D45 (i : LV) (j : Int) : PT A45 := .ask E43 (F43_ok 4 i j) fun ⟨f, a, d⟩ => .testB (f == 0) (fun h0 => .auto 1 <| .ret (.a0 0 0 0 0 0 a d)) (fun h0 => .testB (f == 1) (fun h1 => .ask E107 (F107_ok a d) fun ⟨l, m, o, p, q, s⟩ => .auto 1 <| .ret (.a0 2 l m o p q s)) (fun h1 => .auto 1 <| .ret (.a0 1 0 0 0 0 a d)))
noncomputable def F45 (a : LV) (d : Int) : Option A45 := (D45 a d).ev some
theorem F45_ok (a : LV) (d : Int) : FU E45 (F45 a d) 45 [pT 0] [oF 2 [[lS 1 a, i64 d]]] := fu rfl rfl fun x => by kernel_rfl
/-! ## F46 -/
noncomputable abbrev B46 : Code := (Tryz.f46.body).getD .skip
inductive T46_0s0 where
  | mk (a d : Int) (f : Nat) (i j : Int) (l : LV) (m : Int) (o : LV)
inductive T46_0e0 where
  | mk (a : Nat) (d : LV) (f : Int) (i : LV)
inductive N46_0 where
  | s0 (x : T46_0s0)
  | e0 (x : T46_0e0)
abbrev N46_0.out : N46_0 → VX × S
  | .s0 (.mk a d f i j l m o) => (vN, S.mk (pT 0 :: i64 a :: i64 d :: un 4 (hS 1 f :: i64 i :: i64 j :: un 32 [])) [oF 2 [[lS 1 l, i64 m]], oT 7 o])
  | .e0 (.mk p q s t) => (vX 0, S.mk (un 7 (hS 1 p :: un 34 [])) [oF 2 [[lS 1 q, i64 s]], oT 7 t])
abbrev E46_0 := Ent.o2 N46_0.out .s0 .e0 (fun b => by cases b <;> simp)
noncomputable def D46_0 : T46_0s0 → PT N46_0 | .mk f i a j l m o d => .test (l > 0) (fun h0 => .ask E47 (F47_ok f i m o) fun ⟨p, q, s⟩ => .auto 1 <| .ask E45 (F45_ok q s) fun ⟨t, u, v, w, y, z, d0⟩ => .auto 4 <| .test (0 + a ≤ List.length d ∧ (a + 1) * 56 ≤ 140737488355328 ∧ a + 1 ≤ 140737488355328) (fun h1 => .ask E43 (F43_ok 8 z d0) fun ⟨d1, d2, d3⟩ => .ret (.s0 (.mk f i (a + 1) (w64 (w64 (j + 1) + d1)) (w64 (l - 1)) d2 d3 (List.take a d ++ [[i64 j, i64 p, i64 t, i64 u, i64 v, i64 w, i64 y]])))) (fun _ => .fail)) (fun h0 => .ret (.e0 (.mk a m o d)))
noncomputable def L46_0 := E46_0.loop fun | .s0 x => D46_0 x | _ => .fail
theorem L46_0_ok : LU 46 1 B46 0 E46_0 L46_0 :=
  lk (L := notIn []) (fun b hb => by cases b <;> first | (cases hb; done) | (rename_i x; cases x; intro x; kernel_rfl) | (intro x; kernel_rfl))
noncomputable def N46_0.nx (n : Nat) : N46_0 → Option N46_0 | .s0 x => L46_0 n (.s0 x) | .e0 x => some (.e0 x)
theorem L46_0_s0 (n : Nat) (x : T46_0s0) : L46_0 (n + 1) (.s0 x) = (D46_0 x).ev (N46_0.nx n) := Ent.loop_eq fun c => by cases c <;> rfl
noncomputable def D46 (a d : Int) (f : LV) (i : Int) : PT A46 := .ask E43 (F43_ok 6 f i) fun ⟨j, l, m⟩ => .ask E43 (F43_ok 4 l m) fun ⟨o, p, q⟩ => .cut E46_0 (L46_0_ok (.s0 (.mk a d 0 j o p q ([]))) rfl) fun | .e0 (.mk s t u v) => .ret (.a0 s t u v) | _ => .fail
noncomputable def F46 (a d : Int) (f : LV) (i : Int) : Option A46 := (D46 a d f i).ev some
theorem F46_ok (a d : Int) (f : LV) (i : Int) : FU E46 (F46 a d f i) 46 [pT 0, i64 a, i64 d] [oF 2 [[lS 1 f, i64 i]]] := fu rfl rfl fun x => by kernel_rfl
/-! ## F49 -/
noncomputable def D49 (d : LV) (f : Int) : PT A49 := .ask E43 (F43_ok 256 d f) fun ⟨i, j, l⟩ => .ask E43 (F43_ok 256 j l) fun ⟨m, o, p⟩ => .ask E43 (F43_ok 256 o p) fun ⟨q, s, t⟩ => .ask E43 (F43_ok 256 s t) fun ⟨u, v, w⟩ => .ask E43 (F43_ok 4 v w) fun ⟨a, y, z⟩ => .test (0 ≤ a ∧ a < 4) (fun h0 => .look RW5 ([[u8 (255 : Int)], [u8 (255 : Int)], [u8 (128 : Int)], [u8 (IntKind.wrap IntKind.u8 u)]][(0 : Nat) + Int.toNat a]?) fun d0 => .auto 1 <| .ret (.a0 (IntKind.wrap IntKind.u8 i) (IntKind.wrap IntKind.u8 m) (IntKind.wrap IntKind.u8 q) d0.c0 y z)) (fun _ => .fail)
noncomputable def F49 (a : LV) (d : Int) : Option A49 := (D49 a d).ev some
theorem F49_ok (a : LV) (d : Int) : FU E49 (F49 a d) 49 [pT 0] [oF 2 [[lS 1 a, i64 d]]] := fu rfl rfl fun x => by kernel_rfl
/-! ## F48 -/
noncomputable def D48 (t : LV) (u : Int) : PT A48 := .ask E43 (F43_ok 3 t u) fun ⟨a, v, w⟩ => .ask E49 (F49_ok v w) fun ⟨d, f, i, j, y, z⟩ => .ask E49 (F49_ok y z) fun ⟨l, m, o, p, q, s⟩ => .auto 2 <| .testB (a != 0) (fun h0 => .ask E106 (F106_ok (-4) 12 q s) fun ⟨d0, d1, d2, d3⟩ => .ask E106 (F106_ok (-4) 12 d2 d3) fun ⟨d4, d5, d6, d7⟩ => .ask E47 (F47_ok 0 12 d6 d7) fun ⟨d8, d9, f0⟩ => .auto 5 <| .ret (.a0 a d f i j l m o p d0 d1 d4 d5 d8 d9 f0)) (fun h0 => .auto 2 <| .ret (.a0 a d f i j l m o p 0 0 0 0 0 q s))
noncomputable def F48 (a : LV) (d : Int) : Option A48 := (D48 a d).ev some
theorem F48_ok (a : LV) (d : Int) : FU E48 (F48 a d) 48 [pT 0] [oF 2 [[lS 1 a, i64 d]]] := fu rfl rfl fun x => by kernel_rfl
/-! ## F13 -/
noncomputable abbrev B13 : Code := (Tryz.f13.body).getD .skip
inductive T13_2s0 where
  | mk (a : Int) (d : LV) (f i j : Int) (l m o : Nat) (p : Bool) (q s t u v w y z d0 d1 d2 d3 d4 d5 d6 : Int) (d7 : Nat) (d8 : Bool) (d9 : Nat) (f0 f1 f2 f3 f4 : Int) (f5 : Nat) (f6 f7 f8 f9 j0 j1 : LV)
inductive T13_2e0 where
  | mk (a : LV) (d f i : Int) (j l m : Nat) (o : Bool) (p q s t u v w y z d0 d1 d2 d3 d4 d5 : Int) (d6 : Nat) (d7 : Bool) (d8 : Nat) (d9 f0 f1 f2 f3 : Int) (f4 : Nat) (f5 f6 f7 f8 f9 j0 : LV)
inductive N13_2 where
  | s0 (x : T13_2s0)
  | e0 (x : T13_2e0)
abbrev N13_2.out : N13_2 → VX × S
  | .s0 (.mk a d f i j l m o p q s t u v w y z d0 d1 d2 d3 d4 d5 d6 d7 d8 d9 f0 f1 f2 f3 f4 f5 f6 f7 f8 f9 j0 j1) => (vN, S.mk (pT 0 :: U :: pT 1 :: pT 2 :: un 5 (i64 a :: un 145 [])) [oF 2 [[lS 1 d, i64 f]], oF 32 [[i64 0, i64 0, hS 3 0, hS 4 0, hS 5 0, vb false, i64 0, i64 0, u8 0, u8 0, u8 0, u8 0, u8 0, u8 0, u8 0, u8 0, i64 0, i64 0, i64 0, i64 0, i64 0, hS 6 0, vb false, hS 7 0, u8 0, u8 0, u8 0, u8 0, i64 0, hS 8 0, hS 9 0, hS 10 0]], oF 32 [[i64 i, i64 j, hS 11 l, hS 12 m, hS 13 o, vb p, i64 q, i64 s, u8 t, u8 u, u8 v, u8 w, u8 y, u8 z, u8 d0, u8 d1, i64 d2, i64 d3, i64 d4, i64 d5, i64 d6, hS 14 d7, vb d8, hS 15 d9, u8 f0, u8 f1, u8 f2, u8 f3, i64 f4, hS 16 f5, hS 17 0, hS 18 0]], oT 7 [], oT 7 [], oT 8 [], oT 10 [], oT 7 [], oT 1 [], oT 7 [], oT 7 [], oT 7 f6, oT 7 f7, oT 8 f8, oT 10 f9, oT 7 j0, oT 1 j1, oT 7 [], oT 7 []])
  | .e0 (.mk j2 j3 j4 j5 j6 j7 j8 j9 l0 l1 l2 l3 l4 l5 l6 l7 l8 l9 m0 m1 m2 m3 m4 m5 m6 m7 m8 m9 o0 o1 o2 o3 o4 o5 o6 o7 o8 o9) => (vX 2, S.mk (pT 0 :: U :: pT 1 :: pT 2 :: un 151 []) [oF 2 [[lS 1 j2, i64 j3]], oF 32 [[i64 0, i64 0, hS 3 0, hS 4 0, hS 5 0, vb false, i64 0, i64 0, u8 0, u8 0, u8 0, u8 0, u8 0, u8 0, u8 0, u8 0, i64 0, i64 0, i64 0, i64 0, i64 0, hS 6 0, vb false, hS 7 0, u8 0, u8 0, u8 0, u8 0, i64 0, hS 8 0, hS 9 0, hS 10 0]], oF 32 [[i64 j4, i64 j5, hS 11 j6, hS 12 j7, hS 13 j8, vb j9, i64 l0, i64 l1, u8 l2, u8 l3, u8 l4, u8 l5, u8 l6, u8 l7, u8 l8, u8 l9, i64 m0, i64 m1, i64 m2, i64 m3, i64 m4, hS 14 m5, vb m6, hS 15 m7, u8 m8, u8 m9, u8 o0, u8 o1, i64 o2, hS 16 o3, hS 17 0, hS 18 0]], oT 7 [], oT 7 [], oT 8 [], oT 10 [], oT 7 [], oT 1 [], oT 7 [], oT 7 [], oT 7 o4, oT 7 o5, oT 8 o6, oT 10 o7, oT 7 o8, oT 1 o9, oT 7 [], oT 7 []])
abbrev E13_2 := Ent.o2 N13_2.out .s0 .e0 (fun b => by cases b <;> simp)
noncomputable def D13_2 : T13_2s0 → PT N13_2 | .mk f i j l m o p q s t u v w y z d0 d1 d2 d3 d4 d5 d6 d7 d8 d9 f0 f1 f2 f3 f4 f5 f6 a f7 f8 f9 j0 j1 d => .test (f > 0) (fun h0 => .auto 1 <| .ask E47 (F47_ok 1 5 i j) fun ⟨j2, j3, j4⟩ => .auto 1 <| .test (0 + a ≤ List.length d ∧ (a + 1) * 8 ≤ 140737488355328 ∧ a + 1 ≤ 140737488355328) (fun h1 => .auto 1 <| .ret (.s0 (.mk (w64 (f - 1)) j3 j4 l m o p q s t u v w y z d0 d1 d2 d3 d4 d5 d6 d7 d8 d9 f0 f1 f2 f3 f4 f5 f6 (a + 1) f7 f8 f9 j0 j1 (List.take a d ++ [[i64 j2]])))) (fun _ => .fail)) (fun h0 => .ret (.e0 (.mk i j l m o p q s t u v w y z d0 d1 d2 d3 d4 d5 d6 d7 d8 d9 f0 f1 f2 f3 f4 f5 f6 a f7 f8 f9 j0 j1 d)))
noncomputable def L13_2 := E13_2.loop fun | .s0 x => D13_2 x | _ => .fail
theorem L13_2_ok : LU 13 1 B13 2 E13_2 L13_2 :=
  lk (L := notIn []) (fun b hb => by cases b <;> first | (cases hb; done) | (rename_i x; cases x; intro x; kernel_rfl) | (intro x; kernel_rfl))
noncomputable def N13_2.nx (n : Nat) : N13_2 → Option N13_2 | .s0 x => L13_2 n (.s0 x) | .e0 x => some (.e0 x)
theorem L13_2_s0 (n : Nat) (x : T13_2s0) : L13_2 (n + 1) (.s0 x) = (D13_2 x).ev (N13_2.nx n) := Ent.loop_eq fun c => by cases c <;> rfl
inductive T13_r21s0 where
  | mk (a : LV) (d f i : Int) (j l m : Nat) (o : Bool) (p q s t u v w y z d0 d1 d2 d3 d4 d5 : Int) (d6 : Nat) (d7 d8 d9 f0 : LV)
abbrev T13_r21s0.st : T13_r21s0 → S
  | .mk a d f i j l m o p q s t u v w y z d0 d1 d2 d3 d4 d5 d6 d7 d8 d9 f0 => S.mk (pT 0 :: U :: pT 1 :: pT 2 :: un 151 []) [oF 2 [[lS 1 a, i64 d]], oF 32 [[i64 0, i64 0, hS 3 0, hS 4 0, hS 5 0, vb false, i64 0, i64 0, u8 0, u8 0, u8 0, u8 0, u8 0, u8 0, u8 0, u8 0, i64 0, i64 0, i64 0, i64 0, i64 0, hS 6 0, vb false, hS 7 0, u8 0, u8 0, u8 0, u8 0, i64 0, hS 8 0, hS 9 0, hS 10 0]], oF 32 [[i64 f, i64 i, hS 11 j, hS 12 l, hS 13 m, vb o, i64 p, i64 q, u8 s, u8 t, u8 u, u8 v, u8 w, u8 y, u8 z, u8 d0, i64 d1, i64 d2, i64 d3, i64 d4, i64 d5, hS 14 d6, vb false, hS 15 0, u8 0, u8 0, u8 0, u8 0, i64 0, hS 16 0, hS 17 0, hS 18 0]], oT 7 [], oT 7 [], oT 8 [], oT 10 [], oT 7 [], oT 1 [], oT 7 [], oT 7 [], oT 7 d7, oT 7 d8, oT 8 d9, oT 10 f0, oT 7 [], oT 1 [], oT 7 [], oT 7 []]
inductive T13_r21e0 where
  | mk (a : LV) (d f i : Int) (j l m : Nat) (o : Bool) (p q s t u v w y z d0 d1 d2 d3 d4 d5 : Int) (d6 : Nat) (d7 : Bool) (d8 d9 f0 f1 : LV)
inductive N13_r21 where
  | e0 (x : T13_r21e0)
abbrev N13_r21.out : N13_r21 → VX × S
  | .e0 (.mk a d f i j l m o p q s t u v w y z d0 d1 d2 d3 d4 d5 d6 d7 d8 d9 f0 f1) => (vN, S.mk (pT 0 :: U :: pT 1 :: pT 2 :: un 151 []) [oF 2 [[lS 1 a, i64 d]], oF 32 [[i64 0, i64 0, hS 3 0, hS 4 0, hS 5 0, vb false, i64 0, i64 0, u8 0, u8 0, u8 0, u8 0, u8 0, u8 0, u8 0, u8 0, i64 0, i64 0, i64 0, i64 0, i64 0, hS 6 0, vb false, hS 7 0, u8 0, u8 0, u8 0, u8 0, i64 0, hS 8 0, hS 9 0, hS 10 0]], oF 32 [[i64 f, i64 i, hS 11 j, hS 12 l, hS 13 m, vb o, i64 p, i64 q, u8 s, u8 t, u8 u, u8 v, u8 w, u8 y, u8 z, u8 d0, i64 d1, i64 d2, i64 d3, i64 d4, i64 d5, hS 14 d6, vb d7, hS 15 0, u8 0, u8 0, u8 0, u8 0, i64 0, hS 16 0, hS 17 0, hS 18 0]], oT 7 [], oT 7 [], oT 8 [], oT 10 [], oT 7 [], oT 1 [], oT 7 [], oT 7 [], oT 7 d8, oT 7 d9, oT 8 f0, oT 10 f1, oT 7 [], oT 1 [], oT 7 [], oT 7 []])
abbrev E13_r21 := Ent.o1 N13_r21.out .e0 fun ⟨x⟩ => ⟨x, rfl⟩
noncomputable def D13_r21 : T13_r21s0 → PT N13_r21 | .mk f1 f2 d f i j l a m o p q s t u v w y z d0 d1 d2 d3 d4 d5 d6 d7 d8 => .ask E43 (F43_ok 3 f1 f2) fun ⟨f3, d9, f0⟩ => .testB (f3 == 0) (fun h0 => .auto 4 <| .ret (.e0 (.mk d9 f0 d f i j l a m o p q s t u v w y z d0 d1 d2 d3 d4 true d5 d6 d7 d8))) (fun h0 => .auto 5 <| .ret (.e0 (.mk d9 f0 d f i j l a m o p q s t u v w y z d0 d1 d2 d3 d4 (!a) d5 d6 d7 d8)))
noncomputable def J13_r21 (y : T13_r21s0) : Option N13_r21 := (D13_r21 y).ev some
theorem J13_r21_ok (y : T13_r21s0) : ∀ b, J13_r21 y = some b → regP Tryz.prog X CC 13 1 B13 21 y.st = some (E13_r21.out b) := by
  cases y; exact reg_ok (E := E13_r21) (fun x => by kernel_rfl)
inductive T13_c90s0 where
  | mk (a : Bool) (d : LV) (f i j : Int) (l m o : Nat) (p : Bool) (q s t u v w y z d0 d1 d2 d3 d4 d5 d6 : Int) (d7 d8 d9 : LV)
abbrev T13_c90s0.st : T13_c90s0 → S
  | .mk a d f i j l m o p q s t u v w y z d0 d1 d2 d3 d4 d5 d6 d7 d8 d9 => S.mk (pT 0 :: U :: pT 1 :: pT 2 :: un 86 (vb a :: un 64 [])) [oF 2 [[lS 1 d, i64 f]], oF 32 [[i64 0, i64 0, hS 3 0, hS 4 0, hS 5 0, vb false, i64 0, i64 0, u8 0, u8 0, u8 0, u8 0, u8 0, u8 0, u8 0, u8 0, i64 0, i64 0, i64 0, i64 0, i64 0, hS 6 0, vb false, hS 7 0, u8 0, u8 0, u8 0, u8 0, i64 0, hS 8 0, hS 9 0, hS 10 0]], oF 32 [[i64 i, i64 j, hS 11 l, hS 12 m, hS 13 o, vb p, i64 q, i64 s, u8 t, u8 u, u8 v, u8 w, u8 y, u8 z, u8 d0, u8 d1, i64 d2, i64 d3, i64 d4, i64 d5, i64 d6, hS 14 0, vb false, hS 15 0, u8 0, u8 0, u8 0, u8 0, i64 0, hS 16 0, hS 17 0, hS 18 0]], oT 7 [], oT 7 [], oT 8 [], oT 10 [], oT 7 [], oT 1 [], oT 7 [], oT 7 [], oT 7 d7, oT 7 d8, oT 8 d9, oT 10 [], oT 7 [], oT 1 [], oT 7 [], oT 7 []]
inductive T13_c90e0 where
  | mk (a : LV) (d f i : Int) (j l m : Nat) (o : Bool) (p q s t u v w y z d0 d1 d2 d3 d4 d5 : Int) (d6 : Nat) (d7 d8 d9 f0 : LV)
inductive N13_c90 where
  | e0 (x : T13_c90e0)
abbrev N13_c90.out : N13_c90 → VX × S
  | .e0 (.mk a d f i j l m o p q s t u v w y z d0 d1 d2 d3 d4 d5 d6 d7 d8 d9 f0) => (vN, S.mk (pT 0 :: U :: pT 1 :: pT 2 :: un 151 []) [oF 2 [[lS 1 a, i64 d]], oF 32 [[i64 0, i64 0, hS 3 0, hS 4 0, hS 5 0, vb false, i64 0, i64 0, u8 0, u8 0, u8 0, u8 0, u8 0, u8 0, u8 0, u8 0, i64 0, i64 0, i64 0, i64 0, i64 0, hS 6 0, vb false, hS 7 0, u8 0, u8 0, u8 0, u8 0, i64 0, hS 8 0, hS 9 0, hS 10 0]], oF 32 [[i64 f, i64 i, hS 11 j, hS 12 l, hS 13 m, vb o, i64 p, i64 q, u8 s, u8 t, u8 u, u8 v, u8 w, u8 y, u8 z, u8 d0, i64 d1, i64 d2, i64 d3, i64 d4, i64 d5, hS 14 d6, vb false, hS 15 0, u8 0, u8 0, u8 0, u8 0, i64 0, hS 16 0, hS 17 0, hS 18 0]], oT 7 [], oT 7 [], oT 8 [], oT 10 [], oT 7 [], oT 1 [], oT 7 [], oT 7 [], oT 7 d7, oT 7 d8, oT 8 d9, oT 10 f0, oT 7 [], oT 1 [], oT 7 [], oT 7 []])
abbrev E13_c90 := Ent.o1 N13_c90.out .e0 fun ⟨x⟩ => ⟨x, rfl⟩
noncomputable def D13_c90 : T13_c90s0 → PT N13_c90 | .mk d9 a d f i j l m o p q s t u v w y z d0 d1 d2 d3 d4 d5 d6 d7 d8 => .testB d9 (fun h0 => .ask E43 (F43_ok 5 a d) fun ⟨f0, f1, f2⟩ => .ask E49 (F49_ok f1 f2) fun ⟨f3, f4, f5, f6, f7, f8⟩ => .ask E43 (F43_ok 9 f7 f8) fun ⟨f9, j0, j1⟩ => .ask E49 (F49_ok j0 j1) fun ⟨j2, j3, j4, j5, j6, j7⟩ => .auto 1 <| .ret (.e0 (.mk j6 j7 f i j l m o p q s t u v w y z d0 d1 d2 d3 d4 d5 2 d6 d7 d8 ([[i64 f0, u8 f3, u8 f4, u8 f5, u8 f6, i64 1, i64 0, i64 0, i64 0, i64 0], [i64 (w64 (5 + f9)), u8 j2, u8 j3, u8 j4, u8 j5, i64 0, i64 0, i64 0, i64 0, i64 0]])))) (fun h0 => .ret (.e0 (.mk a d f i j l m o p q s t u v w y z d0 d1 d2 d3 d4 d5 0 d6 d7 d8 ([]))))
noncomputable def J13_c90 (y : T13_c90s0) : Option N13_c90 := (D13_c90 y).ev some
theorem J13_c90_ok (y : T13_c90s0) : CU 13 1 B13 90 E13_c90 (J13_c90 y) y.st := by
  cases y; exact cond_ok (L := notIn []) fun x => by kernel_rfl
inductive T13_0s0 where
  | mk (a : Int) (d : Bool) (f i : Int) (j : LV) (l m o : Int) (p : Nat) (q : LV)
inductive T13_0e0 where
  | mk (a : LV) (d f i : Int) (j : Nat) (l : LV)
inductive N13_0 where
  | s0 (x : T13_0s0)
  | e0 (x : T13_0e0)
abbrev N13_0.out : N13_0 → VX × S
  | .s0 (.mk a d f i j l m o p q) => (vN, S.mk (pT 0 :: U :: pT 1 :: pT 2 :: i64 a :: vb d :: i64 f :: i64 i :: un 147 []) [oF 2 [[lS 1 j, i64 l]], oF 32 [[i64 0, i64 0, hS 3 0, hS 4 0, hS 5 0, vb false, i64 0, i64 0, u8 0, u8 0, u8 0, u8 0, u8 0, u8 0, u8 0, u8 0, i64 0, i64 0, i64 0, i64 0, i64 0, hS 6 0, vb false, hS 7 0, u8 0, u8 0, u8 0, u8 0, i64 0, hS 8 0, hS 9 0, hS 10 0]], oF 32 [[i64 m, i64 o, hS 11 0, hS 12 0, hS 13 p, vb false, i64 0, i64 0, u8 0, u8 0, u8 0, u8 0, u8 0, u8 0, u8 0, u8 0, i64 0, i64 0, i64 0, i64 0, i64 0, hS 14 0, vb false, hS 15 0, u8 0, u8 0, u8 0, u8 0, i64 0, hS 16 0, hS 17 0, hS 18 0]], oT 7 [], oT 7 [], oT 8 [], oT 10 [], oT 7 [], oT 1 [], oT 7 [], oT 7 [], oT 7 [], oT 7 [], oT 8 q, oT 10 [], oT 7 [], oT 1 [], oT 7 [], oT 7 []])
  | .e0 (.mk s t u v w y) => (vX 0, S.mk (pT 0 :: U :: pT 1 :: pT 2 :: un 151 []) [oF 2 [[lS 1 s, i64 t]], oF 32 [[i64 0, i64 0, hS 3 0, hS 4 0, hS 5 0, vb false, i64 0, i64 0, u8 0, u8 0, u8 0, u8 0, u8 0, u8 0, u8 0, u8 0, i64 0, i64 0, i64 0, i64 0, i64 0, hS 6 0, vb false, hS 7 0, u8 0, u8 0, u8 0, u8 0, i64 0, hS 8 0, hS 9 0, hS 10 0]], oF 32 [[i64 u, i64 v, hS 11 0, hS 12 0, hS 13 w, vb false, i64 0, i64 0, u8 0, u8 0, u8 0, u8 0, u8 0, u8 0, u8 0, u8 0, i64 0, i64 0, i64 0, i64 0, i64 0, hS 14 0, vb false, hS 15 0, u8 0, u8 0, u8 0, u8 0, i64 0, hS 16 0, hS 17 0, hS 18 0]], oT 7 [], oT 7 [], oT 8 [], oT 10 [], oT 7 [], oT 1 [], oT 7 [], oT 7 [], oT 7 [], oT 7 [], oT 8 y, oT 10 [], oT 7 [], oT 1 [], oT 7 [], oT 7 []])
abbrev E13_0 := Ent.o2 N13_0.out .s0 .e0 (fun b => by cases b <;> simp)
noncomputable def D13_0 : T13_0s0 → PT N13_0 | .mk f i j l m o p q a d => .test (l > 0) (fun h0 => .ask E44 (F44_ok f i m o) fun ⟨u, s, v, w, t⟩ => .auto 1 <| .ask E45 (F45_ok v w) fun ⟨y, z, d0, d1, d2, d3, d4⟩ => .auto 4 <| .test (0 + s ≤ List.length t) (fun h1 => .auto 1 <| .test (0 + a ≤ List.length d ∧ (a + 1) * 80 ≤ 140737488355328 ∧ a + 1 ≤ 140737488355328) (fun h2 => .auto 1 <| .ask E43 (F43_ok 6 d3 d4) fun ⟨d5, d6, d7⟩ => .ret (.s0 (.mk f i (w64 (w64 (j + 1) + d5)) (w64 (l - 1)) d6 d7 p q (a + 1) (List.take a d ++ [[i64 j, vb u, lS 2 (List.take s t), i64 y, i64 z, i64 d0, i64 d1, i64 d2]])))) (fun _ => .fail)) (fun _ => .fail)) (fun h0 => .ret (.e0 (.mk m o p q a d)))
noncomputable def L13_0 := E13_0.loop fun | .s0 x => D13_0 x | _ => .fail
theorem L13_0_ok : LU 13 1 B13 0 E13_0 L13_0 :=
  lk (L := notIn []) (fun b hb => by cases b <;> first | (cases hb; done) | (rename_i x; cases x; intro x; kernel_rfl) | (intro x; kernel_rfl))
noncomputable def N13_0.nx (n : Nat) : N13_0 → Option N13_0 | .s0 x => L13_0 n (.s0 x) | .e0 x => some (.e0 x)
theorem L13_0_s0 (n : Nat) (x : T13_0s0) : L13_0 (n + 1) (.s0 x) = (D13_0 x).ev (N13_0.nx n) := Ent.loop_eq fun c => by cases c <;> rfl
inductive T13_c22s0 where
  | mk (a : Bool) (d : LV) (f i j : Int)
abbrev T13_c22s0.st : T13_c22s0 → S
  | .mk a d f i j => S.mk (pT 0 :: U :: pT 1 :: pT 2 :: un 18 (vb a :: un 132 [])) [oF 2 [[lS 1 d, i64 f]], oF 32 [[i64 0, i64 0, hS 3 0, hS 4 0, hS 5 0, vb false, i64 0, i64 0, u8 0, u8 0, u8 0, u8 0, u8 0, u8 0, u8 0, u8 0, i64 0, i64 0, i64 0, i64 0, i64 0, hS 6 0, vb false, hS 7 0, u8 0, u8 0, u8 0, u8 0, i64 0, hS 8 0, hS 9 0, hS 10 0]], oF 32 [[i64 i, i64 j, hS 11 0, hS 12 0, hS 13 0, vb false, i64 0, i64 0, u8 0, u8 0, u8 0, u8 0, u8 0, u8 0, u8 0, u8 0, i64 0, i64 0, i64 0, i64 0, i64 0, hS 14 0, vb false, hS 15 0, u8 0, u8 0, u8 0, u8 0, i64 0, hS 16 0, hS 17 0, hS 18 0]], oT 7 [], oT 7 [], oT 8 [], oT 10 [], oT 7 [], oT 1 [], oT 7 [], oT 7 [], oT 7 [], oT 7 [], oT 8 [], oT 10 [], oT 7 [], oT 1 [], oT 7 [], oT 7 []]
inductive T13_c22e0 where
  | mk (a : LV) (d f i : Int) (j l m : Nat) (o p q : LV)
inductive N13_c22 where
  | e0 (x : T13_c22e0)
abbrev N13_c22.out : N13_c22 → VX × S
  | .e0 (.mk a d f i j l m o p q) => (vN, S.mk (pT 0 :: U :: pT 1 :: pT 2 :: un 151 []) [oF 2 [[lS 1 a, i64 d]], oF 32 [[i64 0, i64 0, hS 3 0, hS 4 0, hS 5 0, vb false, i64 0, i64 0, u8 0, u8 0, u8 0, u8 0, u8 0, u8 0, u8 0, u8 0, i64 0, i64 0, i64 0, i64 0, i64 0, hS 6 0, vb false, hS 7 0, u8 0, u8 0, u8 0, u8 0, i64 0, hS 8 0, hS 9 0, hS 10 0]], oF 32 [[i64 f, i64 i, hS 11 j, hS 12 l, hS 13 m, vb false, i64 0, i64 0, u8 0, u8 0, u8 0, u8 0, u8 0, u8 0, u8 0, u8 0, i64 0, i64 0, i64 0, i64 0, i64 0, hS 14 0, vb false, hS 15 0, u8 0, u8 0, u8 0, u8 0, i64 0, hS 16 0, hS 17 0, hS 18 0]], oT 7 [], oT 7 [], oT 8 [], oT 10 [], oT 7 [], oT 1 [], oT 7 [], oT 7 [], oT 7 o, oT 7 p, oT 8 q, oT 10 [], oT 7 [], oT 1 [], oT 7 [], oT 7 []])
abbrev E13_c22 := Ent.o1 N13_c22.out .e0 fun ⟨x⟩ => ⟨x, rfl⟩
noncomputable def D13_c22 : T13_c22s0 → PT N13_c22 | .mk p f i j l => .testB p (fun h0 => .ask E43 (F43_ok 3 f i) fun ⟨q, s, t⟩ => .ask E43 (F43_ok 2 s t) fun ⟨u, v, w⟩ => .ask E43 (F43_ok 4 v w) fun ⟨y, z, d0⟩ => .ask E43 (F43_ok 3 z d0) fun ⟨d1, d2, d3⟩ => .cut E13_0 (L13_0_ok (.s0 (.mk (w64 (1 + q)) (u == 0) y (w64 (1 + d1)) d2 d3 j l 0 ([]))) rfl) fun | .e0 (.mk d4 d5 d6 d7 d8 d9) => .ret (.e0 (.mk d4 d5 d6 d7 0 0 d8 ([]) ([]) d9)) | _ => .fail) (fun h0 => .ask E46 (F46_ok 1 14 f i) fun ⟨a, f0, f1, m⟩ => .ask E47 (F47_ok 1 14 f0 f1) fun ⟨f2, f3, f4⟩ => .auto 1 <| .test (0 + a ≤ List.length m ∧ (a + 1) * 56 ≤ 140737488355328 ∧ a + 1 ≤ 140737488355328) (fun h1 => .auto 1 <| .ask E46 (F46_ok 1 14 f3 f4) fun ⟨d, f5, f6, o⟩ => .ask E47 (F47_ok 1 14 f5 f6) fun ⟨f7, f8, f9⟩ => .auto 1 <| .test (0 + d ≤ List.length o ∧ (d + 1) * 56 ≤ 140737488355328 ∧ d + 1 ≤ 140737488355328) (fun h2 => .auto 1 <| .ret (.e0 (.mk f8 f9 j l (a + 1) (d + 1) 0 (List.take a m ++ [[i64 60, i64 f2, i64 0, i64 0, i64 0, i64 0, i64 0]]) (List.take d o ++ [[i64 60, i64 f7, i64 0, i64 0, i64 0, i64 0, i64 0]]) ([])))) (fun _ => .fail)) (fun _ => .fail))
noncomputable def J13_c22 (y : T13_c22s0) : Option N13_c22 := (D13_c22 y).ev some
theorem J13_c22_ok (y : T13_c22s0) : CU 13 1 B13 22 E13_c22 (J13_c22 y) y.st := by
  cases y; exact cond_ok (L := notIn []) fun x => by kernel_rfl
inductive T13_c15s0 where
  | mk (a : Bool) (d : LV) (f i : Int)
abbrev T13_c15s0.st : T13_c15s0 → S
  | .mk a d f i => S.mk (pT 0 :: U :: pT 1 :: pT 2 :: un 11 (vb a :: un 139 [])) [oF 2 [[lS 1 d, i64 f]], oF 32 [[i64 0, i64 0, hS 3 0, hS 4 0, hS 5 0, vb false, i64 0, i64 0, u8 0, u8 0, u8 0, u8 0, u8 0, u8 0, u8 0, u8 0, i64 0, i64 0, i64 0, i64 0, i64 0, hS 6 0, vb false, hS 7 0, u8 0, u8 0, u8 0, u8 0, i64 0, hS 8 0, hS 9 0, hS 10 0]], oF 32 [[i64 i, i64 0, hS 11 0, hS 12 0, hS 13 0, vb false, i64 0, i64 0, u8 0, u8 0, u8 0, u8 0, u8 0, u8 0, u8 0, u8 0, i64 0, i64 0, i64 0, i64 0, i64 0, hS 14 0, vb false, hS 15 0, u8 0, u8 0, u8 0, u8 0, i64 0, hS 16 0, hS 17 0, hS 18 0]], oT 7 [], oT 7 [], oT 8 [], oT 10 [], oT 7 [], oT 1 [], oT 7 [], oT 7 [], oT 7 [], oT 7 [], oT 8 [], oT 10 [], oT 7 [], oT 1 [], oT 7 [], oT 7 []]
inductive T13_c15e0 where
  | mk (a : LV) (d f i : Int)
inductive N13_c15 where
  | e0 (x : T13_c15e0)
abbrev N13_c15.out : N13_c15 → VX × S
  | .e0 (.mk a d f i) => (vN, S.mk (pT 0 :: U :: pT 1 :: pT 2 :: un 151 []) [oF 2 [[lS 1 a, i64 d]], oF 32 [[i64 0, i64 0, hS 3 0, hS 4 0, hS 5 0, vb false, i64 0, i64 0, u8 0, u8 0, u8 0, u8 0, u8 0, u8 0, u8 0, u8 0, i64 0, i64 0, i64 0, i64 0, i64 0, hS 6 0, vb false, hS 7 0, u8 0, u8 0, u8 0, u8 0, i64 0, hS 8 0, hS 9 0, hS 10 0]], oF 32 [[i64 f, i64 i, hS 11 0, hS 12 0, hS 13 0, vb false, i64 0, i64 0, u8 0, u8 0, u8 0, u8 0, u8 0, u8 0, u8 0, u8 0, i64 0, i64 0, i64 0, i64 0, i64 0, hS 14 0, vb false, hS 15 0, u8 0, u8 0, u8 0, u8 0, i64 0, hS 16 0, hS 17 0, hS 18 0]], oT 7 [], oT 7 [], oT 8 [], oT 10 [], oT 7 [], oT 1 [], oT 7 [], oT 7 [], oT 7 [], oT 7 [], oT 8 [], oT 10 [], oT 7 [], oT 1 [], oT 7 [], oT 7 []])
abbrev E13_c15 := Ent.o1 N13_c15.out .e0 fun ⟨x⟩ => ⟨x, rfl⟩
noncomputable def D13_c15 : T13_c15s0 → PT N13_c15 | .mk i a d f => .testB i (fun h0 => .ask E43 (F43_ok 5 a d) fun ⟨j, l, m⟩ => .auto 1 <| .ret (.e0 (.mk l m f (w64 (2 + j))))) (fun h0 => .ret (.e0 (.mk a d f 0)))
noncomputable def J13_c15 (y : T13_c15s0) : Option N13_c15 := (D13_c15 y).ev some
theorem J13_c15_ok (y : T13_c15s0) : CU 13 1 B13 15 E13_c15 (J13_c15 y) y.st := by
  cases y; exact cond_ok (L := notIn []) fun x => by kernel_rfl
noncomputable def D13 (o4 : LV) (o5 : Int) : PT A13 := .ask E43 (F43_ok 4 o4 o5) fun ⟨f, o6, o7⟩ => .auto 2 <| .cut E13_c15 (J13_c15_ok (.mk (f == 2) o6 o7 f)) fun | .e0 (.mk o8 o9 i p0) => .auto 1 <| .cut E13_c22 (J13_c22_ok (.mk (i == 3) o8 o9 i p0)) fun | .e0 (.mk p1 p2 p3 p4 p5 p6 p7 p8 p9 q0) => .ask E43 (F43_ok 3 p1 p2) fun ⟨q1, q2, q3⟩ => .auto 1 <| .ask E43 (F43_ok 2 q2 q3) fun ⟨q4, q5, q6⟩ => .auto 1 <| .ask E48 (F48_ok q5 q6) fun ⟨q7, q8, q9, t0, t1, t2, t3, t4, t5, t6, t7, t8, t9, v0, v1, v2⟩ => .auto 1 <| .ask E43 (F43_ok 3 v1 v2) fun ⟨v3, v4, v5⟩ => .cut E13_c90 (J13_c90_ok (.mk (v3 == 0) v4 v5 p3 p4 p5 p6 p7 (decide (q1 > 0)) q4 q7 q8 q9 t0 t1 t2 t3 t4 t5 t6 t7 t8 t9 v0 p8 p9 q0)) fun | .e0 (.mk v6 v7 v8 v9 y0 y1 y2 y3 y4 y5 y6 y7 y8 y9 z0 z1 z2 z3 z4 z5 z6 z7 z8 z9 d10 d11 d12 d13) => .cut E13_r21 (J13_r21_ok (.mk v6 v7 v8 v9 y0 y1 y2 y3 y4 y5 y6 y7 y8 y9 z0 z1 z2 z3 z4 z5 z6 z7 z8 z9 d10 d11 d12 d13)) fun | .e0 (.mk j l m o p q s t u v w y z d0 d1 d2 d3 d4 d5 d6 d7 d8 d9 f0 d f1 f2 f3 f4) => .auto 1 <| .testB d (fun h0 => .ask E46 (F46_ok 0 4 j l) fun ⟨a, d14, d15, f5⟩ => .ask E47 (F47_ok 1 4 d14 d15) fun ⟨d16, d17, d18⟩ => .auto 1 <| .test (0 + a ≤ List.length f5 ∧ (a + 1) * 56 ≤ 140737488355328 ∧ a + 1 ≤ 140737488355328) (fun h1 => .auto 1 <| .ask E49 (F49_ok d17 d18) fun ⟨d19, d20, d21, d22, d23, d24⟩ => .auto 1 <| .ask E43 (F43_ok 2 d23 d24) fun ⟨d25, d26, d27⟩ => .auto 1 <| .ask E43 (F43_ok 4 d26 d27) fun ⟨d28, d29, d30⟩ => .ask E43 (F43_ok 2 d29 d30) fun ⟨d31, d32, d33⟩ => .cut E13_2 (L13_2_ok (.s0 (.mk (w64 (d28 * d31)) d32 d33 m o p q s t u v w y z d0 d1 d2 d3 d4 d5 d6 d7 d8 d9 f0 d (a + 1) d19 d20 d21 d22 d25 0 f1 f2 f3 f4 (List.take a f5 ++ [[i64 60, i64 d16, i64 0, i64 0, i64 0, i64 0, i64 0]]) ([]))) rfl) fun | .e0 (.mk d34 d35 f6 f7 f8 f9 j0 j1 j2 j3 j4 j5 j6 j7 j8 j9 l0 l1 l2 l3 l4 l5 l6 l7 l8 l9 m0 m1 m2 m3 m4 m5 m6 m7 m8 m9 o0 o1) => (.ask E43 (F43_ok 2 d34 d35) fun ⟨d36, o2, o3⟩ => .testB (d36 == 0) (fun h2 => .ask E46 (F46_ok 0 1 o2 o3) fun ⟨d37, d38, d39, d40⟩ => .ask E46 (F46_ok 0 1 d38 d39) fun ⟨d41, d42, d43, d44⟩ => .auto 4 <| .ret (.a0 f6 f7 f8 f9 j0 j1 j2 j3 j4 j5 j6 j7 j8 j9 l0 l1 l2 l3 l4 l5 l6 l7 l8 l9 m0 m1 m2 m3 m4 m5 d37 d41 d42 d43 m6 m7 m8 m9 o0 o1 d40 d44)) (fun h2 => .auto 2 <| .ret (.a0 f6 f7 f8 f9 j0 j1 j2 j3 j4 j5 j6 j7 j8 j9 l0 l1 l2 l3 l4 l5 l6 l7 l8 l9 m0 m1 m2 m3 m4 m5 0 0 o2 o3 m6 m7 m8 m9 o0 o1 ([]) ([])))) | _ => .fail) (fun _ => .fail)) (fun h0 => .auto 2 <| .ret (.a0 m o p q s t u v w y z d0 d1 d2 d3 d4 d5 d6 d7 d8 d9 f0 d 0 0 0 0 0 0 0 0 0 j l f1 f2 f3 f4 ([]) ([]) ([]) ([])))
noncomputable def F13 (a : LV) (d : Int) : Option A13 := (D13 a d).ev some
theorem F13_ok (a : LV) (d : Int) : FU E13 (F13 a d) 13 [pT 0] [oF 2 [[lS 1 a, i64 d]]] := fu rfl rfl fun x => by kernel_rfl
/-! ## F69 -/
noncomputable abbrev B69 : Code := (Tryz.f69.body).getD .skip
inductive T69_c115s0 where
  | mk (a : Bool) (d : LV) (f i j l m o p : Int) (q s t u v w y z d0 : Nat) (d1 d2 : Int) (d3 d4 d5 : Nat) (d6 : Bool) (d7 d8 d9 f0 f1 f2 f3 f4 f5 f6 f7 f8 f9 j0 j1 : Int) (j2 : Nat) (j3 : Bool) (j4 : Nat) (j5 j6 j7 j8 j9 : Int) (l0 l1 l2 : Nat) (l3 l4 l5 l6 l7 l8 l9 m0 m1 m2 m3 m4 m5 m6 m7 m8 m9 : LV)
abbrev T69_c115s0.st : T69_c115s0 → S
  | .mk a d f i j l m o p q s t u v w y z d0 d1 d2 d3 d4 d5 d6 d7 d8 d9 f0 f1 f2 f3 f4 f5 f6 f7 f8 f9 j0 j1 j2 j3 j4 j5 j6 j7 j8 j9 l0 l1 l2 l3 l4 l5 l6 l7 l8 l9 m0 m1 m2 m3 m4 m5 m6 m7 m8 m9 => S.mk (pT 0 :: un 11 (pT 1 :: pT 2 :: un 101 (vb a :: un 14 []))) [oF 2 [[lS 1 d, i64 f]], oF 50 [[i64 0, i64 0, i64 0, i64 0, i64 0, i64 0, i64 0, hS 3 0, hS 4 0, hS 5 0, hS 6 0, hS 7 0, hS 8 0, hS 9 0, hS 10 0, hS 11 0, vb false, hS 12 0, i64 0, i64 0, hS 13 0, hS 14 0, hS 15 0, vb false, i64 0, i64 0, u8 0, u8 0, u8 0, u8 0, u8 0, u8 0, u8 0, u8 0, i64 0, i64 0, i64 0, i64 0, i64 0, hS 16 0, vb false, hS 17 0, u8 0, u8 0, u8 0, u8 0, i64 0, hS 18 0, hS 19 0, hS 20 0]], oF 50 [[i64 i, i64 j, i64 l, i64 0, i64 m, i64 o, i64 p, hS 21 q, hS 22 s, hS 23 t, hS 24 u, hS 25 v, hS 26 w, hS 27 y, hS 28 z, hS 29 d0, vb false, hS 30 0, i64 d1, i64 d2, hS 31 d3, hS 32 d4, hS 33 d5, vb d6, i64 d7, i64 d8, u8 d9, u8 f0, u8 f1, u8 f2, u8 f3, u8 f4, u8 f5, u8 f6, i64 f7, i64 f8, i64 f9, i64 j0, i64 j1, hS 34 j2, vb j3, hS 35 j4, u8 j5, u8 j6, u8 j7, u8 j8, i64 j9, hS 36 l0, hS 37 l1, hS 38 l2]], oT 7 [], oT 7 [], oT 7 [], oT 7 [], oT 7 [], oT 7 [], oT 7 [], oT 7 [], oT 7 [], oT 2 [], oT 7 [], oT 7 [], oT 8 [], oT 10 [], oT 7 [], oT 1 [], oT 7 [], oT 7 [], oT 7 l3, oT 7 l4, oT 7 l5, oT 7 l6, oT 7 l7, oT 7 l8, oT 7 l9, oT 7 m0, oT 7 m1, oT 2 [], oT 7 m2, oT 7 m3, oT 8 m4, oT 10 m5, oT 7 m6, oT 1 m7, oT 7 m8, oT 7 m9]
inductive T69_c115e0 where
  | mk (a : LV) (d f i j l m o p : Int) (q s t u v w y z d0 : Nat) (d1 d2 : Int) (d3 d4 d5 : Nat) (d6 : Bool) (d7 d8 d9 f0 f1 f2 f3 f4 f5 f6 f7 f8 f9 j0 j1 : Int) (j2 : Nat) (j3 : Bool) (j4 : Nat) (j5 j6 j7 j8 j9 : Int) (l0 l1 l2 : Nat) (l3 l4 l5 l6 l7 l8 l9 m0 m1 m2 m3 m4 m5 m6 m7 m8 m9 : LV)
inductive N69_c115 where
  | e0 (x : T69_c115e0)
abbrev N69_c115.out : N69_c115 → VX × S
  | .e0 (.mk a d f i j l m o p q s t u v w y z d0 d1 d2 d3 d4 d5 d6 d7 d8 d9 f0 f1 f2 f3 f4 f5 f6 f7 f8 f9 j0 j1 j2 j3 j4 j5 j6 j7 j8 j9 l0 l1 l2 l3 l4 l5 l6 l7 l8 l9 m0 m1 m2 m3 m4 m5 m6 m7 m8 m9) => (vN, S.mk (pT 0 :: un 11 (pT 1 :: pT 2 :: un 116 [])) [oF 2 [[lS 1 a, i64 d]], oF 50 [[i64 0, i64 0, i64 0, i64 0, i64 0, i64 0, i64 0, hS 3 0, hS 4 0, hS 5 0, hS 6 0, hS 7 0, hS 8 0, hS 9 0, hS 10 0, hS 11 0, vb false, hS 12 0, i64 0, i64 0, hS 13 0, hS 14 0, hS 15 0, vb false, i64 0, i64 0, u8 0, u8 0, u8 0, u8 0, u8 0, u8 0, u8 0, u8 0, i64 0, i64 0, i64 0, i64 0, i64 0, hS 16 0, vb false, hS 17 0, u8 0, u8 0, u8 0, u8 0, i64 0, hS 18 0, hS 19 0, hS 20 0]], oF 50 [[i64 f, i64 i, i64 j, i64 l, i64 m, i64 o, i64 p, hS 21 q, hS 22 s, hS 23 t, hS 24 u, hS 25 v, hS 26 w, hS 27 y, hS 28 z, hS 29 d0, vb false, hS 30 0, i64 d1, i64 d2, hS 31 d3, hS 32 d4, hS 33 d5, vb d6, i64 d7, i64 d8, u8 d9, u8 f0, u8 f1, u8 f2, u8 f3, u8 f4, u8 f5, u8 f6, i64 f7, i64 f8, i64 f9, i64 j0, i64 j1, hS 34 j2, vb j3, hS 35 j4, u8 j5, u8 j6, u8 j7, u8 j8, i64 j9, hS 36 l0, hS 37 l1, hS 38 l2]], oT 7 [], oT 7 [], oT 7 [], oT 7 [], oT 7 [], oT 7 [], oT 7 [], oT 7 [], oT 7 [], oT 2 [], oT 7 [], oT 7 [], oT 8 [], oT 10 [], oT 7 [], oT 1 [], oT 7 [], oT 7 [], oT 7 l3, oT 7 l4, oT 7 l5, oT 7 l6, oT 7 l7, oT 7 l8, oT 7 l9, oT 7 m0, oT 7 m1, oT 2 [], oT 7 m2, oT 7 m3, oT 8 m4, oT 10 m5, oT 7 m6, oT 1 m7, oT 7 m8, oT 7 m9])
abbrev E69_c115 := Ent.o1 N69_c115.out .e0 fun ⟨x⟩ => ⟨x, rfl⟩
noncomputable def D69_c115 : T69_c115s0 → PT N69_c115 | .mk m9 a d f i j l m o p q s t u v w y z d0 d1 d2 d3 d4 d5 d6 d7 d8 d9 f0 f1 f2 f3 f4 f5 f6 f7 f8 f9 j0 j1 j2 j3 j4 j5 j6 j7 j8 j9 l0 l1 l2 l3 l4 l5 l6 l7 l8 l9 m0 m1 m2 m3 m4 m5 m6 m7 m8 => .testB m9 (fun h0 => .ask E43 (F43_ok 2 a d) fun ⟨o0, o1, o2⟩ => .auto 1 <| .ret (.e0 (.mk o1 o2 f i j (w64 (1 + o0)) l m o p q s t u v w y z d0 d1 d2 d3 d4 d5 d6 d7 d8 d9 f0 f1 f2 f3 f4 f5 f6 f7 f8 f9 j0 j1 j2 j3 j4 j5 j6 j7 j8 j9 l0 l1 l2 l3 l4 l5 l6 l7 l8 l9 m0 m1 m2 m3 m4 m5 m6 m7 m8))) (fun h0 => .ret (.e0 (.mk a d f i j 0 l m o p q s t u v w y z d0 d1 d2 d3 d4 d5 d6 d7 d8 d9 f0 f1 f2 f3 f4 f5 f6 f7 f8 f9 j0 j1 j2 j3 j4 j5 j6 j7 j8 j9 l0 l1 l2 l3 l4 l5 l6 l7 l8 l9 m0 m1 m2 m3 m4 m5 m6 m7 m8)))
noncomputable def J69_c115 (y : T69_c115s0) : Option N69_c115 := (D69_c115 y).ev some
theorem J69_c115_ok (y : T69_c115s0) : CU 69 1 B69 115 E69_c115 (J69_c115 y) y.st := by
  cases y; exact cond_ok (L := notIn []) fun x => by kernel_rfl
inductive T69_r18s0 where
  | mk (a : Bool) (d : LV) (f i j l m o p : Int) (q s t u v w y z d0 : Nat) (d1 d2 : Int) (d3 d4 d5 : Nat) (d6 : Bool) (d7 d8 d9 f0 f1 f2 f3 f4 f5 f6 f7 f8 f9 j0 j1 : Int) (j2 : Nat) (j3 : Bool) (j4 : Nat) (j5 j6 j7 j8 j9 : Int) (l0 l1 l2 : Nat) (l3 l4 l5 l6 l7 l8 l9 m0 m1 m2 m3 m4 m5 m6 m7 m8 m9 : LV)
abbrev T69_r18s0.st : T69_r18s0 → S
  | .mk a d f i j l m o p q s t u v w y z d0 d1 d2 d3 d4 d5 d6 d7 d8 d9 f0 f1 f2 f3 f4 f5 f6 f7 f8 f9 j0 j1 j2 j3 j4 j5 j6 j7 j8 j9 l0 l1 l2 l3 l4 l5 l6 l7 l8 l9 m0 m1 m2 m3 m4 m5 m6 m7 m8 m9 => S.mk (pT 0 :: un 4 (vb a :: un 6 (pT 1 :: pT 2 :: un 116 []))) [oF 2 [[lS 1 d, i64 f]], oF 50 [[i64 0, i64 0, i64 0, i64 0, i64 0, i64 0, i64 0, hS 3 0, hS 4 0, hS 5 0, hS 6 0, hS 7 0, hS 8 0, hS 9 0, hS 10 0, hS 11 0, vb false, hS 12 0, i64 0, i64 0, hS 13 0, hS 14 0, hS 15 0, vb false, i64 0, i64 0, u8 0, u8 0, u8 0, u8 0, u8 0, u8 0, u8 0, u8 0, i64 0, i64 0, i64 0, i64 0, i64 0, hS 16 0, vb false, hS 17 0, u8 0, u8 0, u8 0, u8 0, i64 0, hS 18 0, hS 19 0, hS 20 0]], oF 50 [[i64 i, i64 j, i64 l, i64 0, i64 m, i64 o, i64 p, hS 21 q, hS 22 s, hS 23 t, hS 24 u, hS 25 v, hS 26 w, hS 27 y, hS 28 z, hS 29 d0, vb false, hS 30 0, i64 d1, i64 d2, hS 31 d3, hS 32 d4, hS 33 d5, vb d6, i64 d7, i64 d8, u8 d9, u8 f0, u8 f1, u8 f2, u8 f3, u8 f4, u8 f5, u8 f6, i64 f7, i64 f8, i64 f9, i64 j0, i64 j1, hS 34 j2, vb j3, hS 35 j4, u8 j5, u8 j6, u8 j7, u8 j8, i64 j9, hS 36 l0, hS 37 l1, hS 38 l2]], oT 7 [], oT 7 [], oT 7 [], oT 7 [], oT 7 [], oT 7 [], oT 7 [], oT 7 [], oT 7 [], oT 2 [], oT 7 [], oT 7 [], oT 8 [], oT 10 [], oT 7 [], oT 1 [], oT 7 [], oT 7 [], oT 7 l3, oT 7 l4, oT 7 l5, oT 7 l6, oT 7 l7, oT 7 l8, oT 7 l9, oT 7 m0, oT 7 m1, oT 2 [], oT 7 m2, oT 7 m3, oT 8 m4, oT 10 m5, oT 7 m6, oT 1 m7, oT 7 m8, oT 7 m9]
inductive T69_r18e0 where
  | mk (a : Bool) (d : LV) (f i j l m o p : Int) (q s t u v w y z d0 : Nat) (d1 d2 : Int) (d3 d4 d5 : Nat) (d6 : Bool) (d7 d8 d9 f0 f1 f2 f3 f4 f5 f6 f7 f8 f9 j0 j1 : Int) (j2 : Nat) (j3 : Bool) (j4 : Nat) (j5 j6 j7 j8 j9 : Int) (l0 l1 l2 : Nat) (l3 l4 l5 l6 l7 l8 l9 m0 m1 m2 m3 m4 m5 m6 m7 m8 m9 : LV)
inductive N69_r18 where
  | e0 (x : T69_r18e0)
abbrev N69_r18.out : N69_r18 → VX × S
  | .e0 (.mk a d f i j l m o p q s t u v w y z d0 d1 d2 d3 d4 d5 d6 d7 d8 d9 f0 f1 f2 f3 f4 f5 f6 f7 f8 f9 j0 j1 j2 j3 j4 j5 j6 j7 j8 j9 l0 l1 l2 l3 l4 l5 l6 l7 l8 l9 m0 m1 m2 m3 m4 m5 m6 m7 m8 m9) => (vN, S.mk (pT 0 :: un 11 (pT 1 :: pT 2 :: un 101 (vb a :: un 14 []))) [oF 2 [[lS 1 d, i64 f]], oF 50 [[i64 0, i64 0, i64 0, i64 0, i64 0, i64 0, i64 0, hS 3 0, hS 4 0, hS 5 0, hS 6 0, hS 7 0, hS 8 0, hS 9 0, hS 10 0, hS 11 0, vb false, hS 12 0, i64 0, i64 0, hS 13 0, hS 14 0, hS 15 0, vb false, i64 0, i64 0, u8 0, u8 0, u8 0, u8 0, u8 0, u8 0, u8 0, u8 0, i64 0, i64 0, i64 0, i64 0, i64 0, hS 16 0, vb false, hS 17 0, u8 0, u8 0, u8 0, u8 0, i64 0, hS 18 0, hS 19 0, hS 20 0]], oF 50 [[i64 i, i64 j, i64 l, i64 0, i64 m, i64 o, i64 p, hS 21 q, hS 22 s, hS 23 t, hS 24 u, hS 25 v, hS 26 w, hS 27 y, hS 28 z, hS 29 d0, vb false, hS 30 0, i64 d1, i64 d2, hS 31 d3, hS 32 d4, hS 33 d5, vb d6, i64 d7, i64 d8, u8 d9, u8 f0, u8 f1, u8 f2, u8 f3, u8 f4, u8 f5, u8 f6, i64 f7, i64 f8, i64 f9, i64 j0, i64 j1, hS 34 j2, vb j3, hS 35 j4, u8 j5, u8 j6, u8 j7, u8 j8, i64 j9, hS 36 l0, hS 37 l1, hS 38 l2]], oT 7 [], oT 7 [], oT 7 [], oT 7 [], oT 7 [], oT 7 [], oT 7 [], oT 7 [], oT 7 [], oT 2 [], oT 7 [], oT 7 [], oT 8 [], oT 10 [], oT 7 [], oT 1 [], oT 7 [], oT 7 [], oT 7 l3, oT 7 l4, oT 7 l5, oT 7 l6, oT 7 l7, oT 7 l8, oT 7 l9, oT 7 m0, oT 7 m1, oT 2 [], oT 7 m2, oT 7 m3, oT 8 m4, oT 10 m5, oT 7 m6, oT 1 m7, oT 7 m8, oT 7 m9])
abbrev E69_r18 := Ent.o1 N69_r18.out .e0 fun ⟨x⟩ => ⟨x, rfl⟩
noncomputable def D69_r18 : T69_r18s0 → PT N69_r18 | .mk m9 a d f i j l m o p q s t u v w y z d0 d1 d2 d3 d4 d5 d6 d7 d8 d9 f0 f1 f2 f3 f4 f5 f6 f7 f8 f9 j0 j1 j2 j3 j4 j5 j6 j7 j8 j9 l0 l1 l2 l3 l4 l5 l6 l7 l8 l9 m0 m1 m2 m3 m4 m5 m6 m7 m8 => .testB (!m9) (fun h0 => .auto 1 <| .ask E43 (F43_ok 4 a d) fun ⟨o0, o1, o2⟩ => .auto 2 <| .ret (.e0 (.mk (o0 == 0) o1 o2 f i j l m o p q s t u v w y z d0 d1 d2 d3 d4 d5 d6 d7 d8 d9 f0 f1 f2 f3 f4 f5 f6 f7 f8 f9 j0 j1 j2 j3 j4 j5 j6 j7 j8 j9 l0 l1 l2 l3 l4 l5 l6 l7 l8 l9 m0 m1 m2 m3 m4 m5 m6 m7 m8))) (fun h0 => .auto 3 <| .ret (.e0 (.mk false a d f i j l m o p q s t u v w y z d0 d1 d2 d3 d4 d5 d6 d7 d8 d9 f0 f1 f2 f3 f4 f5 f6 f7 f8 f9 j0 j1 j2 j3 j4 j5 j6 j7 j8 j9 l0 l1 l2 l3 l4 l5 l6 l7 l8 l9 m0 m1 m2 m3 m4 m5 m6 m7 m8)))
noncomputable def J69_r18 (y : T69_r18s0) : Option N69_r18 := (D69_r18 y).ev some
theorem J69_r18_ok (y : T69_r18s0) : ∀ b, J69_r18 y = some b → regP Tryz.prog X CC 69 1 B69 18 y.st = some (E69_r18.out b) := by
  cases y; exact reg_ok (E := E69_r18) (fun x => by kernel_rfl)
inductive T69_c105s0 where
  | mk (a d : Bool) (f : LV) (i j l m o p q : Int) (s t u v w y z d0 : Nat) (d1 d2 : Int) (d3 d4 d5 : Nat) (d6 : Bool) (d7 d8 d9 f0 f1 f2 f3 f4 f5 f6 f7 f8 f9 j0 j1 : Int) (j2 : Nat) (j3 : Bool) (j4 : Nat) (j5 j6 j7 j8 j9 : Int) (l0 l1 l2 : Nat) (l3 l4 l5 l6 l7 l8 l9 m0 m1 m2 m3 m4 m5 m6 m7 m8 : LV)
abbrev T69_c105s0.st : T69_c105s0 → S
  | .mk a d f i j l m o p q s t u v w y z d0 d1 d2 d3 d4 d5 d6 d7 d8 d9 f0 f1 f2 f3 f4 f5 f6 f7 f8 f9 j0 j1 j2 j3 j4 j5 j6 j7 j8 j9 l0 l1 l2 l3 l4 l5 l6 l7 l8 l9 m0 m1 m2 m3 m4 m5 m6 m7 m8 => S.mk (pT 0 :: un 4 (vb a :: un 6 (pT 1 :: pT 2 :: un 91 (vb d :: un 24 [])))) [oF 2 [[lS 1 f, i64 i]], oF 50 [[i64 0, i64 0, i64 0, i64 0, i64 0, i64 0, i64 0, hS 3 0, hS 4 0, hS 5 0, hS 6 0, hS 7 0, hS 8 0, hS 9 0, hS 10 0, hS 11 0, vb false, hS 12 0, i64 0, i64 0, hS 13 0, hS 14 0, hS 15 0, vb false, i64 0, i64 0, u8 0, u8 0, u8 0, u8 0, u8 0, u8 0, u8 0, u8 0, i64 0, i64 0, i64 0, i64 0, i64 0, hS 16 0, vb false, hS 17 0, u8 0, u8 0, u8 0, u8 0, i64 0, hS 18 0, hS 19 0, hS 20 0]], oF 50 [[i64 j, i64 l, i64 m, i64 0, i64 o, i64 p, i64 q, hS 21 s, hS 22 t, hS 23 u, hS 24 v, hS 25 w, hS 26 y, hS 27 z, hS 28 0, hS 29 d0, vb false, hS 30 0, i64 d1, i64 d2, hS 31 d3, hS 32 d4, hS 33 d5, vb d6, i64 d7, i64 d8, u8 d9, u8 f0, u8 f1, u8 f2, u8 f3, u8 f4, u8 f5, u8 f6, i64 f7, i64 f8, i64 f9, i64 j0, i64 j1, hS 34 j2, vb j3, hS 35 j4, u8 j5, u8 j6, u8 j7, u8 j8, i64 j9, hS 36 l0, hS 37 l1, hS 38 l2]], oT 7 [], oT 7 [], oT 7 [], oT 7 [], oT 7 [], oT 7 [], oT 7 [], oT 7 [], oT 7 [], oT 2 [], oT 7 [], oT 7 [], oT 8 [], oT 10 [], oT 7 [], oT 1 [], oT 7 [], oT 7 [], oT 7 l3, oT 7 l4, oT 7 l5, oT 7 l6, oT 7 l7, oT 7 l8, oT 7 l9, oT 7 [], oT 7 m0, oT 2 [], oT 7 m1, oT 7 m2, oT 8 m3, oT 10 m4, oT 7 m5, oT 1 m6, oT 7 m7, oT 7 m8]
inductive T69_c105e0 where
  | mk (a : Bool) (d : LV) (f i j l m o p : Int) (q s t u v w y z d0 : Nat) (d1 d2 : Int) (d3 d4 d5 : Nat) (d6 : Bool) (d7 d8 d9 f0 f1 f2 f3 f4 f5 f6 f7 f8 f9 j0 j1 : Int) (j2 : Nat) (j3 : Bool) (j4 : Nat) (j5 j6 j7 j8 j9 : Int) (l0 l1 l2 : Nat) (l3 l4 l5 l6 l7 l8 l9 m0 m1 m2 m3 m4 m5 m6 m7 m8 m9 : LV)
inductive N69_c105 where
  | e0 (x : T69_c105e0)
abbrev N69_c105.out : N69_c105 → VX × S
  | .e0 (.mk a d f i j l m o p q s t u v w y z d0 d1 d2 d3 d4 d5 d6 d7 d8 d9 f0 f1 f2 f3 f4 f5 f6 f7 f8 f9 j0 j1 j2 j3 j4 j5 j6 j7 j8 j9 l0 l1 l2 l3 l4 l5 l6 l7 l8 l9 m0 m1 m2 m3 m4 m5 m6 m7 m8 m9) => (vN, S.mk (pT 0 :: un 4 (vb a :: un 6 (pT 1 :: pT 2 :: un 116 []))) [oF 2 [[lS 1 d, i64 f]], oF 50 [[i64 0, i64 0, i64 0, i64 0, i64 0, i64 0, i64 0, hS 3 0, hS 4 0, hS 5 0, hS 6 0, hS 7 0, hS 8 0, hS 9 0, hS 10 0, hS 11 0, vb false, hS 12 0, i64 0, i64 0, hS 13 0, hS 14 0, hS 15 0, vb false, i64 0, i64 0, u8 0, u8 0, u8 0, u8 0, u8 0, u8 0, u8 0, u8 0, i64 0, i64 0, i64 0, i64 0, i64 0, hS 16 0, vb false, hS 17 0, u8 0, u8 0, u8 0, u8 0, i64 0, hS 18 0, hS 19 0, hS 20 0]], oF 50 [[i64 i, i64 j, i64 l, i64 0, i64 m, i64 o, i64 p, hS 21 q, hS 22 s, hS 23 t, hS 24 u, hS 25 v, hS 26 w, hS 27 y, hS 28 z, hS 29 d0, vb false, hS 30 0, i64 d1, i64 d2, hS 31 d3, hS 32 d4, hS 33 d5, vb d6, i64 d7, i64 d8, u8 d9, u8 f0, u8 f1, u8 f2, u8 f3, u8 f4, u8 f5, u8 f6, i64 f7, i64 f8, i64 f9, i64 j0, i64 j1, hS 34 j2, vb j3, hS 35 j4, u8 j5, u8 j6, u8 j7, u8 j8, i64 j9, hS 36 l0, hS 37 l1, hS 38 l2]], oT 7 [], oT 7 [], oT 7 [], oT 7 [], oT 7 [], oT 7 [], oT 7 [], oT 7 [], oT 7 [], oT 2 [], oT 7 [], oT 7 [], oT 8 [], oT 10 [], oT 7 [], oT 1 [], oT 7 [], oT 7 [], oT 7 l3, oT 7 l4, oT 7 l5, oT 7 l6, oT 7 l7, oT 7 l8, oT 7 l9, oT 7 m0, oT 7 m1, oT 2 [], oT 7 m2, oT 7 m3, oT 8 m4, oT 10 m5, oT 7 m6, oT 1 m7, oT 7 m8, oT 7 m9])
abbrev E69_c105 := Ent.o1 N69_c105.out .e0 fun ⟨x⟩ => ⟨x, rfl⟩
noncomputable def D69_c105 : T69_c105s0 → PT N69_c105 | .mk a m8 d f i j l m o p q s t u v w y z d0 d1 d2 d3 d4 d5 d6 d7 d8 d9 f0 f1 f2 f3 f4 f5 f6 f7 f8 f9 j0 j1 j2 j3 j4 j5 j6 j7 j8 j9 l0 l1 l2 l3 l4 l5 l6 l7 l8 l9 m0 m1 m2 m3 m4 m5 m6 m7 => .testB m8 (fun h0 => .ask E46 (F46_ok 0 1 d f) fun ⟨m9, o0, o1, o2⟩ => .auto 1 <| .ret (.e0 (.mk a o0 o1 i j l m o p q s t u v w y m9 z d0 d1 d2 d3 d4 d5 d6 d7 d8 d9 f0 f1 f2 f3 f4 f5 f6 f7 f8 f9 j0 j1 j2 j3 j4 j5 j6 j7 j8 j9 l0 l1 l2 l3 l4 l5 l6 l7 l8 o2 l9 m0 m1 m2 m3 m4 m5 m6 m7))) (fun h0 => .ret (.e0 (.mk a d f i j l m o p q s t u v w y 0 z d0 d1 d2 d3 d4 d5 d6 d7 d8 d9 f0 f1 f2 f3 f4 f5 f6 f7 f8 f9 j0 j1 j2 j3 j4 j5 j6 j7 j8 j9 l0 l1 l2 l3 l4 l5 l6 l7 l8 ([]) l9 m0 m1 m2 m3 m4 m5 m6 m7)))
noncomputable def J69_c105 (y : T69_c105s0) : Option N69_c105 := (D69_c105 y).ev some
theorem J69_c105_ok (y : T69_c105s0) : CU 69 1 B69 105 E69_c105 (J69_c105 y) y.st := by
  cases y; exact cond_ok (L := notIn []) fun x => by kernel_rfl
inductive T69_c99s0 where
  | mk (a d : Bool) (f : LV) (i j l m o p q : Int) (s t u v w y z : Nat) (d0 d1 : Int) (d2 d3 d4 : Nat) (d5 : Bool) (d6 d7 d8 d9 f0 f1 f2 f3 f4 f5 f6 f7 f8 f9 j0 : Int) (j1 : Nat) (j2 : Bool) (j3 : Nat) (j4 j5 j6 j7 j8 : Int) (j9 l0 l1 : Nat) (l2 l3 l4 l5 l6 l7 l8 l9 m0 m1 m2 m3 m4 m5 m6 : LV)
abbrev T69_c99s0.st : T69_c99s0 → S
  | .mk a d f i j l m o p q s t u v w y z d0 d1 d2 d3 d4 d5 d6 d7 d8 d9 f0 f1 f2 f3 f4 f5 f6 f7 f8 f9 j0 j1 j2 j3 j4 j5 j6 j7 j8 j9 l0 l1 l2 l3 l4 l5 l6 l7 l8 l9 m0 m1 m2 m3 m4 m5 m6 => S.mk (pT 0 :: un 4 (vb a :: un 6 (pT 1 :: pT 2 :: un 85 (vb d :: un 30 [])))) [oF 2 [[lS 1 f, i64 i]], oF 50 [[i64 0, i64 0, i64 0, i64 0, i64 0, i64 0, i64 0, hS 3 0, hS 4 0, hS 5 0, hS 6 0, hS 7 0, hS 8 0, hS 9 0, hS 10 0, hS 11 0, vb false, hS 12 0, i64 0, i64 0, hS 13 0, hS 14 0, hS 15 0, vb false, i64 0, i64 0, u8 0, u8 0, u8 0, u8 0, u8 0, u8 0, u8 0, u8 0, i64 0, i64 0, i64 0, i64 0, i64 0, hS 16 0, vb false, hS 17 0, u8 0, u8 0, u8 0, u8 0, i64 0, hS 18 0, hS 19 0, hS 20 0]], oF 50 [[i64 j, i64 l, i64 m, i64 0, i64 o, i64 p, i64 q, hS 21 s, hS 22 t, hS 23 u, hS 24 v, hS 25 w, hS 26 y, hS 27 0, hS 28 0, hS 29 z, vb false, hS 30 0, i64 d0, i64 d1, hS 31 d2, hS 32 d3, hS 33 d4, vb d5, i64 d6, i64 d7, u8 d8, u8 d9, u8 f0, u8 f1, u8 f2, u8 f3, u8 f4, u8 f5, i64 f6, i64 f7, i64 f8, i64 f9, i64 j0, hS 34 j1, vb j2, hS 35 j3, u8 j4, u8 j5, u8 j6, u8 j7, i64 j8, hS 36 j9, hS 37 l0, hS 38 l1]], oT 7 [], oT 7 [], oT 7 [], oT 7 [], oT 7 [], oT 7 [], oT 7 [], oT 7 [], oT 7 [], oT 2 [], oT 7 [], oT 7 [], oT 8 [], oT 10 [], oT 7 [], oT 1 [], oT 7 [], oT 7 [], oT 7 l2, oT 7 l3, oT 7 l4, oT 7 l5, oT 7 l6, oT 7 l7, oT 7 [], oT 7 [], oT 7 l8, oT 2 [], oT 7 l9, oT 7 m0, oT 8 m1, oT 10 m2, oT 7 m3, oT 1 m4, oT 7 m5, oT 7 m6]
inductive T69_c99e0 where
  | mk (a : Bool) (d : LV) (f i j l m o p : Int) (q s t u v w y z : Nat) (d0 d1 : Int) (d2 d3 d4 : Nat) (d5 : Bool) (d6 d7 d8 d9 f0 f1 f2 f3 f4 f5 f6 f7 f8 f9 j0 : Int) (j1 : Nat) (j2 : Bool) (j3 : Nat) (j4 j5 j6 j7 j8 : Int) (j9 l0 l1 : Nat) (l2 l3 l4 l5 l6 l7 l8 l9 m0 m1 m2 m3 m4 m5 m6 m7 : LV)
inductive N69_c99 where
  | e0 (x : T69_c99e0)
abbrev N69_c99.out : N69_c99 → VX × S
  | .e0 (.mk a d f i j l m o p q s t u v w y z d0 d1 d2 d3 d4 d5 d6 d7 d8 d9 f0 f1 f2 f3 f4 f5 f6 f7 f8 f9 j0 j1 j2 j3 j4 j5 j6 j7 j8 j9 l0 l1 l2 l3 l4 l5 l6 l7 l8 l9 m0 m1 m2 m3 m4 m5 m6 m7) => (vN, S.mk (pT 0 :: un 4 (vb a :: un 6 (pT 1 :: pT 2 :: un 116 []))) [oF 2 [[lS 1 d, i64 f]], oF 50 [[i64 0, i64 0, i64 0, i64 0, i64 0, i64 0, i64 0, hS 3 0, hS 4 0, hS 5 0, hS 6 0, hS 7 0, hS 8 0, hS 9 0, hS 10 0, hS 11 0, vb false, hS 12 0, i64 0, i64 0, hS 13 0, hS 14 0, hS 15 0, vb false, i64 0, i64 0, u8 0, u8 0, u8 0, u8 0, u8 0, u8 0, u8 0, u8 0, i64 0, i64 0, i64 0, i64 0, i64 0, hS 16 0, vb false, hS 17 0, u8 0, u8 0, u8 0, u8 0, i64 0, hS 18 0, hS 19 0, hS 20 0]], oF 50 [[i64 i, i64 j, i64 l, i64 0, i64 m, i64 o, i64 p, hS 21 q, hS 22 s, hS 23 t, hS 24 u, hS 25 v, hS 26 w, hS 27 y, hS 28 0, hS 29 z, vb false, hS 30 0, i64 d0, i64 d1, hS 31 d2, hS 32 d3, hS 33 d4, vb d5, i64 d6, i64 d7, u8 d8, u8 d9, u8 f0, u8 f1, u8 f2, u8 f3, u8 f4, u8 f5, i64 f6, i64 f7, i64 f8, i64 f9, i64 j0, hS 34 j1, vb j2, hS 35 j3, u8 j4, u8 j5, u8 j6, u8 j7, i64 j8, hS 36 j9, hS 37 l0, hS 38 l1]], oT 7 [], oT 7 [], oT 7 [], oT 7 [], oT 7 [], oT 7 [], oT 7 [], oT 7 [], oT 7 [], oT 2 [], oT 7 [], oT 7 [], oT 8 [], oT 10 [], oT 7 [], oT 1 [], oT 7 [], oT 7 [], oT 7 l2, oT 7 l3, oT 7 l4, oT 7 l5, oT 7 l6, oT 7 l7, oT 7 l8, oT 7 [], oT 7 l9, oT 2 [], oT 7 m0, oT 7 m1, oT 8 m2, oT 10 m3, oT 7 m4, oT 1 m5, oT 7 m6, oT 7 m7])
abbrev E69_c99 := Ent.o1 N69_c99.out .e0 fun ⟨x⟩ => ⟨x, rfl⟩
noncomputable def D69_c99 : T69_c99s0 → PT N69_c99 | .mk a m6 d f i j l m o p q s t u v w y z d0 d1 d2 d3 d4 d5 d6 d7 d8 d9 f0 f1 f2 f3 f4 f5 f6 f7 f8 f9 j0 j1 j2 j3 j4 j5 j6 j7 j8 j9 l0 l1 l2 l3 l4 l5 l6 l7 l8 l9 m0 m1 m2 m3 m4 m5 => .testB m6 (fun h0 => .ask E46 (F46_ok (-200) 400 d f) fun ⟨m7, m8, m9, o0⟩ => .auto 1 <| .ret (.e0 (.mk a m8 m9 i j l m o p q s t u v w m7 y z d0 d1 d2 d3 d4 d5 d6 d7 d8 d9 f0 f1 f2 f3 f4 f5 f6 f7 f8 f9 j0 j1 j2 j3 j4 j5 j6 j7 j8 j9 l0 l1 l2 l3 l4 l5 l6 o0 l7 l8 l9 m0 m1 m2 m3 m4 m5))) (fun h0 => .ret (.e0 (.mk a d f i j l m o p q s t u v w 0 y z d0 d1 d2 d3 d4 d5 d6 d7 d8 d9 f0 f1 f2 f3 f4 f5 f6 f7 f8 f9 j0 j1 j2 j3 j4 j5 j6 j7 j8 j9 l0 l1 l2 l3 l4 l5 l6 ([]) l7 l8 l9 m0 m1 m2 m3 m4 m5)))
noncomputable def J69_c99 (y : T69_c99s0) : Option N69_c99 := (D69_c99 y).ev some
theorem J69_c99_ok (y : T69_c99s0) : CU 69 1 B69 99 E69_c99 (J69_c99 y) y.st := by
  cases y; exact cond_ok (L := notIn []) fun x => by kernel_rfl
inductive T69_c84s0 where
  | mk (a d : Bool) (f : LV) (i j l m o p q : Int) (s t u : Nat) (v w : Int) (y z d0 : Nat) (d1 : Bool) (d2 d3 d4 d5 d6 d7 d8 d9 f0 f1 f2 f3 f4 f5 f6 : Int) (f7 : Nat) (f8 : Bool) (f9 : Nat) (j0 j1 j2 j3 j4 : Int) (j5 j6 j7 : Nat) (j8 j9 l0 l1 l2 l3 l4 l5 l6 l7 l8 : LV)
abbrev T69_c84s0.st : T69_c84s0 → S
  | .mk a d f i j l m o p q s t u v w y z d0 d1 d2 d3 d4 d5 d6 d7 d8 d9 f0 f1 f2 f3 f4 f5 f6 f7 f8 f9 j0 j1 j2 j3 j4 j5 j6 j7 j8 j9 l0 l1 l2 l3 l4 l5 l6 l7 l8 => S.mk (pT 0 :: un 4 (vb a :: un 6 (pT 1 :: pT 2 :: un 70 (vb d :: un 45 [])))) [oF 2 [[lS 1 f, i64 i]], oF 50 [[i64 0, i64 0, i64 0, i64 0, i64 0, i64 0, i64 0, hS 3 0, hS 4 0, hS 5 0, hS 6 0, hS 7 0, hS 8 0, hS 9 0, hS 10 0, hS 11 0, vb false, hS 12 0, i64 0, i64 0, hS 13 0, hS 14 0, hS 15 0, vb false, i64 0, i64 0, u8 0, u8 0, u8 0, u8 0, u8 0, u8 0, u8 0, u8 0, i64 0, i64 0, i64 0, i64 0, i64 0, hS 16 0, vb false, hS 17 0, u8 0, u8 0, u8 0, u8 0, i64 0, hS 18 0, hS 19 0, hS 20 0]], oF 50 [[i64 j, i64 l, i64 m, i64 0, i64 o, i64 p, i64 q, hS 21 s, hS 22 t, hS 23 0, hS 24 0, hS 25 0, hS 26 0, hS 27 0, hS 28 0, hS 29 u, vb false, hS 30 0, i64 v, i64 w, hS 31 y, hS 32 z, hS 33 d0, vb d1, i64 d2, i64 d3, u8 d4, u8 d5, u8 d6, u8 d7, u8 d8, u8 d9, u8 f0, u8 f1, i64 f2, i64 f3, i64 f4, i64 f5, i64 f6, hS 34 f7, vb f8, hS 35 f9, u8 j0, u8 j1, u8 j2, u8 j3, i64 j4, hS 36 j5, hS 37 j6, hS 38 j7]], oT 7 [], oT 7 [], oT 7 [], oT 7 [], oT 7 [], oT 7 [], oT 7 [], oT 7 [], oT 7 [], oT 2 [], oT 7 [], oT 7 [], oT 8 [], oT 10 [], oT 7 [], oT 1 [], oT 7 [], oT 7 [], oT 7 j8, oT 7 j9, oT 7 [], oT 7 [], oT 7 [], oT 7 [], oT 7 [], oT 7 [], oT 7 l0, oT 2 [], oT 7 l1, oT 7 l2, oT 8 l3, oT 10 l4, oT 7 l5, oT 1 l6, oT 7 l7, oT 7 l8]
inductive T69_c84e0 where
  | mk (a : Bool) (d : LV) (f i j l m o p : Int) (q s t u v w y : Nat) (z d0 : Int) (d1 d2 d3 : Nat) (d4 : Bool) (d5 d6 d7 d8 d9 f0 f1 f2 f3 f4 f5 f6 f7 f8 f9 : Int) (j0 : Nat) (j1 : Bool) (j2 : Nat) (j3 j4 j5 j6 j7 : Int) (j8 j9 l0 : Nat) (l1 l2 l3 l4 l5 l6 l7 l8 l9 m0 m1 m2 m3 m4 m5 : LV)
inductive N69_c84 where
  | e0 (x : T69_c84e0)
abbrev N69_c84.out : N69_c84 → VX × S
  | .e0 (.mk a d f i j l m o p q s t u v w y z d0 d1 d2 d3 d4 d5 d6 d7 d8 d9 f0 f1 f2 f3 f4 f5 f6 f7 f8 f9 j0 j1 j2 j3 j4 j5 j6 j7 j8 j9 l0 l1 l2 l3 l4 l5 l6 l7 l8 l9 m0 m1 m2 m3 m4 m5) => (vN, S.mk (pT 0 :: un 4 (vb a :: un 6 (pT 1 :: pT 2 :: un 116 []))) [oF 2 [[lS 1 d, i64 f]], oF 50 [[i64 0, i64 0, i64 0, i64 0, i64 0, i64 0, i64 0, hS 3 0, hS 4 0, hS 5 0, hS 6 0, hS 7 0, hS 8 0, hS 9 0, hS 10 0, hS 11 0, vb false, hS 12 0, i64 0, i64 0, hS 13 0, hS 14 0, hS 15 0, vb false, i64 0, i64 0, u8 0, u8 0, u8 0, u8 0, u8 0, u8 0, u8 0, u8 0, i64 0, i64 0, i64 0, i64 0, i64 0, hS 16 0, vb false, hS 17 0, u8 0, u8 0, u8 0, u8 0, i64 0, hS 18 0, hS 19 0, hS 20 0]], oF 50 [[i64 i, i64 j, i64 l, i64 0, i64 m, i64 o, i64 p, hS 21 q, hS 22 s, hS 23 t, hS 24 u, hS 25 v, hS 26 w, hS 27 0, hS 28 0, hS 29 y, vb false, hS 30 0, i64 z, i64 d0, hS 31 d1, hS 32 d2, hS 33 d3, vb d4, i64 d5, i64 d6, u8 d7, u8 d8, u8 d9, u8 f0, u8 f1, u8 f2, u8 f3, u8 f4, i64 f5, i64 f6, i64 f7, i64 f8, i64 f9, hS 34 j0, vb j1, hS 35 j2, u8 j3, u8 j4, u8 j5, u8 j6, i64 j7, hS 36 j8, hS 37 j9, hS 38 l0]], oT 7 [], oT 7 [], oT 7 [], oT 7 [], oT 7 [], oT 7 [], oT 7 [], oT 7 [], oT 7 [], oT 2 [], oT 7 [], oT 7 [], oT 8 [], oT 10 [], oT 7 [], oT 1 [], oT 7 [], oT 7 [], oT 7 l1, oT 7 l2, oT 7 l3, oT 7 l4, oT 7 l5, oT 7 l6, oT 7 [], oT 7 [], oT 7 l7, oT 2 [], oT 7 l8, oT 7 l9, oT 8 m0, oT 10 m1, oT 7 m2, oT 1 m3, oT 7 m4, oT 7 m5])
abbrev E69_c84 := Ent.o1 N69_c84.out .e0 fun ⟨x⟩ => ⟨x, rfl⟩
noncomputable def D69_c84 : T69_c84s0 → PT N69_c84 | .mk a l8 d f i j l m o p q s t u v w y z d0 d1 d2 d3 d4 d5 d6 d7 d8 d9 f0 f1 f2 f3 f4 f5 f6 f7 f8 f9 j0 j1 j2 j3 j4 j5 j6 j7 j8 j9 l0 l1 l2 l3 l4 l5 l6 l7 => .testB l8 (fun h0 => .ask E46 (F46_ok (-3) 3 d f) fun ⟨l9, m0, m1, m2⟩ => .ask E46 (F46_ok (-3) 3 m0 m1) fun ⟨m3, m4, m5, m6⟩ => .ask E46 (F46_ok 0 2 m4 m5) fun ⟨m7, m8, m9, o0⟩ => .ask E46 (F46_ok (-1) 2 m8 m9) fun ⟨o1, o2, o3, o4⟩ => .auto 4 <| .ret (.e0 (.mk a o2 o3 i j l m o p q s l9 m3 m7 o1 t u v w y z d0 d1 d2 d3 d4 d5 d6 d7 d8 d9 f0 f1 f2 f3 f4 f5 f6 f7 f8 f9 j0 j1 j2 j3 j4 j5 j6 j7 j8 m2 m6 o0 o4 j9 l0 l1 l2 l3 l4 l5 l6 l7))) (fun h0 => .ret (.e0 (.mk a d f i j l m o p q s 0 0 0 0 t u v w y z d0 d1 d2 d3 d4 d5 d6 d7 d8 d9 f0 f1 f2 f3 f4 f5 f6 f7 f8 f9 j0 j1 j2 j3 j4 j5 j6 j7 j8 ([]) ([]) ([]) ([]) j9 l0 l1 l2 l3 l4 l5 l6 l7)))
noncomputable def J69_c84 (y : T69_c84s0) : Option N69_c84 := (D69_c84 y).ev some
theorem J69_c84_ok (y : T69_c84s0) : CU 69 1 B69 84 E69_c84 (J69_c84 y) y.st := by
  cases y; exact cond_ok (L := notIn []) fun x => by kernel_rfl
inductive T69_c75s0 where
  | mk (a d : Bool) (f : LV) (i j l m o p q : Int) (s : Nat) (t u : Int) (v w y : Nat) (z : Bool) (d0 d1 d2 d3 d4 d5 d6 d7 d8 d9 f0 f1 f2 f3 f4 : Int) (f5 : Nat) (f6 : Bool) (f7 : Nat) (f8 f9 j0 j1 j2 : Int) (j3 j4 j5 : Nat) (j6 j7 j8 j9 l0 l1 l2 l3 l4 : LV)
abbrev T69_c75s0.st : T69_c75s0 → S
  | .mk a d f i j l m o p q s t u v w y z d0 d1 d2 d3 d4 d5 d6 d7 d8 d9 f0 f1 f2 f3 f4 f5 f6 f7 f8 f9 j0 j1 j2 j3 j4 j5 j6 j7 j8 j9 l0 l1 l2 l3 l4 => S.mk (pT 0 :: un 4 (vb a :: un 6 (pT 1 :: pT 2 :: un 61 (vb d :: un 54 [])))) [oF 2 [[lS 1 f, i64 i]], oF 50 [[i64 0, i64 0, i64 0, i64 0, i64 0, i64 0, i64 0, hS 3 0, hS 4 0, hS 5 0, hS 6 0, hS 7 0, hS 8 0, hS 9 0, hS 10 0, hS 11 0, vb false, hS 12 0, i64 0, i64 0, hS 13 0, hS 14 0, hS 15 0, vb false, i64 0, i64 0, u8 0, u8 0, u8 0, u8 0, u8 0, u8 0, u8 0, u8 0, i64 0, i64 0, i64 0, i64 0, i64 0, hS 16 0, vb false, hS 17 0, u8 0, u8 0, u8 0, u8 0, i64 0, hS 18 0, hS 19 0, hS 20 0]], oF 50 [[i64 j, i64 l, i64 m, i64 0, i64 o, i64 p, i64 q, hS 21 0, hS 22 0, hS 23 0, hS 24 0, hS 25 0, hS 26 0, hS 27 0, hS 28 0, hS 29 s, vb false, hS 30 0, i64 t, i64 u, hS 31 v, hS 32 w, hS 33 y, vb z, i64 d0, i64 d1, u8 d2, u8 d3, u8 d4, u8 d5, u8 d6, u8 d7, u8 d8, u8 d9, i64 f0, i64 f1, i64 f2, i64 f3, i64 f4, hS 34 f5, vb f6, hS 35 f7, u8 f8, u8 f9, u8 j0, u8 j1, i64 j2, hS 36 j3, hS 37 j4, hS 38 j5]], oT 7 [], oT 7 [], oT 7 [], oT 7 [], oT 7 [], oT 7 [], oT 7 [], oT 7 [], oT 7 [], oT 2 [], oT 7 [], oT 7 [], oT 8 [], oT 10 [], oT 7 [], oT 1 [], oT 7 [], oT 7 [], oT 7 [], oT 7 [], oT 7 [], oT 7 [], oT 7 [], oT 7 [], oT 7 [], oT 7 [], oT 7 j6, oT 2 [], oT 7 j7, oT 7 j8, oT 8 j9, oT 10 l0, oT 7 l1, oT 1 l2, oT 7 l3, oT 7 l4]
inductive T69_c75e0 where
  | mk (a : Bool) (d : LV) (f i j l m o p : Int) (q s t : Nat) (u v : Int) (w y z : Nat) (d0 : Bool) (d1 d2 d3 d4 d5 d6 d7 d8 d9 f0 f1 f2 f3 f4 f5 : Int) (f6 : Nat) (f7 : Bool) (f8 : Nat) (f9 j0 j1 j2 j3 : Int) (j4 j5 j6 : Nat) (j7 j8 j9 l0 l1 l2 l3 l4 l5 l6 l7 : LV)
inductive N69_c75 where
  | e0 (x : T69_c75e0)
abbrev N69_c75.out : N69_c75 → VX × S
  | .e0 (.mk a d f i j l m o p q s t u v w y z d0 d1 d2 d3 d4 d5 d6 d7 d8 d9 f0 f1 f2 f3 f4 f5 f6 f7 f8 f9 j0 j1 j2 j3 j4 j5 j6 j7 j8 j9 l0 l1 l2 l3 l4 l5 l6 l7) => (vN, S.mk (pT 0 :: un 4 (vb a :: un 6 (pT 1 :: pT 2 :: un 116 []))) [oF 2 [[lS 1 d, i64 f]], oF 50 [[i64 0, i64 0, i64 0, i64 0, i64 0, i64 0, i64 0, hS 3 0, hS 4 0, hS 5 0, hS 6 0, hS 7 0, hS 8 0, hS 9 0, hS 10 0, hS 11 0, vb false, hS 12 0, i64 0, i64 0, hS 13 0, hS 14 0, hS 15 0, vb false, i64 0, i64 0, u8 0, u8 0, u8 0, u8 0, u8 0, u8 0, u8 0, u8 0, i64 0, i64 0, i64 0, i64 0, i64 0, hS 16 0, vb false, hS 17 0, u8 0, u8 0, u8 0, u8 0, i64 0, hS 18 0, hS 19 0, hS 20 0]], oF 50 [[i64 i, i64 j, i64 l, i64 0, i64 m, i64 o, i64 p, hS 21 q, hS 22 s, hS 23 0, hS 24 0, hS 25 0, hS 26 0, hS 27 0, hS 28 0, hS 29 t, vb false, hS 30 0, i64 u, i64 v, hS 31 w, hS 32 y, hS 33 z, vb d0, i64 d1, i64 d2, u8 d3, u8 d4, u8 d5, u8 d6, u8 d7, u8 d8, u8 d9, u8 f0, i64 f1, i64 f2, i64 f3, i64 f4, i64 f5, hS 34 f6, vb f7, hS 35 f8, u8 f9, u8 j0, u8 j1, u8 j2, i64 j3, hS 36 j4, hS 37 j5, hS 38 j6]], oT 7 [], oT 7 [], oT 7 [], oT 7 [], oT 7 [], oT 7 [], oT 7 [], oT 7 [], oT 7 [], oT 2 [], oT 7 [], oT 7 [], oT 8 [], oT 10 [], oT 7 [], oT 1 [], oT 7 [], oT 7 [], oT 7 j7, oT 7 j8, oT 7 [], oT 7 [], oT 7 [], oT 7 [], oT 7 [], oT 7 [], oT 7 j9, oT 2 [], oT 7 l0, oT 7 l1, oT 8 l2, oT 10 l3, oT 7 l4, oT 1 l5, oT 7 l6, oT 7 l7])
abbrev E69_c75 := Ent.o1 N69_c75.out .e0 fun ⟨x⟩ => ⟨x, rfl⟩
noncomputable def D69_c75 : T69_c75s0 → PT N69_c75 | .mk a l4 d f i j l m o p q s t u v w y z d0 d1 d2 d3 d4 d5 d6 d7 d8 d9 f0 f1 f2 f3 f4 f5 f6 f7 f8 f9 j0 j1 j2 j3 j4 j5 j6 j7 j8 j9 l0 l1 l2 l3 => .testB l4 (fun h0 => .ask E46 (F46_ok 0 14 d f) fun ⟨l5, l6, l7, l8⟩ => .ask E46 (F46_ok 0 14 l6 l7) fun ⟨l9, m0, m1, m2⟩ => .auto 2 <| .ret (.e0 (.mk a m0 m1 i j l m o p l5 l9 q s t u v w y z d0 d1 d2 d3 d4 d5 d6 d7 d8 d9 f0 f1 f2 f3 f4 f5 f6 f7 f8 f9 j0 j1 j2 j3 j4 l8 m2 j5 j6 j7 j8 j9 l0 l1 l2 l3))) (fun h0 => .ret (.e0 (.mk a d f i j l m o p 0 0 q s t u v w y z d0 d1 d2 d3 d4 d5 d6 d7 d8 d9 f0 f1 f2 f3 f4 f5 f6 f7 f8 f9 j0 j1 j2 j3 j4 ([]) ([]) j5 j6 j7 j8 j9 l0 l1 l2 l3)))
noncomputable def J69_c75 (y : T69_c75s0) : Option N69_c75 := (D69_c75 y).ev some
theorem J69_c75_ok (y : T69_c75s0) : CU 69 1 B69 75 E69_c75 (J69_c75 y) y.st := by
  cases y; exact cond_ok (L := notIn []) fun x => by kernel_rfl
inductive T69_c61s0 where
  | mk (a d : Bool) (f : LV) (i j l m o p : Int)
abbrev T69_c61s0.st : T69_c61s0 → S
  | .mk a d f i j l m o p => S.mk (pT 0 :: un 4 (vb a :: un 6 (pT 1 :: pT 2 :: un 47 (vb d :: un 68 [])))) [oF 2 [[lS 1 f, i64 i]], oF 50 [[i64 0, i64 0, i64 0, i64 0, i64 0, i64 0, i64 0, hS 3 0, hS 4 0, hS 5 0, hS 6 0, hS 7 0, hS 8 0, hS 9 0, hS 10 0, hS 11 0, vb false, hS 12 0, i64 0, i64 0, hS 13 0, hS 14 0, hS 15 0, vb false, i64 0, i64 0, u8 0, u8 0, u8 0, u8 0, u8 0, u8 0, u8 0, u8 0, i64 0, i64 0, i64 0, i64 0, i64 0, hS 16 0, vb false, hS 17 0, u8 0, u8 0, u8 0, u8 0, i64 0, hS 18 0, hS 19 0, hS 20 0]], oF 50 [[i64 1, i64 j, i64 l, i64 0, i64 m, i64 o, i64 p, hS 21 0, hS 22 0, hS 23 0, hS 24 0, hS 25 0, hS 26 0, hS 27 0, hS 28 0, hS 29 0, vb false, hS 30 0, i64 0, i64 0, hS 31 0, hS 32 0, hS 33 0, vb false, i64 0, i64 0, u8 0, u8 0, u8 0, u8 0, u8 0, u8 0, u8 0, u8 0, i64 0, i64 0, i64 0, i64 0, i64 0, hS 34 0, vb false, hS 35 0, u8 0, u8 0, u8 0, u8 0, i64 0, hS 36 0, hS 37 0, hS 38 0]], oT 7 [], oT 7 [], oT 7 [], oT 7 [], oT 7 [], oT 7 [], oT 7 [], oT 7 [], oT 7 [], oT 2 [], oT 7 [], oT 7 [], oT 8 [], oT 10 [], oT 7 [], oT 1 [], oT 7 [], oT 7 [], oT 7 [], oT 7 [], oT 7 [], oT 7 [], oT 7 [], oT 7 [], oT 7 [], oT 7 [], oT 7 [], oT 2 [], oT 7 [], oT 7 [], oT 8 [], oT 10 [], oT 7 [], oT 1 [], oT 7 [], oT 7 []]
inductive T69_c61e0 where
  | mk (a : Bool) (d : LV) (f i j l m o : Int) (p : Nat) (q : LV)
inductive N69_c61 where
  | e0 (x : T69_c61e0)
abbrev N69_c61.out : N69_c61 → VX × S
  | .e0 (.mk a d f i j l m o p q) => (vN, S.mk (pT 0 :: un 4 (vb a :: un 6 (pT 1 :: pT 2 :: un 116 []))) [oF 2 [[lS 1 d, i64 f]], oF 50 [[i64 0, i64 0, i64 0, i64 0, i64 0, i64 0, i64 0, hS 3 0, hS 4 0, hS 5 0, hS 6 0, hS 7 0, hS 8 0, hS 9 0, hS 10 0, hS 11 0, vb false, hS 12 0, i64 0, i64 0, hS 13 0, hS 14 0, hS 15 0, vb false, i64 0, i64 0, u8 0, u8 0, u8 0, u8 0, u8 0, u8 0, u8 0, u8 0, i64 0, i64 0, i64 0, i64 0, i64 0, hS 16 0, vb false, hS 17 0, u8 0, u8 0, u8 0, u8 0, i64 0, hS 18 0, hS 19 0, hS 20 0]], oF 50 [[i64 1, i64 i, i64 j, i64 0, i64 l, i64 m, i64 o, hS 21 0, hS 22 0, hS 23 0, hS 24 0, hS 25 0, hS 26 0, hS 27 0, hS 28 0, hS 29 p, vb false, hS 30 0, i64 0, i64 0, hS 31 0, hS 32 0, hS 33 0, vb false, i64 0, i64 0, u8 0, u8 0, u8 0, u8 0, u8 0, u8 0, u8 0, u8 0, i64 0, i64 0, i64 0, i64 0, i64 0, hS 34 0, vb false, hS 35 0, u8 0, u8 0, u8 0, u8 0, i64 0, hS 36 0, hS 37 0, hS 38 0]], oT 7 [], oT 7 [], oT 7 [], oT 7 [], oT 7 [], oT 7 [], oT 7 [], oT 7 [], oT 7 [], oT 2 [], oT 7 [], oT 7 [], oT 8 [], oT 10 [], oT 7 [], oT 1 [], oT 7 [], oT 7 [], oT 7 [], oT 7 [], oT 7 [], oT 7 [], oT 7 [], oT 7 [], oT 7 [], oT 7 [], oT 7 q, oT 2 [], oT 7 [], oT 7 [], oT 8 [], oT 10 [], oT 7 [], oT 1 [], oT 7 [], oT 7 []])
abbrev E69_c61 := Ent.o1 N69_c61.out .e0 fun ⟨x⟩ => ⟨x, rfl⟩
noncomputable def D69_c61 : T69_c61s0 → PT N69_c61 | .mk a p d f i j l m o => .testB p (fun h0 => .ask E43 (F43_ok 6 d f) fun ⟨q, s, t⟩ => .ask E43 (F43_ok 20 s t) fun ⟨u, v, w⟩ => .auto 1 <| .ret (.e0 (.mk a v w i j l m o 2 ([[i64 0, i64 q, i64 1, i64 0, i64 0, i64 0, i64 0], [i64 10, i64 u, i64 0, i64 0, i64 0, i64 0, i64 0]])))) (fun h0 => .ret (.e0 (.mk a d f i j l m o 0 ([]))))
noncomputable def J69_c61 (y : T69_c61s0) : Option N69_c61 := (D69_c61 y).ev some
theorem J69_c61_ok (y : T69_c61s0) : CU 69 1 B69 61 E69_c61 (J69_c61 y) y.st := by
  cases y; exact cond_ok (L := notIn []) fun x => by kernel_rfl
inductive T69_c47s0 where
  | mk (a d : Int) (f i : Bool) (j : LV) (l m o p q : Int)
abbrev T69_c47s0.st : T69_c47s0 → S
  | .mk a d f i j l m o p q => S.mk (pT 0 :: U :: U :: i64 a :: i64 d :: vb f :: un 6 (pT 1 :: pT 2 :: un 33 (vb i :: un 82 []))) [oF 2 [[lS 1 j, i64 l]], oF 50 [[i64 0, i64 0, i64 0, i64 0, i64 0, i64 0, i64 0, hS 3 0, hS 4 0, hS 5 0, hS 6 0, hS 7 0, hS 8 0, hS 9 0, hS 10 0, hS 11 0, vb false, hS 12 0, i64 0, i64 0, hS 13 0, hS 14 0, hS 15 0, vb false, i64 0, i64 0, u8 0, u8 0, u8 0, u8 0, u8 0, u8 0, u8 0, u8 0, i64 0, i64 0, i64 0, i64 0, i64 0, hS 16 0, vb false, hS 17 0, u8 0, u8 0, u8 0, u8 0, i64 0, hS 18 0, hS 19 0, hS 20 0]], oF 50 [[i64 0, i64 m, i64 0, i64 0, i64 o, i64 p, i64 q, hS 21 0, hS 22 0, hS 23 0, hS 24 0, hS 25 0, hS 26 0, hS 27 0, hS 28 0, hS 29 0, vb false, hS 30 0, i64 0, i64 0, hS 31 0, hS 32 0, hS 33 0, vb false, i64 0, i64 0, u8 0, u8 0, u8 0, u8 0, u8 0, u8 0, u8 0, u8 0, i64 0, i64 0, i64 0, i64 0, i64 0, hS 34 0, vb false, hS 35 0, u8 0, u8 0, u8 0, u8 0, i64 0, hS 36 0, hS 37 0, hS 38 0]], oT 7 [], oT 7 [], oT 7 [], oT 7 [], oT 7 [], oT 7 [], oT 7 [], oT 7 [], oT 7 [], oT 2 [], oT 7 [], oT 7 [], oT 8 [], oT 10 [], oT 7 [], oT 1 [], oT 7 [], oT 7 [], oT 7 [], oT 7 [], oT 7 [], oT 7 [], oT 7 [], oT 7 [], oT 7 [], oT 7 [], oT 7 [], oT 2 [], oT 7 [], oT 7 [], oT 8 [], oT 10 [], oT 7 [], oT 1 [], oT 7 [], oT 7 []]
inductive T69_c47e0 where
  | mk (a : Bool) (d : LV) (f i j l m o p : Int) (q : Nat) (s t : Int) (u v w : Nat) (y : Bool) (z d0 d1 d2 d3 d4 d5 d6 d7 d8 d9 f0 f1 f2 f3 : Int) (f4 : Nat) (f5 : Bool) (f6 : Nat) (f7 f8 f9 j0 j1 : Int) (j2 j3 j4 : Nat) (j5 j6 j7 j8 j9 l0 l1 l2 l3 : LV)
inductive N69_c47 where
  | e0 (x : T69_c47e0)
abbrev N69_c47.out : N69_c47 → VX × S
  | .e0 (.mk a d f i j l m o p q s t u v w y z d0 d1 d2 d3 d4 d5 d6 d7 d8 d9 f0 f1 f2 f3 f4 f5 f6 f7 f8 f9 j0 j1 j2 j3 j4 j5 j6 j7 j8 j9 l0 l1 l2 l3) => (vN, S.mk (pT 0 :: un 4 (vb a :: un 6 (pT 1 :: pT 2 :: un 116 []))) [oF 2 [[lS 1 d, i64 f]], oF 50 [[i64 0, i64 0, i64 0, i64 0, i64 0, i64 0, i64 0, hS 3 0, hS 4 0, hS 5 0, hS 6 0, hS 7 0, hS 8 0, hS 9 0, hS 10 0, hS 11 0, vb false, hS 12 0, i64 0, i64 0, hS 13 0, hS 14 0, hS 15 0, vb false, i64 0, i64 0, u8 0, u8 0, u8 0, u8 0, u8 0, u8 0, u8 0, u8 0, i64 0, i64 0, i64 0, i64 0, i64 0, hS 16 0, vb false, hS 17 0, u8 0, u8 0, u8 0, u8 0, i64 0, hS 18 0, hS 19 0, hS 20 0]], oF 50 [[i64 i, i64 j, i64 l, i64 0, i64 m, i64 o, i64 p, hS 21 0, hS 22 0, hS 23 0, hS 24 0, hS 25 0, hS 26 0, hS 27 0, hS 28 0, hS 29 q, vb false, hS 30 0, i64 s, i64 t, hS 31 u, hS 32 v, hS 33 w, vb y, i64 z, i64 d0, u8 d1, u8 d2, u8 d3, u8 d4, u8 d5, u8 d6, u8 d7, u8 d8, i64 d9, i64 f0, i64 f1, i64 f2, i64 f3, hS 34 f4, vb f5, hS 35 f6, u8 f7, u8 f8, u8 f9, u8 j0, i64 j1, hS 36 j2, hS 37 j3, hS 38 j4]], oT 7 [], oT 7 [], oT 7 [], oT 7 [], oT 7 [], oT 7 [], oT 7 [], oT 7 [], oT 7 [], oT 2 [], oT 7 [], oT 7 [], oT 8 [], oT 10 [], oT 7 [], oT 1 [], oT 7 [], oT 7 [], oT 7 [], oT 7 [], oT 7 [], oT 7 [], oT 7 [], oT 7 [], oT 7 [], oT 7 [], oT 7 j5, oT 2 [], oT 7 j6, oT 7 j7, oT 8 j8, oT 10 j9, oT 7 l0, oT 1 l1, oT 7 l2, oT 7 l3])
abbrev E69_c47 := Ent.o1 N69_c47.out .e0 fun ⟨x⟩ => ⟨x, rfl⟩
noncomputable def D69_c47 : T69_c47s0 → PT N69_c47 | .mk a p d q f i j l m o => .testB q (fun h0 => .ask E43 (F43_ok (w64 (w64 (p - a) - 1)) f i) fun ⟨s, t, u⟩ => .auto 2 <| .ask E43 (F43_ok 3 t u) fun ⟨v, w, y⟩ => .cut E69_c61 (J69_c61_ok (.mk d (v == 0) w y j (w64 (w64 (a + 1) + s)) l m o)) fun | .e0 (.mk z d0 d1 d2 d3 d4 d5 d6 d7 d8) => .ret (.e0 (.mk z d0 d1 1 d2 d3 d4 d5 d6 d7 0 0 0 0 0 false 0 0 0 0 0 0 0 0 0 0 0 0 0 0 0 0 false 0 0 0 0 0 0 0 0 0 d8 ([]) ([]) ([]) ([]) ([]) ([]) ([]) ([])))) (fun h0 => .ask E13 (F13_ok f i) fun ⟨d9, f0, f1, f2, f3, f4, f5, f6, f7, f8, f9, j0, j1, j2, j3, j4, j5, j6, j7, j8, j9, l0, l1, l2, l3, l4, l5, l6, l7, l8, l9, m0, m1, m2, m3, m4, m5, m6, m7, m8, m9, o0⟩ => .auto 1 <| .ret (.e0 (.mk d m1 m2 0 j 0 l m o 0 d9 f0 f1 f2 f3 f4 f5 f6 f7 f8 f9 j0 j1 j2 j3 j4 j5 j6 j7 j8 j9 l0 l1 l2 l3 l4 l5 l6 l7 l8 l9 m0 ([]) m3 m4 m5 m6 m7 m8 m9 o0)))
noncomputable def J69_c47 (y : T69_c47s0) : Option N69_c47 := (D69_c47 y).ev some
theorem J69_c47_ok (y : T69_c47s0) : CU 69 1 B69 47 E69_c47 (J69_c47 y) y.st := by
  cases y; exact cond_ok (L := notIn []) fun x => by kernel_rfl
inductive T69_r5s0 where
  | mk (a d : Int) (f : Bool) (i : LV) (j l m o p : Int)
abbrev T69_r5s0.st : T69_r5s0 → S
  | .mk a d f i j l m o p => S.mk (pT 0 :: U :: U :: i64 a :: i64 d :: vb f :: un 6 (pT 1 :: pT 2 :: un 116 [])) [oF 2 [[lS 1 i, i64 j]], oF 50 [[i64 0, i64 0, i64 0, i64 0, i64 0, i64 0, i64 0, hS 3 0, hS 4 0, hS 5 0, hS 6 0, hS 7 0, hS 8 0, hS 9 0, hS 10 0, hS 11 0, vb false, hS 12 0, i64 0, i64 0, hS 13 0, hS 14 0, hS 15 0, vb false, i64 0, i64 0, u8 0, u8 0, u8 0, u8 0, u8 0, u8 0, u8 0, u8 0, i64 0, i64 0, i64 0, i64 0, i64 0, hS 16 0, vb false, hS 17 0, u8 0, u8 0, u8 0, u8 0, i64 0, hS 18 0, hS 19 0, hS 20 0]], oF 50 [[i64 0, i64 l, i64 0, i64 0, i64 m, i64 o, i64 p, hS 21 0, hS 22 0, hS 23 0, hS 24 0, hS 25 0, hS 26 0, hS 27 0, hS 28 0, hS 29 0, vb false, hS 30 0, i64 0, i64 0, hS 31 0, hS 32 0, hS 33 0, vb false, i64 0, i64 0, u8 0, u8 0, u8 0, u8 0, u8 0, u8 0, u8 0, u8 0, i64 0, i64 0, i64 0, i64 0, i64 0, hS 34 0, vb false, hS 35 0, u8 0, u8 0, u8 0, u8 0, i64 0, hS 36 0, hS 37 0, hS 38 0]], oT 7 [], oT 7 [], oT 7 [], oT 7 [], oT 7 [], oT 7 [], oT 7 [], oT 7 [], oT 7 [], oT 2 [], oT 7 [], oT 7 [], oT 8 [], oT 10 [], oT 7 [], oT 1 [], oT 7 [], oT 7 [], oT 7 [], oT 7 [], oT 7 [], oT 7 [], oT 7 [], oT 7 [], oT 7 [], oT 7 [], oT 7 [], oT 2 [], oT 7 [], oT 7 [], oT 8 [], oT 10 [], oT 7 [], oT 1 [], oT 7 [], oT 7 []]
inductive T69_r5e0 where
  | mk (a d : Int) (f i : Bool) (j : LV) (l m o p q : Int)
inductive N69_r5 where
  | e0 (x : T69_r5e0)
abbrev N69_r5.out : N69_r5 → VX × S
  | .e0 (.mk a d f i j l m o p q) => (vN, S.mk (pT 0 :: U :: U :: i64 a :: i64 d :: vb f :: un 6 (pT 1 :: pT 2 :: un 33 (vb i :: un 82 []))) [oF 2 [[lS 1 j, i64 l]], oF 50 [[i64 0, i64 0, i64 0, i64 0, i64 0, i64 0, i64 0, hS 3 0, hS 4 0, hS 5 0, hS 6 0, hS 7 0, hS 8 0, hS 9 0, hS 10 0, hS 11 0, vb false, hS 12 0, i64 0, i64 0, hS 13 0, hS 14 0, hS 15 0, vb false, i64 0, i64 0, u8 0, u8 0, u8 0, u8 0, u8 0, u8 0, u8 0, u8 0, i64 0, i64 0, i64 0, i64 0, i64 0, hS 16 0, vb false, hS 17 0, u8 0, u8 0, u8 0, u8 0, i64 0, hS 18 0, hS 19 0, hS 20 0]], oF 50 [[i64 0, i64 m, i64 0, i64 0, i64 o, i64 p, i64 q, hS 21 0, hS 22 0, hS 23 0, hS 24 0, hS 25 0, hS 26 0, hS 27 0, hS 28 0, hS 29 0, vb false, hS 30 0, i64 0, i64 0, hS 31 0, hS 32 0, hS 33 0, vb false, i64 0, i64 0, u8 0, u8 0, u8 0, u8 0, u8 0, u8 0, u8 0, u8 0, i64 0, i64 0, i64 0, i64 0, i64 0, hS 34 0, vb false, hS 35 0, u8 0, u8 0, u8 0, u8 0, i64 0, hS 36 0, hS 37 0, hS 38 0]], oT 7 [], oT 7 [], oT 7 [], oT 7 [], oT 7 [], oT 7 [], oT 7 [], oT 7 [], oT 7 [], oT 2 [], oT 7 [], oT 7 [], oT 8 [], oT 10 [], oT 7 [], oT 1 [], oT 7 [], oT 7 [], oT 7 [], oT 7 [], oT 7 [], oT 7 [], oT 7 [], oT 7 [], oT 7 [], oT 7 [], oT 7 [], oT 2 [], oT 7 [], oT 7 [], oT 8 [], oT 10 [], oT 7 [], oT 1 [], oT 7 [], oT 7 []])
abbrev E69_r5 := Ent.o1 N69_r5.out .e0 fun ⟨x⟩ => ⟨x, rfl⟩
noncomputable def D69_r5 : T69_r5s0 → PT N69_r5 | .mk a d f i j l m o p => .test (w64 (a + 1) < d) (fun h0 => .auto 1 <| .ask E43 (F43_ok 3 i j) fun ⟨q, s, t⟩ => .auto 2 <| .ret (.e0 (.mk a d f (q == 0) s t l m o p))) (fun h0 => .auto 3 <| .ret (.e0 (.mk a d f false i j l m o p)))
noncomputable def J69_r5 (y : T69_r5s0) : Option N69_r5 := (D69_r5 y).ev some
theorem J69_r5_ok (y : T69_r5s0) : ∀ b, J69_r5 y = some b → regP Tryz.prog X CC 69 1 B69 5 y.st = some (E69_r5.out b) := by
  cases y; exact reg_ok (E := E69_r5) (fun x => by kernel_rfl)
inductive T69_c34s0 where
  | mk (a d f : Int) (i j : Bool) (l : LV) (m o p q : Int)
abbrev T69_c34s0.st : T69_c34s0 → S
  | .mk a d f i j l m o p q => S.mk (pT 0 :: i64 a :: U :: i64 d :: i64 f :: vb i :: un 6 (pT 1 :: pT 2 :: un 20 (vb j :: un 95 []))) [oF 2 [[lS 1 l, i64 m]], oF 50 [[i64 0, i64 0, i64 0, i64 0, i64 0, i64 0, i64 0, hS 3 0, hS 4 0, hS 5 0, hS 6 0, hS 7 0, hS 8 0, hS 9 0, hS 10 0, hS 11 0, vb false, hS 12 0, i64 0, i64 0, hS 13 0, hS 14 0, hS 15 0, vb false, i64 0, i64 0, u8 0, u8 0, u8 0, u8 0, u8 0, u8 0, u8 0, u8 0, i64 0, i64 0, i64 0, i64 0, i64 0, hS 16 0, vb false, hS 17 0, u8 0, u8 0, u8 0, u8 0, i64 0, hS 18 0, hS 19 0, hS 20 0]], oF 50 [[i64 0, i64 (-1), i64 0, i64 0, i64 o, i64 p, i64 q, hS 21 0, hS 22 0, hS 23 0, hS 24 0, hS 25 0, hS 26 0, hS 27 0, hS 28 0, hS 29 0, vb false, hS 30 0, i64 0, i64 0, hS 31 0, hS 32 0, hS 33 0, vb false, i64 0, i64 0, u8 0, u8 0, u8 0, u8 0, u8 0, u8 0, u8 0, u8 0, i64 0, i64 0, i64 0, i64 0, i64 0, hS 34 0, vb false, hS 35 0, u8 0, u8 0, u8 0, u8 0, i64 0, hS 36 0, hS 37 0, hS 38 0]], oT 7 [], oT 7 [], oT 7 [], oT 7 [], oT 7 [], oT 7 [], oT 7 [], oT 7 [], oT 7 [], oT 2 [], oT 7 [], oT 7 [], oT 8 [], oT 10 [], oT 7 [], oT 1 [], oT 7 [], oT 7 [], oT 7 [], oT 7 [], oT 7 [], oT 7 [], oT 7 [], oT 7 [], oT 7 [], oT 7 [], oT 7 [], oT 2 [], oT 7 [], oT 7 [], oT 8 [], oT 10 [], oT 7 [], oT 1 [], oT 7 [], oT 7 []]
inductive T69_c34e0 where
  | mk (a d : Int) (f : Bool) (i : LV) (j l m o p : Int)
inductive N69_c34 where
  | e0 (x : T69_c34e0)
abbrev N69_c34.out : N69_c34 → VX × S
  | .e0 (.mk a d f i j l m o p) => (vN, S.mk (pT 0 :: U :: U :: i64 a :: i64 d :: vb f :: un 6 (pT 1 :: pT 2 :: un 116 [])) [oF 2 [[lS 1 i, i64 j]], oF 50 [[i64 0, i64 0, i64 0, i64 0, i64 0, i64 0, i64 0, hS 3 0, hS 4 0, hS 5 0, hS 6 0, hS 7 0, hS 8 0, hS 9 0, hS 10 0, hS 11 0, vb false, hS 12 0, i64 0, i64 0, hS 13 0, hS 14 0, hS 15 0, vb false, i64 0, i64 0, u8 0, u8 0, u8 0, u8 0, u8 0, u8 0, u8 0, u8 0, i64 0, i64 0, i64 0, i64 0, i64 0, hS 16 0, vb false, hS 17 0, u8 0, u8 0, u8 0, u8 0, i64 0, hS 18 0, hS 19 0, hS 20 0]], oF 50 [[i64 0, i64 l, i64 0, i64 0, i64 m, i64 o, i64 p, hS 21 0, hS 22 0, hS 23 0, hS 24 0, hS 25 0, hS 26 0, hS 27 0, hS 28 0, hS 29 0, vb false, hS 30 0, i64 0, i64 0, hS 31 0, hS 32 0, hS 33 0, vb false, i64 0, i64 0, u8 0, u8 0, u8 0, u8 0, u8 0, u8 0, u8 0, u8 0, i64 0, i64 0, i64 0, i64 0, i64 0, hS 34 0, vb false, hS 35 0, u8 0, u8 0, u8 0, u8 0, i64 0, hS 36 0, hS 37 0, hS 38 0]], oT 7 [], oT 7 [], oT 7 [], oT 7 [], oT 7 [], oT 7 [], oT 7 [], oT 7 [], oT 7 [], oT 2 [], oT 7 [], oT 7 [], oT 8 [], oT 10 [], oT 7 [], oT 1 [], oT 7 [], oT 7 [], oT 7 [], oT 7 [], oT 7 [], oT 7 [], oT 7 [], oT 7 [], oT 7 [], oT 7 [], oT 7 [], oT 2 [], oT 7 [], oT 7 [], oT 8 [], oT 10 [], oT 7 [], oT 1 [], oT 7 [], oT 7 []])
abbrev E69_c34 := Ent.o1 N69_c34.out .e0 fun ⟨x⟩ => ⟨x, rfl⟩
noncomputable def D69_c34 : T69_c34s0 → PT N69_c34 | .mk p a d f q i j l m o => .testB q (fun h0 => .ask E43 (F43_ok p i j) fun ⟨s, t, u⟩ => .auto 1 <| .ret (.e0 (.mk a d f t u s l m o))) (fun h0 => .ret (.e0 (.mk a d f i j (-1) l m o)))
noncomputable def J69_c34 (y : T69_c34s0) : Option N69_c34 := (D69_c34 y).ev some
theorem J69_c34_ok (y : T69_c34s0) : CU 69 1 B69 34 E69_c34 (J69_c34 y) y.st := by
  cases y; exact cond_ok (L := notIn []) fun x => by kernel_rfl
inductive T69_r3s0 where
  | mk (a d f : Int) (i : Bool) (j : LV) (l m o p : Int)
abbrev T69_r3s0.st : T69_r3s0 → S
  | .mk a d f i j l m o p => S.mk (pT 0 :: i64 a :: U :: i64 d :: i64 f :: vb i :: un 6 (pT 1 :: pT 2 :: un 116 [])) [oF 2 [[lS 1 j, i64 l]], oF 50 [[i64 0, i64 0, i64 0, i64 0, i64 0, i64 0, i64 0, hS 3 0, hS 4 0, hS 5 0, hS 6 0, hS 7 0, hS 8 0, hS 9 0, hS 10 0, hS 11 0, vb false, hS 12 0, i64 0, i64 0, hS 13 0, hS 14 0, hS 15 0, vb false, i64 0, i64 0, u8 0, u8 0, u8 0, u8 0, u8 0, u8 0, u8 0, u8 0, i64 0, i64 0, i64 0, i64 0, i64 0, hS 16 0, vb false, hS 17 0, u8 0, u8 0, u8 0, u8 0, i64 0, hS 18 0, hS 19 0, hS 20 0]], oF 50 [[i64 0, i64 (-1), i64 0, i64 0, i64 m, i64 o, i64 p, hS 21 0, hS 22 0, hS 23 0, hS 24 0, hS 25 0, hS 26 0, hS 27 0, hS 28 0, hS 29 0, vb false, hS 30 0, i64 0, i64 0, hS 31 0, hS 32 0, hS 33 0, vb false, i64 0, i64 0, u8 0, u8 0, u8 0, u8 0, u8 0, u8 0, u8 0, u8 0, i64 0, i64 0, i64 0, i64 0, i64 0, hS 34 0, vb false, hS 35 0, u8 0, u8 0, u8 0, u8 0, i64 0, hS 36 0, hS 37 0, hS 38 0]], oT 7 [], oT 7 [], oT 7 [], oT 7 [], oT 7 [], oT 7 [], oT 7 [], oT 7 [], oT 7 [], oT 2 [], oT 7 [], oT 7 [], oT 8 [], oT 10 [], oT 7 [], oT 1 [], oT 7 [], oT 7 [], oT 7 [], oT 7 [], oT 7 [], oT 7 [], oT 7 [], oT 7 [], oT 7 [], oT 7 [], oT 7 [], oT 2 [], oT 7 [], oT 7 [], oT 8 [], oT 10 [], oT 7 [], oT 1 [], oT 7 [], oT 7 []]
inductive T69_r3e0 where
  | mk (a d f : Int) (i j : Bool) (l : LV) (m o p q : Int)
inductive N69_r3 where
  | e0 (x : T69_r3e0)
abbrev N69_r3.out : N69_r3 → VX × S
  | .e0 (.mk a d f i j l m o p q) => (vN, S.mk (pT 0 :: i64 a :: U :: i64 d :: i64 f :: vb i :: un 6 (pT 1 :: pT 2 :: un 20 (vb j :: un 95 []))) [oF 2 [[lS 1 l, i64 m]], oF 50 [[i64 0, i64 0, i64 0, i64 0, i64 0, i64 0, i64 0, hS 3 0, hS 4 0, hS 5 0, hS 6 0, hS 7 0, hS 8 0, hS 9 0, hS 10 0, hS 11 0, vb false, hS 12 0, i64 0, i64 0, hS 13 0, hS 14 0, hS 15 0, vb false, i64 0, i64 0, u8 0, u8 0, u8 0, u8 0, u8 0, u8 0, u8 0, u8 0, i64 0, i64 0, i64 0, i64 0, i64 0, hS 16 0, vb false, hS 17 0, u8 0, u8 0, u8 0, u8 0, i64 0, hS 18 0, hS 19 0, hS 20 0]], oF 50 [[i64 0, i64 (-1), i64 0, i64 0, i64 o, i64 p, i64 q, hS 21 0, hS 22 0, hS 23 0, hS 24 0, hS 25 0, hS 26 0, hS 27 0, hS 28 0, hS 29 0, vb false, hS 30 0, i64 0, i64 0, hS 31 0, hS 32 0, hS 33 0, vb false, i64 0, i64 0, u8 0, u8 0, u8 0, u8 0, u8 0, u8 0, u8 0, u8 0, i64 0, i64 0, i64 0, i64 0, i64 0, hS 34 0, vb false, hS 35 0, u8 0, u8 0, u8 0, u8 0, i64 0, hS 36 0, hS 37 0, hS 38 0]], oT 7 [], oT 7 [], oT 7 [], oT 7 [], oT 7 [], oT 7 [], oT 7 [], oT 7 [], oT 7 [], oT 2 [], oT 7 [], oT 7 [], oT 8 [], oT 10 [], oT 7 [], oT 1 [], oT 7 [], oT 7 [], oT 7 [], oT 7 [], oT 7 [], oT 7 [], oT 7 [], oT 7 [], oT 7 [], oT 7 [], oT 7 [], oT 2 [], oT 7 [], oT 7 [], oT 8 [], oT 10 [], oT 7 [], oT 1 [], oT 7 [], oT 7 []])
abbrev E69_r3 := Ent.o1 N69_r3.out .e0 fun ⟨x⟩ => ⟨x, rfl⟩
noncomputable def D69_r3 : T69_r3s0 → PT N69_r3 | .mk a d f i q s j l m => .ask E43 (F43_ok 3 q s) fun ⟨t, o, p⟩ => .testB (t == 0) (fun h0 => .auto 2 <| .ret (.e0 (.mk a d f i (decide (a > 0)) o p j l m))) (fun h0 => .auto 2 <| .ret (.e0 (.mk a d f i false o p j l m)))
noncomputable def J69_r3 (y : T69_r3s0) : Option N69_r3 := (D69_r3 y).ev some
theorem J69_r3_ok (y : T69_r3s0) : ∀ b, J69_r3 y = some b → regP Tryz.prog X CC 69 1 B69 3 y.st = some (E69_r3.out b) := by
  cases y; exact reg_ok (E := E69_r3) (fun x => by kernel_rfl)
noncomputable def D69 (o1 m15 o2 o3 : Int) (o4 : Bool) (o5 : LV) (o6 : Int) : PT A69 := .ask E43 (F43_ok 6 o5 o6) fun ⟨a, o7, o8⟩ => .ask E43 (F43_ok 5 o7 o8) fun ⟨o9, p0, p1⟩ => .auto 2 <| .ask E43 (F43_ok 24 p0 p1) fun ⟨p2, p3, p4⟩ => .auto 1 <| .cut E69_r3 (J69_r3_ok (.mk o1 o2 o3 o4 p3 p4 (w64 (a - 2)) (w64 (w64 (w64 (a - 2) + 1) + p2)) (w64 (o9 - 2)))) fun | .e0 (.mk p5 p6 p7 p8 p9 q0 q1 q2 q3 q4) => .cut E69_c34 (J69_c34_ok (.mk p5 p6 p7 p8 p9 q0 q1 q2 q3 q4)) fun | .e0 (.mk q5 q6 q7 q8 q9 t0 t1 t2 t3) => .cut E69_r5 (J69_r5_ok (.mk q5 q6 q7 q8 q9 t0 t1 t2 t3)) fun | .e0 (.mk t4 t5 t6 t7 t8 t9 v0 v1 v2 v3) => .cut E69_c47 (J69_c47_ok (.mk t4 t5 t6 t7 t8 t9 v0 v1 v2 v3)) fun | .e0 (.mk v4 v5 v6 v7 v8 v9 y0 y1 y2 y3 y4 y5 y6 y7 y8 y9 z0 z1 z2 z3 z4 z5 z6 z7 z8 z9 d10 d11 d12 d13 d14 d15 d16 d17 d18 d19 d20 d21 d22 d23 d24 d25 d26 d27 d28 d29 d30 d31 d32 d33 d34) => .ask E43 (F43_ok 4 v5 v6) fun ⟨d35, d36, d37⟩ => .cut E69_c75 (J69_c75_ok (.mk v4 (decide (d35 > 0)) d36 d37 v7 v8 v9 y0 y1 y2 y3 y4 y5 y6 y7 y8 y9 z0 z1 z2 z3 z4 z5 z6 z7 z8 z9 d10 d11 d12 d13 d14 d15 d16 d17 d18 d19 d20 d21 d22 d23 d24 d25 d26 d27 d28 d29 d30 d31 d32 d33 d34)) fun | .e0 (.mk d38 d39 d40 d41 d42 d43 d44 d45 d46 d47 d48 d49 d50 d51 d52 d53 d54 d55 d56 d57 d58 d59 d60 d61 d62 d63 d64 d65 d66 d67 d68 d69 d70 d71 d72 d73 d74 d75 d76 d77 d78 d79 d80 d81 d82 d83 d84 d85 d86 d87 d88 d89 d90 d91 d92) => .ask E43 (F43_ok 3 d39 d40) fun ⟨d93, d94, d95⟩ => .cut E69_c84 (J69_c84_ok (.mk d38 (d93 == 0) d94 d95 d41 d42 d43 d44 d45 d46 d47 d48 d49 d50 d51 d52 d53 d54 d55 d56 d57 d58 d59 d60 d61 d62 d63 d64 d65 d66 d67 d68 d69 d70 d71 d72 d73 d74 d75 d76 d77 d78 d79 d80 d81 d82 d83 d84 d85 d86 d87 d88 d89 d90 d91 d92)) fun | .e0 (.mk d96 d97 d98 d99 f10 f11 f12 f13 f14 f15 f16 f17 f18 f19 f20 f21 f22 f23 f24 f25 f26 f27 f28 f29 f30 f31 f32 f33 f34 f35 f36 f37 f38 f39 f40 f41 f42 f43 f44 f45 f46 f47 f48 f49 f50 f51 f52 f53 f54 f55 f56 f57 f58 f59 f60 f61 f62 f63 f64 f65 f66 f67 f68) => .ask E43 (F43_ok 3 d97 d98) fun ⟨f69, f70, f71⟩ => .cut E69_c99 (J69_c99_ok (.mk d96 (f69 == 0) f70 f71 d99 f10 f11 f12 f13 f14 f15 f16 f17 f18 f19 f20 f21 f22 f23 f24 f25 f26 f27 f28 f29 f30 f31 f32 f33 f34 f35 f36 f37 f38 f39 f40 f41 f42 f43 f44 f45 f46 f47 f48 f49 f50 f51 f52 f53 f54 f55 f56 f57 f58 f59 f60 f61 f62 f63 f64 f65 f66 f67 f68)) fun | .e0 (.mk f72 f73 f74 f75 f76 f77 f78 f79 f80 f81 f82 f83 f84 f85 f86 f87 f88 f89 f90 f91 f92 f93 f94 f95 f96 f97 f98 f99 j10 j11 j12 j13 j14 j15 j16 j17 j18 j19 j20 j21 j22 j23 j24 j25 j26 j27 j28 j29 j30 j31 j32 j33 j34 j35 j36 j37 j38 j39 j40 j41 j42 j43 j44 j45 j46) => .ask E43 (F43_ok 3 f73 f74) fun ⟨j47, j48, j49⟩ => .cut E69_c105 (J69_c105_ok (.mk f72 (j47 == 0) j48 j49 f75 f76 f77 f78 f79 f80 f81 f82 f83 f84 f85 f86 f87 f88 f89 f90 f91 f92 f93 f94 f95 f96 f97 f98 f99 j10 j11 j12 j13 j14 j15 j16 j17 j18 j19 j20 j21 j22 j23 j24 j25 j26 j27 j28 j29 j30 j31 j32 j33 j34 j35 j36 j37 j38 j39 j40 j41 j42 j43 j44 j45 j46)) fun | .e0 (.mk j50 j51 j52 j53 j54 j55 j56 j57 j58 j59 j60 j61 j62 j63 j64 j65 j66 j67 j68 j69 j70 j71 j72 j73 j74 j75 j76 j77 j78 j79 j80 j81 j82 j83 j84 j85 j86 j87 j88 j89 j90 j91 j92 j93 j94 j95 j96 j97 j98 j99 l10 l11 l12 l13 l14 l15 l16 l17 l18 l19 l20 l21 l22 l23 l24 l25 l26) => .cut E69_r18 (J69_r18_ok (.mk j50 j51 j52 j53 j54 j55 j56 j57 j58 j59 j60 j61 j62 j63 j64 j65 j66 j67 j68 j69 j70 j71 j72 j73 j74 j75 j76 j77 j78 j79 j80 j81 j82 j83 j84 j85 j86 j87 j88 j89 j90 j91 j92 j93 j94 j95 j96 j97 j98 j99 l10 l11 l12 l13 l14 l15 l16 l17 l18 l19 l20 l21 l22 l23 l24 l25 l26)) fun | .e0 (.mk l27 l28 l29 l30 l31 l32 l33 l34 l35 l36 l37 l38 l39 l40 l41 l42 l43 l44 l45 l46 l47 l48 l49 l50 l51 l52 l53 l54 l55 l56 l57 l58 l59 l60 l61 l62 l63 l64 l65 l66 l67 l68 l69 l70 l71 l72 l73 l74 l75 l76 l77 l78 l79 l80 l81 l82 l83 l84 l85 l86 l87 l88 l89 l90 l91 l92 l93) => .cut E69_c115 (J69_c115_ok (.mk l27 l28 l29 l30 l31 l32 l33 l34 l35 l36 l37 l38 l39 l40 l41 l42 l43 l44 l45 l46 l47 l48 l49 l50 l51 l52 l53 l54 l55 l56 l57 l58 l59 l60 l61 l62 l63 l64 l65 l66 l67 l68 l69 l70 l71 l72 l73 l74 l75 l76 l77 l78 l79 l80 l81 l82 l83 l84 l85 l86 l87 l88 l89 l90 l91 l92 l93)) fun | .e0 (.mk l94 l95 d f i j l m o p q s t u v w y z d0 d1 d2 d3 d4 d5 d6 d7 d8 d9 f0 f1 f2 f3 f4 f5 f6 f7 f8 f9 j0 j1 j2 j3 j4 j5 j6 j7 j8 j9 l0 l1 l2 l3 l4 l5 l6 l7 l8 l9 m0 m1 m2 m3 m4 m5 m6 m7 m8) => .ask E43 (F43_ok 5 l94 l95) fun ⟨l96, m9, o0⟩ => .testB (l96 == 0) (fun h0 => .ask E43 (F43_ok 2 m9 o0) fun ⟨l97, l98, l99⟩ => .ask E44 (F44_ok (w64 (2 + l97)) true l98 l99) fun ⟨m10, m11, m12, m13, m14⟩ => .auto 3 <| .ret (.a0 d f i j l m o p q s t u v w y z m10 m11 d0 d1 d2 d3 d4 d5 d6 d7 d8 d9 f0 f1 f2 f3 f4 f5 f6 f7 f8 f9 j0 j1 j2 j3 j4 j5 j6 j7 j8 j9 l0 l1 m12 m13 l2 l3 l4 l5 l6 l7 l8 l9 m0 m14 m1 m2 m3 m4 m5 m6 m7 m8)) (fun h0 => .auto 2 <| .ret (.a0 d f i j l m o p q s t u v w y z false 0 d0 d1 d2 d3 d4 d5 d6 d7 d8 d9 f0 f1 f2 f3 f4 f5 f6 f7 f8 f9 j0 j1 j2 j3 j4 j5 j6 j7 j8 j9 l0 l1 m9 o0 l2 l3 l4 l5 l6 l7 l8 l9 m0 ([]) m1 m2 m3 m4 m5 m6 m7 m8))
noncomputable def F69 (a d f i : Int) (j : Bool) (l : LV) (m : Int) : Option A69 := (D69 a d f i j l m).ev some
theorem F69_ok (a d f i : Int) (j : Bool) (l : LV) (m : Int) : FU E69 (F69 a d f i j l m) 69 [pT 0, i64 a, i64 d, i64 f, i64 i, vb j] [oF 2 [[lS 1 l, i64 m]]] := fu rfl rfl fun x => by kernel_rfl
end Go.Proofs.YtifalphladcdcaaGreat.H
