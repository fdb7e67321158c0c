/- What the functions compute, and that they do so over the machine of plain values (printed by this session's program wip/vm/Walk.lean). No condition beyond those stated. -/
import Derived.Test.YtifalphladcdcaaGreatWk
import Derived.Test.YtifalphladcdcaaGreatHB
import Derived.Test.YtifalphladcdcaaGreatPTa
set_option linter.unusedVariables false
set_option linter.unusedSimpArgs false
namespace Go.Proofs.YtifalphladcdcaaGreat.H
open Go Go.VM
set_option maxRecDepth 100000
/-! ## F69 -/
noncomputable abbrev B69 : Code := (Tryz.f69.body).getD .skip
inductive T69_c115s0 where
  | mk (a : Bool) (d : LV) (f i j l m o p : Int) (q s t u v w y z d0 : Nat) (d1 d2 : Int) (d3 d4 d5 : Nat) (d6 : Bool) (d7 d8 d9 f0 f1 f2 f3 f4 f5 f6 f7 f8 f9 j0 j1 : Int) (j2 : Nat) (j3 : Bool) (j4 : Nat) (j5 j6 j7 j8 j9 : Int) (l0 l1 l2 : Nat) (l3 l4 l5 l6 l7 l8 l9 m0 m1 m2 m3 m4 m5 m6 m7 m8 m9 : LV)
abbrev T69_c115s0.st : T69_c115s0 → S
  | .mk a d f i j l m o p q s t u v w y z d0 d1 d2 d3 d4 d5 d6 d7 d8 d9 f0 f1 f2 f3 f4 f5 f6 f7 f8 f9 j0 j1 j2 j3 j4 j5 j6 j7 j8 j9 l0 l1 l2 l3 l4 l5 l6 l7 l8 l9 m0 m1 m2 m3 m4 m5 m6 m7 m8 m9 => S.mk (pT 0 :: un 11 (pT 1 :: pT 2 :: un 101 (vb a :: un 14 []))) [oF 2 [[lS 1 d, i64 f]], oF 50 [[i64 0, i64 0, i64 0, i64 0, i64 0, i64 0, i64 0, hS 3 0, hS 4 0, hS 5 0, hS 6 0, hS 7 0, hS 8 0, hS 9 0, hS 10 0, hS 11 0, vb false, hS 12 0, i64 0, i64 0, hS 13 0, hS 14 0, hS 15 0, vb false, i64 0, i64 0, u8 0, u8 0, u8 0, u8 0, u8 0, u8 0, u8 0, u8 0, i64 0, i64 0, i64 0, i64 0, i64 0, hS 16 0, vb false, hS 17 0, u8 0, u8 0, u8 0, u8 0, i64 0, hS 18 0, hS 19 0, hS 20 0]], oF 50 [[i64 i, i64 j, i64 l, i64 0, i64 m, i64 o, i64 p, hS 21 q, hS 22 s, hS 23 t, hS 24 u, hS 25 v, hS 26 w, hS 27 y, hS 28 z, hS 29 d0, vb false, hS 30 0, i64 d1, i64 d2, hS 31 d3, hS 32 d4, hS 33 d5, vb d6, i64 d7, i64 d8, u8 d9, u8 f0, u8 f1, u8 f2, u8 f3, u8 f4, u8 f5, u8 f6, i64 f7, i64 f8, i64 f9, i64 j0, i64 j1, hS 34 j2, vb j3, hS 35 j4, u8 j5, u8 j6, u8 j7, u8 j8, i64 j9, hS 36 l0, hS 37 l1, hS 38 l2]], oT 7 [], oT 7 [], oT 7 [], oT 7 [], oT 7 [], oT 7 [], oT 7 [], oT 7 [], oT 7 [], oT 2 [], oT 7 [], oT 7 [], oT 8 [], oT 10 [], oT 7 [], oT 1 [], oT 7 [], oT 7 [], oT 7 l3, oT 7 l4, oT 7 l5, oT 7 l6, oT 7 l7, oT 7 l8, oT 7 l9, oT 7 m0, oT 7 m1, oT 2 [], oT 7 m2, oT 7 m3, oT 8 m4, oT 10 m5, oT 7 m6, oT 1 m7, oT 7 m8, oT 7 m9]
inductive T69_c115e0 where
  | mk (a : LV) (d f i j l m o p : Int) (q s t u v w y z d0 : Nat) (d1 d2 : Int) (d3 d4 d5 : Nat) (d6 : Bool) (d7 d8 d9 f0 f1 f2 f3 f4 f5 f6 f7 f8 f9 j0 j1 : Int) (j2 : Nat) (j3 : Bool) (j4 : Nat) (j5 j6 j7 j8 j9 : Int) (l0 l1 l2 : Nat) (l3 l4 l5 l6 l7 l8 l9 m0 m1 m2 m3 m4 m5 m6 m7 m8 m9 : LV)
inductive N69_c115 where
  | e0 (x : T69_c115e0)
abbrev N69_c115.out : N69_c115 → VX × S
  | .e0 (.mk a d f i j l m o p q s t u v w y z d0 d1 d2 d3 d4 d5 d6 d7 d8 d9 f0 f1 f2 f3 f4 f5 f6 f7 f8 f9 j0 j1 j2 j3 j4 j5 j6 j7 j8 j9 l0 l1 l2 l3 l4 l5 l6 l7 l8 l9 m0 m1 m2 m3 m4 m5 m6 m7 m8 m9) => (vN, S.mk (pT 0 :: un 11 (pT 1 :: pT 2 :: un 116 [])) [oF 2 [[lS 1 a, i64 d]], oF 50 [[i64 0, i64 0, i64 0, i64 0, i64 0, i64 0, i64 0, hS 3 0, hS 4 0, hS 5 0, hS 6 0, hS 7 0, hS 8 0, hS 9 0, hS 10 0, hS 11 0, vb false, hS 12 0, i64 0, i64 0, hS 13 0, hS 14 0, hS 15 0, vb false, i64 0, i64 0, u8 0, u8 0, u8 0, u8 0, u8 0, u8 0, u8 0, u8 0, i64 0, i64 0, i64 0, i64 0, i64 0, hS 16 0, vb false, hS 17 0, u8 0, u8 0, u8 0, u8 0, i64 0, hS 18 0, hS 19 0, hS 20 0]], oF 50 [[i64 f, i64 i, i64 j, i64 l, i64 m, i64 o, i64 p, hS 21 q, hS 22 s, hS 23 t, hS 24 u, hS 25 v, hS 26 w, hS 27 y, hS 28 z, hS 29 d0, vb false, hS 30 0, i64 d1, i64 d2, hS 31 d3, hS 32 d4, hS 33 d5, vb d6, i64 d7, i64 d8, u8 d9, u8 f0, u8 f1, u8 f2, u8 f3, u8 f4, u8 f5, u8 f6, i64 f7, i64 f8, i64 f9, i64 j0, i64 j1, hS 34 j2, vb j3, hS 35 j4, u8 j5, u8 j6, u8 j7, u8 j8, i64 j9, hS 36 l0, hS 37 l1, hS 38 l2]], oT 7 [], oT 7 [], oT 7 [], oT 7 [], oT 7 [], oT 7 [], oT 7 [], oT 7 [], oT 7 [], oT 2 [], oT 7 [], oT 7 [], oT 8 [], oT 10 [], oT 7 [], oT 1 [], oT 7 [], oT 7 [], oT 7 l3, oT 7 l4, oT 7 l5, oT 7 l6, oT 7 l7, oT 7 l8, oT 7 l9, oT 7 m0, oT 7 m1, oT 2 [], oT 7 m2, oT 7 m3, oT 8 m4, oT 10 m5, oT 7 m6, oT 1 m7, oT 7 m8, oT 7 m9])
abbrev E69_c115 := Ent.o1 N69_c115.out .e0 fun ⟨x⟩ => ⟨x, rfl⟩
noncomputable def D69_c115 : T69_c115s0 → PT N69_c115 | .mk m9 a d f i j l m o p q s t u v w y z d0 d1 d2 d3 d4 d5 d6 d7 d8 d9 f0 f1 f2 f3 f4 f5 f6 f7 f8 f9 j0 j1 j2 j3 j4 j5 j6 j7 j8 j9 l0 l1 l2 l3 l4 l5 l6 l7 l8 l9 m0 m1 m2 m3 m4 m5 m6 m7 m8 => .testB m9 (fun h0 => .ask E43 (F43_ok 2 a d) fun ⟨o0, o1, o2⟩ => .auto 1 <| .ret (.e0 (.mk o1 o2 f i j (w64 (1 + o0)) l m o p q s t u v w y z d0 d1 d2 d3 d4 d5 d6 d7 d8 d9 f0 f1 f2 f3 f4 f5 f6 f7 f8 f9 j0 j1 j2 j3 j4 j5 j6 j7 j8 j9 l0 l1 l2 l3 l4 l5 l6 l7 l8 l9 m0 m1 m2 m3 m4 m5 m6 m7 m8))) (fun h0 => .ret (.e0 (.mk a d f i j 0 l m o p q s t u v w y z d0 d1 d2 d3 d4 d5 d6 d7 d8 d9 f0 f1 f2 f3 f4 f5 f6 f7 f8 f9 j0 j1 j2 j3 j4 j5 j6 j7 j8 j9 l0 l1 l2 l3 l4 l5 l6 l7 l8 l9 m0 m1 m2 m3 m4 m5 m6 m7 m8)))
noncomputable def J69_c115 (y : T69_c115s0) : Option N69_c115 := (D69_c115 y).ev some
theorem J69_c115_ok (y : T69_c115s0) : CU 69 1 B69 115 E69_c115 (J69_c115 y) y.st := by
  cases y; exact cond_ok (L := notIn []) fun x => by kernel_rfl
inductive T69_r18s0 where
  | mk (a : Bool) (d : LV) (f i j l m o p : Int) (q s t u v w y z d0 : Nat) (d1 d2 : Int) (d3 d4 d5 : Nat) (d6 : Bool) (d7 d8 d9 f0 f1 f2 f3 f4 f5 f6 f7 f8 f9 j0 j1 : Int) (j2 : Nat) (j3 : Bool) (j4 : Nat) (j5 j6 j7 j8 j9 : Int) (l0 l1 l2 : Nat) (l3 l4 l5 l6 l7 l8 l9 m0 m1 m2 m3 m4 m5 m6 m7 m8 m9 : LV)
abbrev T69_r18s0.st : T69_r18s0 → S
  | .mk a d f i j l m o p q s t u v w y z d0 d1 d2 d3 d4 d5 d6 d7 d8 d9 f0 f1 f2 f3 f4 f5 f6 f7 f8 f9 j0 j1 j2 j3 j4 j5 j6 j7 j8 j9 l0 l1 l2 l3 l4 l5 l6 l7 l8 l9 m0 m1 m2 m3 m4 m5 m6 m7 m8 m9 => S.mk (pT 0 :: un 4 (vb a :: un 6 (pT 1 :: pT 2 :: un 116 []))) [oF 2 [[lS 1 d, i64 f]], oF 50 [[i64 0, i64 0, i64 0, i64 0, i64 0, i64 0, i64 0, hS 3 0, hS 4 0, hS 5 0, hS 6 0, hS 7 0, hS 8 0, hS 9 0, hS 10 0, hS 11 0, vb false, hS 12 0, i64 0, i64 0, hS 13 0, hS 14 0, hS 15 0, vb false, i64 0, i64 0, u8 0, u8 0, u8 0, u8 0, u8 0, u8 0, u8 0, u8 0, i64 0, i64 0, i64 0, i64 0, i64 0, hS 16 0, vb false, hS 17 0, u8 0, u8 0, u8 0, u8 0, i64 0, hS 18 0, hS 19 0, hS 20 0]], oF 50 [[i64 i, i64 j, i64 l, i64 0, i64 m, i64 o, i64 p, hS 21 q, hS 22 s, hS 23 t, hS 24 u, hS 25 v, hS 26 w, hS 27 y, hS 28 z, hS 29 d0, vb false, hS 30 0, i64 d1, i64 d2, hS 31 d3, hS 32 d4, hS 33 d5, vb d6, i64 d7, i64 d8, u8 d9, u8 f0, u8 f1, u8 f2, u8 f3, u8 f4, u8 f5, u8 f6, i64 f7, i64 f8, i64 f9, i64 j0, i64 j1, hS 34 j2, vb j3, hS 35 j4, u8 j5, u8 j6, u8 j7, u8 j8, i64 j9, hS 36 l0, hS 37 l1, hS 38 l2]], oT 7 [], oT 7 [], oT 7 [], oT 7 [], oT 7 [], oT 7 [], oT 7 [], oT 7 [], oT 7 [], oT 2 [], oT 7 [], oT 7 [], oT 8 [], oT 10 [], oT 7 [], oT 1 [], oT 7 [], oT 7 [], oT 7 l3, oT 7 l4, oT 7 l5, oT 7 l6, oT 7 l7, oT 7 l8, oT 7 l9, oT 7 m0, oT 7 m1, oT 2 [], oT 7 m2, oT 7 m3, oT 8 m4, oT 10 m5, oT 7 m6, oT 1 m7, oT 7 m8, oT 7 m9]
inductive T69_r18e0 where
  | mk (a : Bool) (d : LV) (f i j l m o p : Int) (q s t u v w y z d0 : Nat) (d1 d2 : Int) (d3 d4 d5 : Nat) (d6 : Bool) (d7 d8 d9 f0 f1 f2 f3 f4 f5 f6 f7 f8 f9 j0 j1 : Int) (j2 : Nat) (j3 : Bool) (j4 : Nat) (j5 j6 j7 j8 j9 : Int) (l0 l1 l2 : Nat) (l3 l4 l5 l6 l7 l8 l9 m0 m1 m2 m3 m4 m5 m6 m7 m8 m9 : LV)
inductive N69_r18 where
  | e0 (x : T69_r18e0)
abbrev N69_r18.out : N69_r18 → VX × S
  | .e0 (.mk a d f i j l m o p q s t u v w y z d0 d1 d2 d3 d4 d5 d6 d7 d8 d9 f0 f1 f2 f3 f4 f5 f6 f7 f8 f9 j0 j1 j2 j3 j4 j5 j6 j7 j8 j9 l0 l1 l2 l3 l4 l5 l6 l7 l8 l9 m0 m1 m2 m3 m4 m5 m6 m7 m8 m9) => (vN, S.mk (pT 0 :: un 11 (pT 1 :: pT 2 :: un 101 (vb a :: un 14 []))) [oF 2 [[lS 1 d, i64 f]], oF 50 [[i64 0, i64 0, i64 0, i64 0, i64 0, i64 0, i64 0, hS 3 0, hS 4 0, hS 5 0, hS 6 0, hS 7 0, hS 8 0, hS 9 0, hS 10 0, hS 11 0, vb false, hS 12 0, i64 0, i64 0, hS 13 0, hS 14 0, hS 15 0, vb false, i64 0, i64 0, u8 0, u8 0, u8 0, u8 0, u8 0, u8 0, u8 0, u8 0, i64 0, i64 0, i64 0, i64 0, i64 0, hS 16 0, vb false, hS 17 0, u8 0, u8 0, u8 0, u8 0, i64 0, hS 18 0, hS 19 0, hS 20 0]], oF 50 [[i64 i, i64 j, i64 l, i64 0, i64 m, i64 o, i64 p, hS 21 q, hS 22 s, hS 23 t, hS 24 u, hS 25 v, hS 26 w, hS 27 y, hS 28 z, hS 29 d0, vb false, hS 30 0, i64 d1, i64 d2, hS 31 d3, hS 32 d4, hS 33 d5, vb d6, i64 d7, i64 d8, u8 d9, u8 f0, u8 f1, u8 f2, u8 f3, u8 f4, u8 f5, u8 f6, i64 f7, i64 f8, i64 f9, i64 j0, i64 j1, hS 34 j2, vb j3, hS 35 j4, u8 j5, u8 j6, u8 j7, u8 j8, i64 j9, hS 36 l0, hS 37 l1, hS 38 l2]], oT 7 [], oT 7 [], oT 7 [], oT 7 [], oT 7 [], oT 7 [], oT 7 [], oT 7 [], oT 7 [], oT 2 [], oT 7 [], oT 7 [], oT 8 [], oT 10 [], oT 7 [], oT 1 [], oT 7 [], oT 7 [], oT 7 l3, oT 7 l4, oT 7 l5, oT 7 l6, oT 7 l7, oT 7 l8, oT 7 l9, oT 7 m0, oT 7 m1, oT 2 [], oT 7 m2, oT 7 m3, oT 8 m4, oT 10 m5, oT 7 m6, oT 1 m7, oT 7 m8, oT 7 m9])
abbrev E69_r18 := Ent.o1 N69_r18.out .e0 fun ⟨x⟩ => ⟨x, rfl⟩
noncomputable def D69_r18 : T69_r18s0 → PT N69_r18 | .mk m9 a d f i j l m o p q s t u v w y z d0 d1 d2 d3 d4 d5 d6 d7 d8 d9 f0 f1 f2 f3 f4 f5 f6 f7 f8 f9 j0 j1 j2 j3 j4 j5 j6 j7 j8 j9 l0 l1 l2 l3 l4 l5 l6 l7 l8 l9 m0 m1 m2 m3 m4 m5 m6 m7 m8 => .testB (!m9) (fun h0 => .auto 1 <| .ask E43 (F43_ok 4 a d) fun ⟨o0, o1, o2⟩ => .auto 2 <| .ret (.e0 (.mk (o0 == 0) o1 o2 f i j l m o p q s t u v w y z d0 d1 d2 d3 d4 d5 d6 d7 d8 d9 f0 f1 f2 f3 f4 f5 f6 f7 f8 f9 j0 j1 j2 j3 j4 j5 j6 j7 j8 j9 l0 l1 l2 l3 l4 l5 l6 l7 l8 l9 m0 m1 m2 m3 m4 m5 m6 m7 m8))) (fun h0 => .auto 3 <| .ret (.e0 (.mk false a d f i j l m o p q s t u v w y z d0 d1 d2 d3 d4 d5 d6 d7 d8 d9 f0 f1 f2 f3 f4 f5 f6 f7 f8 f9 j0 j1 j2 j3 j4 j5 j6 j7 j8 j9 l0 l1 l2 l3 l4 l5 l6 l7 l8 l9 m0 m1 m2 m3 m4 m5 m6 m7 m8)))
noncomputable def J69_r18 (y : T69_r18s0) : Option N69_r18 := (D69_r18 y).ev some
theorem J69_r18_ok (y : T69_r18s0) : ∀ b, J69_r18 y = some b → regP Tryz.prog X CC 69 1 B69 18 y.st = some (E69_r18.out b) := by
  cases y; exact reg_ok (E := E69_r18) (fun x => by kernel_rfl)
inductive T69_c105s0 where
  | mk (a d : Bool) (f : LV) (i j l m o p q : Int) (s t u v w y z d0 : Nat) (d1 d2 : Int) (d3 d4 d5 : Nat) (d6 : Bool) (d7 d8 d9 f0 f1 f2 f3 f4 f5 f6 f7 f8 f9 j0 j1 : Int) (j2 : Nat) (j3 : Bool) (j4 : Nat) (j5 j6 j7 j8 j9 : Int) (l0 l1 l2 : Nat) (l3 l4 l5 l6 l7 l8 l9 m0 m1 m2 m3 m4 m5 m6 m7 m8 : LV)
abbrev T69_c105s0.st : T69_c105s0 → S
  | .mk a d f i j l m o p q s t u v w y z d0 d1 d2 d3 d4 d5 d6 d7 d8 d9 f0 f1 f2 f3 f4 f5 f6 f7 f8 f9 j0 j1 j2 j3 j4 j5 j6 j7 j8 j9 l0 l1 l2 l3 l4 l5 l6 l7 l8 l9 m0 m1 m2 m3 m4 m5 m6 m7 m8 => S.mk (pT 0 :: un 4 (vb a :: un 6 (pT 1 :: pT 2 :: un 91 (vb d :: un 24 [])))) [oF 2 [[lS 1 f, i64 i]], oF 50 [[i64 0, i64 0, i64 0, i64 0, i64 0, i64 0, i64 0, hS 3 0, hS 4 0, hS 5 0, hS 6 0, hS 7 0, hS 8 0, hS 9 0, hS 10 0, hS 11 0, vb false, hS 12 0, i64 0, i64 0, hS 13 0, hS 14 0, hS 15 0, vb false, i64 0, i64 0, u8 0, u8 0, u8 0, u8 0, u8 0, u8 0, u8 0, u8 0, i64 0, i64 0, i64 0, i64 0, i64 0, hS 16 0, vb false, hS 17 0, u8 0, u8 0, u8 0, u8 0, i64 0, hS 18 0, hS 19 0, hS 20 0]], oF 50 [[i64 j, i64 l, i64 m, i64 0, i64 o, i64 p, i64 q, hS 21 s, hS 22 t, hS 23 u, hS 24 v, hS 25 w, hS 26 y, hS 27 z, hS 28 0, hS 29 d0, vb false, hS 30 0, i64 d1, i64 d2, hS 31 d3, hS 32 d4, hS 33 d5, vb d6, i64 d7, i64 d8, u8 d9, u8 f0, u8 f1, u8 f2, u8 f3, u8 f4, u8 f5, u8 f6, i64 f7, i64 f8, i64 f9, i64 j0, i64 j1, hS 34 j2, vb j3, hS 35 j4, u8 j5, u8 j6, u8 j7, u8 j8, i64 j9, hS 36 l0, hS 37 l1, hS 38 l2]], oT 7 [], oT 7 [], oT 7 [], oT 7 [], oT 7 [], oT 7 [], oT 7 [], oT 7 [], oT 7 [], oT 2 [], oT 7 [], oT 7 [], oT 8 [], oT 10 [], oT 7 [], oT 1 [], oT 7 [], oT 7 [], oT 7 l3, oT 7 l4, oT 7 l5, oT 7 l6, oT 7 l7, oT 7 l8, oT 7 l9, oT 7 [], oT 7 m0, oT 2 [], oT 7 m1, oT 7 m2, oT 8 m3, oT 10 m4, oT 7 m5, oT 1 m6, oT 7 m7, oT 7 m8]
inductive T69_c105e0 where
  | mk (a : Bool) (d : LV) (f i j l m o p : Int) (q s t u v w y z d0 : Nat) (d1 d2 : Int) (d3 d4 d5 : Nat) (d6 : Bool) (d7 d8 d9 f0 f1 f2 f3 f4 f5 f6 f7 f8 f9 j0 j1 : Int) (j2 : Nat) (j3 : Bool) (j4 : Nat) (j5 j6 j7 j8 j9 : Int) (l0 l1 l2 : Nat) (l3 l4 l5 l6 l7 l8 l9 m0 m1 m2 m3 m4 m5 m6 m7 m8 m9 : LV)
inductive N69_c105 where
  | e0 (x : T69_c105e0)
abbrev N69_c105.out : N69_c105 → VX × S
  | .e0 (.mk a d f i j l m o p q s t u v w y z d0 d1 d2 d3 d4 d5 d6 d7 d8 d9 f0 f1 f2 f3 f4 f5 f6 f7 f8 f9 j0 j1 j2 j3 j4 j5 j6 j7 j8 j9 l0 l1 l2 l3 l4 l5 l6 l7 l8 l9 m0 m1 m2 m3 m4 m5 m6 m7 m8 m9) => (vN, S.mk (pT 0 :: un 4 (vb a :: un 6 (pT 1 :: pT 2 :: un 116 []))) [oF 2 [[lS 1 d, i64 f]], oF 50 [[i64 0, i64 0, i64 0, i64 0, i64 0, i64 0, i64 0, hS 3 0, hS 4 0, hS 5 0, hS 6 0, hS 7 0, hS 8 0, hS 9 0, hS 10 0, hS 11 0, vb false, hS 12 0, i64 0, i64 0, hS 13 0, hS 14 0, hS 15 0, vb false, i64 0, i64 0, u8 0, u8 0, u8 0, u8 0, u8 0, u8 0, u8 0, u8 0, i64 0, i64 0, i64 0, i64 0, i64 0, hS 16 0, vb false, hS 17 0, u8 0, u8 0, u8 0, u8 0, i64 0, hS 18 0, hS 19 0, hS 20 0]], oF 50 [[i64 i, i64 j, i64 l, i64 0, i64 m, i64 o, i64 p, hS 21 q, hS 22 s, hS 23 t, hS 24 u, hS 25 v, hS 26 w, hS 27 y, hS 28 z, hS 29 d0, vb false, hS 30 0, i64 d1, i64 d2, hS 31 d3, hS 32 d4, hS 33 d5, vb d6, i64 d7, i64 d8, u8 d9, u8 f0, u8 f1, u8 f2, u8 f3, u8 f4, u8 f5, u8 f6, i64 f7, i64 f8, i64 f9, i64 j0, i64 j1, hS 34 j2, vb j3, hS 35 j4, u8 j5, u8 j6, u8 j7, u8 j8, i64 j9, hS 36 l0, hS 37 l1, hS 38 l2]], oT 7 [], oT 7 [], oT 7 [], oT 7 [], oT 7 [], oT 7 [], oT 7 [], oT 7 [], oT 7 [], oT 2 [], oT 7 [], oT 7 [], oT 8 [], oT 10 [], oT 7 [], oT 1 [], oT 7 [], oT 7 [], oT 7 l3, oT 7 l4, oT 7 l5, oT 7 l6, oT 7 l7, oT 7 l8, oT 7 l9, oT 7 m0, oT 7 m1, oT 2 [], oT 7 m2, oT 7 m3, oT 8 m4, oT 10 m5, oT 7 m6, oT 1 m7, oT 7 m8, oT 7 m9])
abbrev E69_c105 := Ent.o1 N69_c105.out .e0 fun ⟨x⟩ => ⟨x, rfl⟩
noncomputable def D69_c105 : T69_c105s0 → PT N69_c105 | .mk a m8 d f i j l m o p q s t u v w y z d0 d1 d2 d3 d4 d5 d6 d7 d8 d9 f0 f1 f2 f3 f4 f5 f6 f7 f8 f9 j0 j1 j2 j3 j4 j5 j6 j7 j8 j9 l0 l1 l2 l3 l4 l5 l6 l7 l8 l9 m0 m1 m2 m3 m4 m5 m6 m7 => .testB m8 (fun h0 => .ask E46 (F46_ok 0 1 d f) fun ⟨m9, o0, o1, o2⟩ => .auto 1 <| .ret (.e0 (.mk a o0 o1 i j l m o p q s t u v w y m9 z d0 d1 d2 d3 d4 d5 d6 d7 d8 d9 f0 f1 f2 f3 f4 f5 f6 f7 f8 f9 j0 j1 j2 j3 j4 j5 j6 j7 j8 j9 l0 l1 l2 l3 l4 l5 l6 l7 l8 o2 l9 m0 m1 m2 m3 m4 m5 m6 m7))) (fun h0 => .ret (.e0 (.mk a d f i j l m o p q s t u v w y 0 z d0 d1 d2 d3 d4 d5 d6 d7 d8 d9 f0 f1 f2 f3 f4 f5 f6 f7 f8 f9 j0 j1 j2 j3 j4 j5 j6 j7 j8 j9 l0 l1 l2 l3 l4 l5 l6 l7 l8 ([]) l9 m0 m1 m2 m3 m4 m5 m6 m7)))
noncomputable def J69_c105 (y : T69_c105s0) : Option N69_c105 := (D69_c105 y).ev some
theorem J69_c105_ok (y : T69_c105s0) : CU 69 1 B69 105 E69_c105 (J69_c105 y) y.st := by
  cases y; exact cond_ok (L := notIn []) fun x => by kernel_rfl
inductive T69_c99s0 where
  | mk (a d : Bool) (f : LV) (i j l m o p q : Int) (s t u v w y z : Nat) (d0 d1 : Int) (d2 d3 d4 : Nat) (d5 : Bool) (d6 d7 d8 d9 f0 f1 f2 f3 f4 f5 f6 f7 f8 f9 j0 : Int) (j1 : Nat) (j2 : Bool) (j3 : Nat) (j4 j5 j6 j7 j8 : Int) (j9 l0 l1 : Nat) (l2 l3 l4 l5 l6 l7 l8 l9 m0 m1 m2 m3 m4 m5 m6 : LV)
abbrev T69_c99s0.st : T69_c99s0 → S
  | .mk a d f i j l m o p q s t u v w y z d0 d1 d2 d3 d4 d5 d6 d7 d8 d9 f0 f1 f2 f3 f4 f5 f6 f7 f8 f9 j0 j1 j2 j3 j4 j5 j6 j7 j8 j9 l0 l1 l2 l3 l4 l5 l6 l7 l8 l9 m0 m1 m2 m3 m4 m5 m6 => S.mk (pT 0 :: un 4 (vb a :: un 6 (pT 1 :: pT 2 :: un 85 (vb d :: un 30 [])))) [oF 2 [[lS 1 f, i64 i]], oF 50 [[i64 0, i64 0, i64 0, i64 0, i64 0, i64 0, i64 0, hS 3 0, hS 4 0, hS 5 0, hS 6 0, hS 7 0, hS 8 0, hS 9 0, hS 10 0, hS 11 0, vb false, hS 12 0, i64 0, i64 0, hS 13 0, hS 14 0, hS 15 0, vb false, i64 0, i64 0, u8 0, u8 0, u8 0, u8 0, u8 0, u8 0, u8 0, u8 0, i64 0, i64 0, i64 0, i64 0, i64 0, hS 16 0, vb false, hS 17 0, u8 0, u8 0, u8 0, u8 0, i64 0, hS 18 0, hS 19 0, hS 20 0]], oF 50 [[i64 j, i64 l, i64 m, i64 0, i64 o, i64 p, i64 q, hS 21 s, hS 22 t, hS 23 u, hS 24 v, hS 25 w, hS 26 y, hS 27 0, hS 28 0, hS 29 z, vb false, hS 30 0, i64 d0, i64 d1, hS 31 d2, hS 32 d3, hS 33 d4, vb d5, i64 d6, i64 d7, u8 d8, u8 d9, u8 f0, u8 f1, u8 f2, u8 f3, u8 f4, u8 f5, i64 f6, i64 f7, i64 f8, i64 f9, i64 j0, hS 34 j1, vb j2, hS 35 j3, u8 j4, u8 j5, u8 j6, u8 j7, i64 j8, hS 36 j9, hS 37 l0, hS 38 l1]], oT 7 [], oT 7 [], oT 7 [], oT 7 [], oT 7 [], oT 7 [], oT 7 [], oT 7 [], oT 7 [], oT 2 [], oT 7 [], oT 7 [], oT 8 [], oT 10 [], oT 7 [], oT 1 [], oT 7 [], oT 7 [], oT 7 l2, oT 7 l3, oT 7 l4, oT 7 l5, oT 7 l6, oT 7 l7, oT 7 [], oT 7 [], oT 7 l8, oT 2 [], oT 7 l9, oT 7 m0, oT 8 m1, oT 10 m2, oT 7 m3, oT 1 m4, oT 7 m5, oT 7 m6]
inductive T69_c99e0 where
  | mk (a : Bool) (d : LV) (f i j l m o p : Int) (q s t u v w y z : Nat) (d0 d1 : Int) (d2 d3 d4 : Nat) (d5 : Bool) (d6 d7 d8 d9 f0 f1 f2 f3 f4 f5 f6 f7 f8 f9 j0 : Int) (j1 : Nat) (j2 : Bool) (j3 : Nat) (j4 j5 j6 j7 j8 : Int) (j9 l0 l1 : Nat) (l2 l3 l4 l5 l6 l7 l8 l9 m0 m1 m2 m3 m4 m5 m6 m7 : LV)
inductive N69_c99 where
  | e0 (x : T69_c99e0)
abbrev N69_c99.out : N69_c99 → VX × S
  | .e0 (.mk a d f i j l m o p q s t u v w y z d0 d1 d2 d3 d4 d5 d6 d7 d8 d9 f0 f1 f2 f3 f4 f5 f6 f7 f8 f9 j0 j1 j2 j3 j4 j5 j6 j7 j8 j9 l0 l1 l2 l3 l4 l5 l6 l7 l8 l9 m0 m1 m2 m3 m4 m5 m6 m7) => (vN, S.mk (pT 0 :: un 4 (vb a :: un 6 (pT 1 :: pT 2 :: un 116 []))) [oF 2 [[lS 1 d, i64 f]], oF 50 [[i64 0, i64 0, i64 0, i64 0, i64 0, i64 0, i64 0, hS 3 0, hS 4 0, hS 5 0, hS 6 0, hS 7 0, hS 8 0, hS 9 0, hS 10 0, hS 11 0, vb false, hS 12 0, i64 0, i64 0, hS 13 0, hS 14 0, hS 15 0, vb false, i64 0, i64 0, u8 0, u8 0, u8 0, u8 0, u8 0, u8 0, u8 0, u8 0, i64 0, i64 0, i64 0, i64 0, i64 0, hS 16 0, vb false, hS 17 0, u8 0, u8 0, u8 0, u8 0, i64 0, hS 18 0, hS 19 0, hS 20 0]], oF 50 [[i64 i, i64 j, i64 l, i64 0, i64 m, i64 o, i64 p, hS 21 q, hS 22 s, hS 23 t, hS 24 u, hS 25 v, hS 26 w, hS 27 y, hS 28 0, hS 29 z, vb false, hS 30 0, i64 d0, i64 d1, hS 31 d2, hS 32 d3, hS 33 d4, vb d5, i64 d6, i64 d7, u8 d8, u8 d9, u8 f0, u8 f1, u8 f2, u8 f3, u8 f4, u8 f5, i64 f6, i64 f7, i64 f8, i64 f9, i64 j0, hS 34 j1, vb j2, hS 35 j3, u8 j4, u8 j5, u8 j6, u8 j7, i64 j8, hS 36 j9, hS 37 l0, hS 38 l1]], oT 7 [], oT 7 [], oT 7 [], oT 7 [], oT 7 [], oT 7 [], oT 7 [], oT 7 [], oT 7 [], oT 2 [], oT 7 [], oT 7 [], oT 8 [], oT 10 [], oT 7 [], oT 1 [], oT 7 [], oT 7 [], oT 7 l2, oT 7 l3, oT 7 l4, oT 7 l5, oT 7 l6, oT 7 l7, oT 7 l8, oT 7 [], oT 7 l9, oT 2 [], oT 7 m0, oT 7 m1, oT 8 m2, oT 10 m3, oT 7 m4, oT 1 m5, oT 7 m6, oT 7 m7])
abbrev E69_c99 := Ent.o1 N69_c99.out .e0 fun ⟨x⟩ => ⟨x, rfl⟩
noncomputable def D69_c99 : T69_c99s0 → PT N69_c99 | .mk a m6 d f i j l m o p q s t u v w y z d0 d1 d2 d3 d4 d5 d6 d7 d8 d9 f0 f1 f2 f3 f4 f5 f6 f7 f8 f9 j0 j1 j2 j3 j4 j5 j6 j7 j8 j9 l0 l1 l2 l3 l4 l5 l6 l7 l8 l9 m0 m1 m2 m3 m4 m5 => .testB m6 (fun h0 => .ask E46 (F46_ok (-200) 400 d f) fun ⟨m7, m8, m9, o0⟩ => .auto 1 <| .ret (.e0 (.mk a m8 m9 i j l m o p q s t u v w m7 y z d0 d1 d2 d3 d4 d5 d6 d7 d8 d9 f0 f1 f2 f3 f4 f5 f6 f7 f8 f9 j0 j1 j2 j3 j4 j5 j6 j7 j8 j9 l0 l1 l2 l3 l4 l5 l6 o0 l7 l8 l9 m0 m1 m2 m3 m4 m5))) (fun h0 => .ret (.e0 (.mk a d f i j l m o p q s t u v w 0 y z d0 d1 d2 d3 d4 d5 d6 d7 d8 d9 f0 f1 f2 f3 f4 f5 f6 f7 f8 f9 j0 j1 j2 j3 j4 j5 j6 j7 j8 j9 l0 l1 l2 l3 l4 l5 l6 ([]) l7 l8 l9 m0 m1 m2 m3 m4 m5)))
noncomputable def J69_c99 (y : T69_c99s0) : Option N69_c99 := (D69_c99 y).ev some
theorem J69_c99_ok (y : T69_c99s0) : CU 69 1 B69 99 E69_c99 (J69_c99 y) y.st := by
  cases y; exact cond_ok (L := notIn []) fun x => by kernel_rfl
inductive T69_c84s0 where
  | mk (a d : Bool) (f : LV) (i j l m o p q : Int) (s t u : Nat) (v w : Int) (y z d0 : Nat) (d1 : Bool) (d2 d3 d4 d5 d6 d7 d8 d9 f0 f1 f2 f3 f4 f5 f6 : Int) (f7 : Nat) (f8 : Bool) (f9 : Nat) (j0 j1 j2 j3 j4 : Int) (j5 j6 j7 : Nat) (j8 j9 l0 l1 l2 l3 l4 l5 l6 l7 l8 : LV)
abbrev T69_c84s0.st : T69_c84s0 → S
  | .mk a d f i j l m o p q s t u v w y z d0 d1 d2 d3 d4 d5 d6 d7 d8 d9 f0 f1 f2 f3 f4 f5 f6 f7 f8 f9 j0 j1 j2 j3 j4 j5 j6 j7 j8 j9 l0 l1 l2 l3 l4 l5 l6 l7 l8 => S.mk (pT 0 :: un 4 (vb a :: un 6 (pT 1 :: pT 2 :: un 70 (vb d :: un 45 [])))) [oF 2 [[lS 1 f, i64 i]], oF 50 [[i64 0, i64 0, i64 0, i64 0, i64 0, i64 0, i64 0, hS 3 0, hS 4 0, hS 5 0, hS 6 0, hS 7 0, hS 8 0, hS 9 0, hS 10 0, hS 11 0, vb false, hS 12 0, i64 0, i64 0, hS 13 0, hS 14 0, hS 15 0, vb false, i64 0, i64 0, u8 0, u8 0, u8 0, u8 0, u8 0, u8 0, u8 0, u8 0, i64 0, i64 0, i64 0, i64 0, i64 0, hS 16 0, vb false, hS 17 0, u8 0, u8 0, u8 0, u8 0, i64 0, hS 18 0, hS 19 0, hS 20 0]], oF 50 [[i64 j, i64 l, i64 m, i64 0, i64 o, i64 p, i64 q, hS 21 s, hS 22 t, hS 23 0, hS 24 0, hS 25 0, hS 26 0, hS 27 0, hS 28 0, hS 29 u, vb false, hS 30 0, i64 v, i64 w, hS 31 y, hS 32 z, hS 33 d0, vb d1, i64 d2, i64 d3, u8 d4, u8 d5, u8 d6, u8 d7, u8 d8, u8 d9, u8 f0, u8 f1, i64 f2, i64 f3, i64 f4, i64 f5, i64 f6, hS 34 f7, vb f8, hS 35 f9, u8 j0, u8 j1, u8 j2, u8 j3, i64 j4, hS 36 j5, hS 37 j6, hS 38 j7]], oT 7 [], oT 7 [], oT 7 [], oT 7 [], oT 7 [], oT 7 [], oT 7 [], oT 7 [], oT 7 [], oT 2 [], oT 7 [], oT 7 [], oT 8 [], oT 10 [], oT 7 [], oT 1 [], oT 7 [], oT 7 [], oT 7 j8, oT 7 j9, oT 7 [], oT 7 [], oT 7 [], oT 7 [], oT 7 [], oT 7 [], oT 7 l0, oT 2 [], oT 7 l1, oT 7 l2, oT 8 l3, oT 10 l4, oT 7 l5, oT 1 l6, oT 7 l7, oT 7 l8]
inductive T69_c84e0 where
  | mk (a : Bool) (d : LV) (f i j l m o p : Int) (q s t u v w y : Nat) (z d0 : Int) (d1 d2 d3 : Nat) (d4 : Bool) (d5 d6 d7 d8 d9 f0 f1 f2 f3 f4 f5 f6 f7 f8 f9 : Int) (j0 : Nat) (j1 : Bool) (j2 : Nat) (j3 j4 j5 j6 j7 : Int) (j8 j9 l0 : Nat) (l1 l2 l3 l4 l5 l6 l7 l8 l9 m0 m1 m2 m3 m4 m5 : LV)
inductive N69_c84 where
  | e0 (x : T69_c84e0)
abbrev N69_c84.out : N69_c84 → VX × S
  | .e0 (.mk a d f i j l m o p q s t u v w y z d0 d1 d2 d3 d4 d5 d6 d7 d8 d9 f0 f1 f2 f3 f4 f5 f6 f7 f8 f9 j0 j1 j2 j3 j4 j5 j6 j7 j8 j9 l0 l1 l2 l3 l4 l5 l6 l7 l8 l9 m0 m1 m2 m3 m4 m5) => (vN, S.mk (pT 0 :: un 4 (vb a :: un 6 (pT 1 :: pT 2 :: un 116 []))) [oF 2 [[lS 1 d, i64 f]], oF 50 [[i64 0, i64 0, i64 0, i64 0, i64 0, i64 0, i64 0, hS 3 0, hS 4 0, hS 5 0, hS 6 0, hS 7 0, hS 8 0, hS 9 0, hS 10 0, hS 11 0, vb false, hS 12 0, i64 0, i64 0, hS 13 0, hS 14 0, hS 15 0, vb false, i64 0, i64 0, u8 0, u8 0, u8 0, u8 0, u8 0, u8 0, u8 0, u8 0, i64 0, i64 0, i64 0, i64 0, i64 0, hS 16 0, vb false, hS 17 0, u8 0, u8 0, u8 0, u8 0, i64 0, hS 18 0, hS 19 0, hS 20 0]], oF 50 [[i64 i, i64 j, i64 l, i64 0, i64 m, i64 o, i64 p, hS 21 q, hS 22 s, hS 23 t, hS 24 u, hS 25 v, hS 26 w, hS 27 0, hS 28 0, hS 29 y, vb false, hS 30 0, i64 z, i64 d0, hS 31 d1, hS 32 d2, hS 33 d3, vb d4, i64 d5, i64 d6, u8 d7, u8 d8, u8 d9, u8 f0, u8 f1, u8 f2, u8 f3, u8 f4, i64 f5, i64 f6, i64 f7, i64 f8, i64 f9, hS 34 j0, vb j1, hS 35 j2, u8 j3, u8 j4, u8 j5, u8 j6, i64 j7, hS 36 j8, hS 37 j9, hS 38 l0]], oT 7 [], oT 7 [], oT 7 [], oT 7 [], oT 7 [], oT 7 [], oT 7 [], oT 7 [], oT 7 [], oT 2 [], oT 7 [], oT 7 [], oT 8 [], oT 10 [], oT 7 [], oT 1 [], oT 7 [], oT 7 [], oT 7 l1, oT 7 l2, oT 7 l3, oT 7 l4, oT 7 l5, oT 7 l6, oT 7 [], oT 7 [], oT 7 l7, oT 2 [], oT 7 l8, oT 7 l9, oT 8 m0, oT 10 m1, oT 7 m2, oT 1 m3, oT 7 m4, oT 7 m5])
abbrev E69_c84 := Ent.o1 N69_c84.out .e0 fun ⟨x⟩ => ⟨x, rfl⟩
noncomputable def D69_c84 : T69_c84s0 → PT N69_c84 | .mk a l8 d f i j l m o p q s t u v w y z d0 d1 d2 d3 d4 d5 d6 d7 d8 d9 f0 f1 f2 f3 f4 f5 f6 f7 f8 f9 j0 j1 j2 j3 j4 j5 j6 j7 j8 j9 l0 l1 l2 l3 l4 l5 l6 l7 => .testB l8 (fun h0 => .ask E46 (F46_ok (-3) 3 d f) fun ⟨l9, m0, m1, m2⟩ => .ask E46 (F46_ok (-3) 3 m0 m1) fun ⟨m3, m4, m5, m6⟩ => .ask E46 (F46_ok 0 2 m4 m5) fun ⟨m7, m8, m9, o0⟩ => .ask E46 (F46_ok (-1) 2 m8 m9) fun ⟨o1, o2, o3, o4⟩ => .auto 4 <| .ret (.e0 (.mk a o2 o3 i j l m o p q s l9 m3 m7 o1 t u v w y z d0 d1 d2 d3 d4 d5 d6 d7 d8 d9 f0 f1 f2 f3 f4 f5 f6 f7 f8 f9 j0 j1 j2 j3 j4 j5 j6 j7 j8 m2 m6 o0 o4 j9 l0 l1 l2 l3 l4 l5 l6 l7))) (fun h0 => .ret (.e0 (.mk a d f i j l m o p q s 0 0 0 0 t u v w y z d0 d1 d2 d3 d4 d5 d6 d7 d8 d9 f0 f1 f2 f3 f4 f5 f6 f7 f8 f9 j0 j1 j2 j3 j4 j5 j6 j7 j8 ([]) ([]) ([]) ([]) j9 l0 l1 l2 l3 l4 l5 l6 l7)))
noncomputable def J69_c84 (y : T69_c84s0) : Option N69_c84 := (D69_c84 y).ev some
theorem J69_c84_ok (y : T69_c84s0) : CU 69 1 B69 84 E69_c84 (J69_c84 y) y.st := by
  cases y; exact cond_ok (L := notIn []) fun x => by kernel_rfl
inductive T69_c75s0 where
  | mk (a d : Bool) (f : LV) (i j l m o p q : Int) (s : Nat) (t u : Int) (v w y : Nat) (z : Bool) (d0 d1 d2 d3 d4 d5 d6 d7 d8 d9 f0 f1 f2 f3 f4 : Int) (f5 : Nat) (f6 : Bool) (f7 : Nat) (f8 f9 j0 j1 j2 : Int) (j3 j4 j5 : Nat) (j6 j7 j8 j9 l0 l1 l2 l3 l4 : LV)
abbrev T69_c75s0.st : T69_c75s0 → S
  | .mk a d f i j l m o p q s t u v w y z d0 d1 d2 d3 d4 d5 d6 d7 d8 d9 f0 f1 f2 f3 f4 f5 f6 f7 f8 f9 j0 j1 j2 j3 j4 j5 j6 j7 j8 j9 l0 l1 l2 l3 l4 => S.mk (pT 0 :: un 4 (vb a :: un 6 (pT 1 :: pT 2 :: un 61 (vb d :: un 54 [])))) [oF 2 [[lS 1 f, i64 i]], oF 50 [[i64 0, i64 0, i64 0, i64 0, i64 0, i64 0, i64 0, hS 3 0, hS 4 0, hS 5 0, hS 6 0, hS 7 0, hS 8 0, hS 9 0, hS 10 0, hS 11 0, vb false, hS 12 0, i64 0, i64 0, hS 13 0, hS 14 0, hS 15 0, vb false, i64 0, i64 0, u8 0, u8 0, u8 0, u8 0, u8 0, u8 0, u8 0, u8 0, i64 0, i64 0, i64 0, i64 0, i64 0, hS 16 0, vb false, hS 17 0, u8 0, u8 0, u8 0, u8 0, i64 0, hS 18 0, hS 19 0, hS 20 0]], oF 50 [[i64 j, i64 l, i64 m, i64 0, i64 o, i64 p, i64 q, hS 21 0, hS 22 0, hS 23 0, hS 24 0, hS 25 0, hS 26 0, hS 27 0, hS 28 0, hS 29 s, vb false, hS 30 0, i64 t, i64 u, hS 31 v, hS 32 w, hS 33 y, vb z, i64 d0, i64 d1, u8 d2, u8 d3, u8 d4, u8 d5, u8 d6, u8 d7, u8 d8, u8 d9, i64 f0, i64 f1, i64 f2, i64 f3, i64 f4, hS 34 f5, vb f6, hS 35 f7, u8 f8, u8 f9, u8 j0, u8 j1, i64 j2, hS 36 j3, hS 37 j4, hS 38 j5]], oT 7 [], oT 7 [], oT 7 [], oT 7 [], oT 7 [], oT 7 [], oT 7 [], oT 7 [], oT 7 [], oT 2 [], oT 7 [], oT 7 [], oT 8 [], oT 10 [], oT 7 [], oT 1 [], oT 7 [], oT 7 [], oT 7 [], oT 7 [], oT 7 [], oT 7 [], oT 7 [], oT 7 [], oT 7 [], oT 7 [], oT 7 j6, oT 2 [], oT 7 j7, oT 7 j8, oT 8 j9, oT 10 l0, oT 7 l1, oT 1 l2, oT 7 l3, oT 7 l4]
inductive T69_c75e0 where
  | mk (a : Bool) (d : LV) (f i j l m o p : Int) (q s t : Nat) (u v : Int) (w y z : Nat) (d0 : Bool) (d1 d2 d3 d4 d5 d6 d7 d8 d9 f0 f1 f2 f3 f4 f5 : Int) (f6 : Nat) (f7 : Bool) (f8 : Nat) (f9 j0 j1 j2 j3 : Int) (j4 j5 j6 : Nat) (j7 j8 j9 l0 l1 l2 l3 l4 l5 l6 l7 : LV)
inductive N69_c75 where
  | e0 (x : T69_c75e0)
abbrev N69_c75.out : N69_c75 → VX × S
  | .e0 (.mk a d f i j l m o p q s t u v w y z d0 d1 d2 d3 d4 d5 d6 d7 d8 d9 f0 f1 f2 f3 f4 f5 f6 f7 f8 f9 j0 j1 j2 j3 j4 j5 j6 j7 j8 j9 l0 l1 l2 l3 l4 l5 l6 l7) => (vN, S.mk (pT 0 :: un 4 (vb a :: un 6 (pT 1 :: pT 2 :: un 116 []))) [oF 2 [[lS 1 d, i64 f]], oF 50 [[i64 0, i64 0, i64 0, i64 0, i64 0, i64 0, i64 0, hS 3 0, hS 4 0, hS 5 0, hS 6 0, hS 7 0, hS 8 0, hS 9 0, hS 10 0, hS 11 0, vb false, hS 12 0, i64 0, i64 0, hS 13 0, hS 14 0, hS 15 0, vb false, i64 0, i64 0, u8 0, u8 0, u8 0, u8 0, u8 0, u8 0, u8 0, u8 0, i64 0, i64 0, i64 0, i64 0, i64 0, hS 16 0, vb false, hS 17 0, u8 0, u8 0, u8 0, u8 0, i64 0, hS 18 0, hS 19 0, hS 20 0]], oF 50 [[i64 i, i64 j, i64 l, i64 0, i64 m, i64 o, i64 p, hS 21 q, hS 22 s, hS 23 0, hS 24 0, hS 25 0, hS 26 0, hS 27 0, hS 28 0, hS 29 t, vb false, hS 30 0, i64 u, i64 v, hS 31 w, hS 32 y, hS 33 z, vb d0, i64 d1, i64 d2, u8 d3, u8 d4, u8 d5, u8 d6, u8 d7, u8 d8, u8 d9, u8 f0, i64 f1, i64 f2, i64 f3, i64 f4, i64 f5, hS 34 f6, vb f7, hS 35 f8, u8 f9, u8 j0, u8 j1, u8 j2, i64 j3, hS 36 j4, hS 37 j5, hS 38 j6]], oT 7 [], oT 7 [], oT 7 [], oT 7 [], oT 7 [], oT 7 [], oT 7 [], oT 7 [], oT 7 [], oT 2 [], oT 7 [], oT 7 [], oT 8 [], oT 10 [], oT 7 [], oT 1 [], oT 7 [], oT 7 [], oT 7 j7, oT 7 j8, oT 7 [], oT 7 [], oT 7 [], oT 7 [], oT 7 [], oT 7 [], oT 7 j9, oT 2 [], oT 7 l0, oT 7 l1, oT 8 l2, oT 10 l3, oT 7 l4, oT 1 l5, oT 7 l6, oT 7 l7])
abbrev E69_c75 := Ent.o1 N69_c75.out .e0 fun ⟨x⟩ => ⟨x, rfl⟩
noncomputable def D69_c75 : T69_c75s0 → PT N69_c75 | .mk a l4 d f i j l m o p q s t u v w y z d0 d1 d2 d3 d4 d5 d6 d7 d8 d9 f0 f1 f2 f3 f4 f5 f6 f7 f8 f9 j0 j1 j2 j3 j4 j5 j6 j7 j8 j9 l0 l1 l2 l3 => .testB l4 (fun h0 => .ask E46 (F46_ok 0 14 d f) fun ⟨l5, l6, l7, l8⟩ => .ask E46 (F46_ok 0 14 l6 l7) fun ⟨l9, m0, m1, m2⟩ => .auto 2 <| .ret (.e0 (.mk a m0 m1 i j l m o p l5 l9 q s t u v w y z d0 d1 d2 d3 d4 d5 d6 d7 d8 d9 f0 f1 f2 f3 f4 f5 f6 f7 f8 f9 j0 j1 j2 j3 j4 l8 m2 j5 j6 j7 j8 j9 l0 l1 l2 l3))) (fun h0 => .ret (.e0 (.mk a d f i j l m o p 0 0 q s t u v w y z d0 d1 d2 d3 d4 d5 d6 d7 d8 d9 f0 f1 f2 f3 f4 f5 f6 f7 f8 f9 j0 j1 j2 j3 j4 ([]) ([]) j5 j6 j7 j8 j9 l0 l1 l2 l3)))
noncomputable def J69_c75 (y : T69_c75s0) : Option N69_c75 := (D69_c75 y).ev some
theorem J69_c75_ok (y : T69_c75s0) : CU 69 1 B69 75 E69_c75 (J69_c75 y) y.st := by
  cases y; exact cond_ok (L := notIn []) fun x => by kernel_rfl
inductive T69_c61s0 where
  | mk (a d : Bool) (f : LV) (i j l m o p : Int)
abbrev T69_c61s0.st : T69_c61s0 → S
  | .mk a d f i j l m o p => S.mk (pT 0 :: un 4 (vb a :: un 6 (pT 1 :: pT 2 :: un 47 (vb d :: un 68 [])))) [oF 2 [[lS 1 f, i64 i]], oF 50 [[i64 0, i64 0, i64 0, i64 0, i64 0, i64 0, i64 0, hS 3 0, hS 4 0, hS 5 0, hS 6 0, hS 7 0, hS 8 0, hS 9 0, hS 10 0, hS 11 0, vb false, hS 12 0, i64 0, i64 0, hS 13 0, hS 14 0, hS 15 0, vb false, i64 0, i64 0, u8 0, u8 0, u8 0, u8 0, u8 0, u8 0, u8 0, u8 0, i64 0, i64 0, i64 0, i64 0, i64 0, hS 16 0, vb false, hS 17 0, u8 0, u8 0, u8 0, u8 0, i64 0, hS 18 0, hS 19 0, hS 20 0]], oF 50 [[i64 1, i64 j, i64 l, i64 0, i64 m, i64 o, i64 p, hS 21 0, hS 22 0, hS 23 0, hS 24 0, hS 25 0, hS 26 0, hS 27 0, hS 28 0, hS 29 0, vb false, hS 30 0, i64 0, i64 0, hS 31 0, hS 32 0, hS 33 0, vb false, i64 0, i64 0, u8 0, u8 0, u8 0, u8 0, u8 0, u8 0, u8 0, u8 0, i64 0, i64 0, i64 0, i64 0, i64 0, hS 34 0, vb false, hS 35 0, u8 0, u8 0, u8 0, u8 0, i64 0, hS 36 0, hS 37 0, hS 38 0]], oT 7 [], oT 7 [], oT 7 [], oT 7 [], oT 7 [], oT 7 [], oT 7 [], oT 7 [], oT 7 [], oT 2 [], oT 7 [], oT 7 [], oT 8 [], oT 10 [], oT 7 [], oT 1 [], oT 7 [], oT 7 [], oT 7 [], oT 7 [], oT 7 [], oT 7 [], oT 7 [], oT 7 [], oT 7 [], oT 7 [], oT 7 [], oT 2 [], oT 7 [], oT 7 [], oT 8 [], oT 10 [], oT 7 [], oT 1 [], oT 7 [], oT 7 []]
inductive T69_c61e0 where
  | mk (a : Bool) (d : LV) (f i j l m o : Int) (p : Nat) (q : LV)
inductive N69_c61 where
  | e0 (x : T69_c61e0)
abbrev N69_c61.out : N69_c61 → VX × S
  | .e0 (.mk a d f i j l m o p q) => (vN, S.mk (pT 0 :: un 4 (vb a :: un 6 (pT 1 :: pT 2 :: un 116 []))) [oF 2 [[lS 1 d, i64 f]], oF 50 [[i64 0, i64 0, i64 0, i64 0, i64 0, i64 0, i64 0, hS 3 0, hS 4 0, hS 5 0, hS 6 0, hS 7 0, hS 8 0, hS 9 0, hS 10 0, hS 11 0, vb false, hS 12 0, i64 0, i64 0, hS 13 0, hS 14 0, hS 15 0, vb false, i64 0, i64 0, u8 0, u8 0, u8 0, u8 0, u8 0, u8 0, u8 0, u8 0, i64 0, i64 0, i64 0, i64 0, i64 0, hS 16 0, vb false, hS 17 0, u8 0, u8 0, u8 0, u8 0, i64 0, hS 18 0, hS 19 0, hS 20 0]], oF 50 [[i64 1, i64 i, i64 j, i64 0, i64 l, i64 m, i64 o, hS 21 0, hS 22 0, hS 23 0, hS 24 0, hS 25 0, hS 26 0, hS 27 0, hS 28 0, hS 29 p, vb false, hS 30 0, i64 0, i64 0, hS 31 0, hS 32 0, hS 33 0, vb false, i64 0, i64 0, u8 0, u8 0, u8 0, u8 0, u8 0, u8 0, u8 0, u8 0, i64 0, i64 0, i64 0, i64 0, i64 0, hS 34 0, vb false, hS 35 0, u8 0, u8 0, u8 0, u8 0, i64 0, hS 36 0, hS 37 0, hS 38 0]], oT 7 [], oT 7 [], oT 7 [], oT 7 [], oT 7 [], oT 7 [], oT 7 [], oT 7 [], oT 7 [], oT 2 [], oT 7 [], oT 7 [], oT 8 [], oT 10 [], oT 7 [], oT 1 [], oT 7 [], oT 7 [], oT 7 [], oT 7 [], oT 7 [], oT 7 [], oT 7 [], oT 7 [], oT 7 [], oT 7 [], oT 7 q, oT 2 [], oT 7 [], oT 7 [], oT 8 [], oT 10 [], oT 7 [], oT 1 [], oT 7 [], oT 7 []])
abbrev E69_c61 := Ent.o1 N69_c61.out .e0 fun ⟨x⟩ => ⟨x, rfl⟩
noncomputable def D69_c61 : T69_c61s0 → PT N69_c61 | .mk a p d f i j l m o => .testB p (fun h0 => .ask E43 (F43_ok 6 d f) fun ⟨q, s, t⟩ => .ask E43 (F43_ok 20 s t) fun ⟨u, v, w⟩ => .auto 1 <| .ret (.e0 (.mk a v w i j l m o 2 ([[i64 0, i64 q, i64 1, i64 0, i64 0, i64 0, i64 0], [i64 10, i64 u, i64 0, i64 0, i64 0, i64 0, i64 0]])))) (fun h0 => .ret (.e0 (.mk a d f i j l m o 0 ([]))))
noncomputable def J69_c61 (y : T69_c61s0) : Option N69_c61 := (D69_c61 y).ev some
theorem J69_c61_ok (y : T69_c61s0) : CU 69 1 B69 61 E69_c61 (J69_c61 y) y.st := by
  cases y; exact cond_ok (L := notIn []) fun x => by kernel_rfl
inductive T69_c47s0 where
  | mk (a d : Int) (f i : Bool) (j : LV) (l m o p q : Int)
abbrev T69_c47s0.st : T69_c47s0 → S
  | .mk a d f i j l m o p q => S.mk (pT 0 :: U :: U :: i64 a :: i64 d :: vb f :: un 6 (pT 1 :: pT 2 :: un 33 (vb i :: un 82 []))) [oF 2 [[lS 1 j, i64 l]], oF 50 [[i64 0, i64 0, i64 0, i64 0, i64 0, i64 0, i64 0, hS 3 0, hS 4 0, hS 5 0, hS 6 0, hS 7 0, hS 8 0, hS 9 0, hS 10 0, hS 11 0, vb false, hS 12 0, i64 0, i64 0, hS 13 0, hS 14 0, hS 15 0, vb false, i64 0, i64 0, u8 0, u8 0, u8 0, u8 0, u8 0, u8 0, u8 0, u8 0, i64 0, i64 0, i64 0, i64 0, i64 0, hS 16 0, vb false, hS 17 0, u8 0, u8 0, u8 0, u8 0, i64 0, hS 18 0, hS 19 0, hS 20 0]], oF 50 [[i64 0, i64 m, i64 0, i64 0, i64 o, i64 p, i64 q, hS 21 0, hS 22 0, hS 23 0, hS 24 0, hS 25 0, hS 26 0, hS 27 0, hS 28 0, hS 29 0, vb false, hS 30 0, i64 0, i64 0, hS 31 0, hS 32 0, hS 33 0, vb false, i64 0, i64 0, u8 0, u8 0, u8 0, u8 0, u8 0, u8 0, u8 0, u8 0, i64 0, i64 0, i64 0, i64 0, i64 0, hS 34 0, vb false, hS 35 0, u8 0, u8 0, u8 0, u8 0, i64 0, hS 36 0, hS 37 0, hS 38 0]], oT 7 [], oT 7 [], oT 7 [], oT 7 [], oT 7 [], oT 7 [], oT 7 [], oT 7 [], oT 7 [], oT 2 [], oT 7 [], oT 7 [], oT 8 [], oT 10 [], oT 7 [], oT 1 [], oT 7 [], oT 7 [], oT 7 [], oT 7 [], oT 7 [], oT 7 [], oT 7 [], oT 7 [], oT 7 [], oT 7 [], oT 7 [], oT 2 [], oT 7 [], oT 7 [], oT 8 [], oT 10 [], oT 7 [], oT 1 [], oT 7 [], oT 7 []]
inductive T69_c47e0 where
  | mk (a : Bool) (d : LV) (f i j l m o p : Int) (q : Nat) (s t : Int) (u v w : Nat) (y : Bool) (z d0 d1 d2 d3 d4 d5 d6 d7 d8 d9 f0 f1 f2 f3 : Int) (f4 : Nat) (f5 : Bool) (f6 : Nat) (f7 f8 f9 j0 j1 : Int) (j2 j3 j4 : Nat) (j5 j6 j7 j8 j9 l0 l1 l2 l3 : LV)
inductive N69_c47 where
  | e0 (x : T69_c47e0)
abbrev N69_c47.out : N69_c47 → VX × S
  | .e0 (.mk a d f i j l m o p q s t u v w y z d0 d1 d2 d3 d4 d5 d6 d7 d8 d9 f0 f1 f2 f3 f4 f5 f6 f7 f8 f9 j0 j1 j2 j3 j4 j5 j6 j7 j8 j9 l0 l1 l2 l3) => (vN, S.mk (pT 0 :: un 4 (vb a :: un 6 (pT 1 :: pT 2 :: un 116 []))) [oF 2 [[lS 1 d, i64 f]], oF 50 [[i64 0, i64 0, i64 0, i64 0, i64 0, i64 0, i64 0, hS 3 0, hS 4 0, hS 5 0, hS 6 0, hS 7 0, hS 8 0, hS 9 0, hS 10 0, hS 11 0, vb false, hS 12 0, i64 0, i64 0, hS 13 0, hS 14 0, hS 15 0, vb false, i64 0, i64 0, u8 0, u8 0, u8 0, u8 0, u8 0, u8 0, u8 0, u8 0, i64 0, i64 0, i64 0, i64 0, i64 0, hS 16 0, vb false, hS 17 0, u8 0, u8 0, u8 0, u8 0, i64 0, hS 18 0, hS 19 0, hS 20 0]], oF 50 [[i64 i, i64 j, i64 l, i64 0, i64 m, i64 o, i64 p, hS 21 0, hS 22 0, hS 23 0, hS 24 0, hS 25 0, hS 26 0, hS 27 0, hS 28 0, hS 29 q, vb false, hS 30 0, i64 s, i64 t, hS 31 u, hS 32 v, hS 33 w, vb y, i64 z, i64 d0, u8 d1, u8 d2, u8 d3, u8 d4, u8 d5, u8 d6, u8 d7, u8 d8, i64 d9, i64 f0, i64 f1, i64 f2, i64 f3, hS 34 f4, vb f5, hS 35 f6, u8 f7, u8 f8, u8 f9, u8 j0, i64 j1, hS 36 j2, hS 37 j3, hS 38 j4]], oT 7 [], oT 7 [], oT 7 [], oT 7 [], oT 7 [], oT 7 [], oT 7 [], oT 7 [], oT 7 [], oT 2 [], oT 7 [], oT 7 [], oT 8 [], oT 10 [], oT 7 [], oT 1 [], oT 7 [], oT 7 [], oT 7 [], oT 7 [], oT 7 [], oT 7 [], oT 7 [], oT 7 [], oT 7 [], oT 7 [], oT 7 j5, oT 2 [], oT 7 j6, oT 7 j7, oT 8 j8, oT 10 j9, oT 7 l0, oT 1 l1, oT 7 l2, oT 7 l3])
abbrev E69_c47 := Ent.o1 N69_c47.out .e0 fun ⟨x⟩ => ⟨x, rfl⟩
noncomputable def D69_c47 : T69_c47s0 → PT N69_c47 | .mk a p d q f i j l m o => .testB q (fun h0 => .ask E43 (F43_ok (w64 (w64 (p - a) - 1)) f i) fun ⟨s, t, u⟩ => .auto 2 <| .ask E43 (F43_ok 3 t u) fun ⟨v, w, y⟩ => .cut E69_c61 (J69_c61_ok (.mk d (v == 0) w y j (w64 (w64 (a + 1) + s)) l m o)) fun | .e0 (.mk z d0 d1 d2 d3 d4 d5 d6 d7 d8) => .ret (.e0 (.mk z d0 d1 1 d2 d3 d4 d5 d6 d7 0 0 0 0 0 false 0 0 0 0 0 0 0 0 0 0 0 0 0 0 0 0 false 0 0 0 0 0 0 0 0 0 d8 ([]) ([]) ([]) ([]) ([]) ([]) ([]) ([])))) (fun h0 => .ask E13 (F13_ok f i) fun ⟨d9, f0, f1, f2, f3, f4, f5, f6, f7, f8, f9, j0, j1, j2, j3, j4, j5, j6, j7, j8, j9, l0, l1, l2, l3, l4, l5, l6, l7, l8, l9, m0, m1, m2, m3, m4, m5, m6, m7, m8, m9, o0⟩ => .auto 1 <| .ret (.e0 (.mk d m1 m2 0 j 0 l m o 0 d9 f0 f1 f2 f3 f4 f5 f6 f7 f8 f9 j0 j1 j2 j3 j4 j5 j6 j7 j8 j9 l0 l1 l2 l3 l4 l5 l6 l7 l8 l9 m0 ([]) m3 m4 m5 m6 m7 m8 m9 o0)))
noncomputable def J69_c47 (y : T69_c47s0) : Option N69_c47 := (D69_c47 y).ev some
theorem J69_c47_ok (y : T69_c47s0) : CU 69 1 B69 47 E69_c47 (J69_c47 y) y.st := by
  cases y; exact cond_ok (L := notIn []) fun x => by kernel_rfl
inductive T69_r5s0 where
  | mk (a d : Int) (f : Bool) (i : LV) (j l m o p : Int)
abbrev T69_r5s0.st : T69_r5s0 → S
  | .mk a d f i j l m o p => S.mk (pT 0 :: U :: U :: i64 a :: i64 d :: vb f :: un 6 (pT 1 :: pT 2 :: un 116 [])) [oF 2 [[lS 1 i, i64 j]], oF 50 [[i64 0, i64 0, i64 0, i64 0, i64 0, i64 0, i64 0, hS 3 0, hS 4 0, hS 5 0, hS 6 0, hS 7 0, hS 8 0, hS 9 0, hS 10 0, hS 11 0, vb false, hS 12 0, i64 0, i64 0, hS 13 0, hS 14 0, hS 15 0, vb false, i64 0, i64 0, u8 0, u8 0, u8 0, u8 0, u8 0, u8 0, u8 0, u8 0, i64 0, i64 0, i64 0, i64 0, i64 0, hS 16 0, vb false, hS 17 0, u8 0, u8 0, u8 0, u8 0, i64 0, hS 18 0, hS 19 0, hS 20 0]], oF 50 [[i64 0, i64 l, i64 0, i64 0, i64 m, i64 o, i64 p, hS 21 0, hS 22 0, hS 23 0, hS 24 0, hS 25 0, hS 26 0, hS 27 0, hS 28 0, hS 29 0, vb false, hS 30 0, i64 0, i64 0, hS 31 0, hS 32 0, hS 33 0, vb false, i64 0, i64 0, u8 0, u8 0, u8 0, u8 0, u8 0, u8 0, u8 0, u8 0, i64 0, i64 0, i64 0, i64 0, i64 0, hS 34 0, vb false, hS 35 0, u8 0, u8 0, u8 0, u8 0, i64 0, hS 36 0, hS 37 0, hS 38 0]], oT 7 [], oT 7 [], oT 7 [], oT 7 [], oT 7 [], oT 7 [], oT 7 [], oT 7 [], oT 7 [], oT 2 [], oT 7 [], oT 7 [], oT 8 [], oT 10 [], oT 7 [], oT 1 [], oT 7 [], oT 7 [], oT 7 [], oT 7 [], oT 7 [], oT 7 [], oT 7 [], oT 7 [], oT 7 [], oT 7 [], oT 7 [], oT 2 [], oT 7 [], oT 7 [], oT 8 [], oT 10 [], oT 7 [], oT 1 [], oT 7 [], oT 7 []]
inductive T69_r5e0 where
  | mk (a d : Int) (f i : Bool) (j : LV) (l m o p q : Int)
inductive N69_r5 where
  | e0 (x : T69_r5e0)
abbrev N69_r5.out : N69_r5 → VX × S
  | .e0 (.mk a d f i j l m o p q) => (vN, S.mk (pT 0 :: U :: U :: i64 a :: i64 d :: vb f :: un 6 (pT 1 :: pT 2 :: un 33 (vb i :: un 82 []))) [oF 2 [[lS 1 j, i64 l]], oF 50 [[i64 0, i64 0, i64 0, i64 0, i64 0, i64 0, i64 0, hS 3 0, hS 4 0, hS 5 0, hS 6 0, hS 7 0, hS 8 0, hS 9 0, hS 10 0, hS 11 0, vb false, hS 12 0, i64 0, i64 0, hS 13 0, hS 14 0, hS 15 0, vb false, i64 0, i64 0, u8 0, u8 0, u8 0, u8 0, u8 0, u8 0, u8 0, u8 0, i64 0, i64 0, i64 0, i64 0, i64 0, hS 16 0, vb false, hS 17 0, u8 0, u8 0, u8 0, u8 0, i64 0, hS 18 0, hS 19 0, hS 20 0]], oF 50 [[i64 0, i64 m, i64 0, i64 0, i64 o, i64 p, i64 q, hS 21 0, hS 22 0, hS 23 0, hS 24 0, hS 25 0, hS 26 0, hS 27 0, hS 28 0, hS 29 0, vb false, hS 30 0, i64 0, i64 0, hS 31 0, hS 32 0, hS 33 0, vb false, i64 0, i64 0, u8 0, u8 0, u8 0, u8 0, u8 0, u8 0, u8 0, u8 0, i64 0, i64 0, i64 0, i64 0, i64 0, hS 34 0, vb false, hS 35 0, u8 0, u8 0, u8 0, u8 0, i64 0, hS 36 0, hS 37 0, hS 38 0]], oT 7 [], oT 7 [], oT 7 [], oT 7 [], oT 7 [], oT 7 [], oT 7 [], oT 7 [], oT 7 [], oT 2 [], oT 7 [], oT 7 [], oT 8 [], oT 10 [], oT 7 [], oT 1 [], oT 7 [], oT 7 [], oT 7 [], oT 7 [], oT 7 [], oT 7 [], oT 7 [], oT 7 [], oT 7 [], oT 7 [], oT 7 [], oT 2 [], oT 7 [], oT 7 [], oT 8 [], oT 10 [], oT 7 [], oT 1 [], oT 7 [], oT 7 []])
abbrev E69_r5 := Ent.o1 N69_r5.out .e0 fun ⟨x⟩ => ⟨x, rfl⟩
noncomputable def D69_r5 : T69_r5s0 → PT N69_r5 | .mk a d f i j l m o p => .test (w64 (a + 1) < d) (fun h0 => .auto 1 <| .ask E43 (F43_ok 3 i j) fun ⟨q, s, t⟩ => .auto 2 <| .ret (.e0 (.mk a d f (q == 0) s t l m o p))) (fun h0 => .auto 3 <| .ret (.e0 (.mk a d f false i j l m o p)))
noncomputable def J69_r5 (y : T69_r5s0) : Option N69_r5 := (D69_r5 y).ev some
theorem J69_r5_ok (y : T69_r5s0) : ∀ b, J69_r5 y = some b → regP Tryz.prog X CC 69 1 B69 5 y.st = some (E69_r5.out b) := by
  cases y; exact reg_ok (E := E69_r5) (fun x => by kernel_rfl)
inductive T69_c34s0 where
  | mk (a d f : Int) (i j : Bool) (l : LV) (m o p q : Int)
abbrev T69_c34s0.st : T69_c34s0 → S
  | .mk a d f i j l m o p q => S.mk (pT 0 :: i64 a :: U :: i64 d :: i64 f :: vb i :: un 6 (pT 1 :: pT 2 :: un 20 (vb j :: un 95 []))) [oF 2 [[lS 1 l, i64 m]], oF 50 [[i64 0, i64 0, i64 0, i64 0, i64 0, i64 0, i64 0, hS 3 0, hS 4 0, hS 5 0, hS 6 0, hS 7 0, hS 8 0, hS 9 0, hS 10 0, hS 11 0, vb false, hS 12 0, i64 0, i64 0, hS 13 0, hS 14 0, hS 15 0, vb false, i64 0, i64 0, u8 0, u8 0, u8 0, u8 0, u8 0, u8 0, u8 0, u8 0, i64 0, i64 0, i64 0, i64 0, i64 0, hS 16 0, vb false, hS 17 0, u8 0, u8 0, u8 0, u8 0, i64 0, hS 18 0, hS 19 0, hS 20 0]], oF 50 [[i64 0, i64 (-1), i64 0, i64 0, i64 o, i64 p, i64 q, hS 21 0, hS 22 0, hS 23 0, hS 24 0, hS 25 0, hS 26 0, hS 27 0, hS 28 0, hS 29 0, vb false, hS 30 0, i64 0, i64 0, hS 31 0, hS 32 0, hS 33 0, vb false, i64 0, i64 0, u8 0, u8 0, u8 0, u8 0, u8 0, u8 0, u8 0, u8 0, i64 0, i64 0, i64 0, i64 0, i64 0, hS 34 0, vb false, hS 35 0, u8 0, u8 0, u8 0, u8 0, i64 0, hS 36 0, hS 37 0, hS 38 0]], oT 7 [], oT 7 [], oT 7 [], oT 7 [], oT 7 [], oT 7 [], oT 7 [], oT 7 [], oT 7 [], oT 2 [], oT 7 [], oT 7 [], oT 8 [], oT 10 [], oT 7 [], oT 1 [], oT 7 [], oT 7 [], oT 7 [], oT 7 [], oT 7 [], oT 7 [], oT 7 [], oT 7 [], oT 7 [], oT 7 [], oT 7 [], oT 2 [], oT 7 [], oT 7 [], oT 8 [], oT 10 [], oT 7 [], oT 1 [], oT 7 [], oT 7 []]
inductive T69_c34e0 where
  | mk (a d : Int) (f : Bool) (i : LV) (j l m o p : Int)
inductive N69_c34 where
  | e0 (x : T69_c34e0)
abbrev N69_c34.out : N69_c34 → VX × S
  | .e0 (.mk a d f i j l m o p) => (vN, S.mk (pT 0 :: U :: U :: i64 a :: i64 d :: vb f :: un 6 (pT 1 :: pT 2 :: un 116 [])) [oF 2 [[lS 1 i, i64 j]], oF 50 [[i64 0, i64 0, i64 0, i64 0, i64 0, i64 0, i64 0, hS 3 0, hS 4 0, hS 5 0, hS 6 0, hS 7 0, hS 8 0, hS 9 0, hS 10 0, hS 11 0, vb false, hS 12 0, i64 0, i64 0, hS 13 0, hS 14 0, hS 15 0, vb false, i64 0, i64 0, u8 0, u8 0, u8 0, u8 0, u8 0, u8 0, u8 0, u8 0, i64 0, i64 0, i64 0, i64 0, i64 0, hS 16 0, vb false, hS 17 0, u8 0, u8 0, u8 0, u8 0, i64 0, hS 18 0, hS 19 0, hS 20 0]], oF 50 [[i64 0, i64 l, i64 0, i64 0, i64 m, i64 o, i64 p, hS 21 0, hS 22 0, hS 23 0, hS 24 0, hS 25 0, hS 26 0, hS 27 0, hS 28 0, hS 29 0, vb false, hS 30 0, i64 0, i64 0, hS 31 0, hS 32 0, hS 33 0, vb false, i64 0, i64 0, u8 0, u8 0, u8 0, u8 0, u8 0, u8 0, u8 0, u8 0, i64 0, i64 0, i64 0, i64 0, i64 0, hS 34 0, vb false, hS 35 0, u8 0, u8 0, u8 0, u8 0, i64 0, hS 36 0, hS 37 0, hS 38 0]], oT 7 [], oT 7 [], oT 7 [], oT 7 [], oT 7 [], oT 7 [], oT 7 [], oT 7 [], oT 7 [], oT 2 [], oT 7 [], oT 7 [], oT 8 [], oT 10 [], oT 7 [], oT 1 [], oT 7 [], oT 7 [], oT 7 [], oT 7 [], oT 7 [], oT 7 [], oT 7 [], oT 7 [], oT 7 [], oT 7 [], oT 7 [], oT 2 [], oT 7 [], oT 7 [], oT 8 [], oT 10 [], oT 7 [], oT 1 [], oT 7 [], oT 7 []])
abbrev E69_c34 := Ent.o1 N69_c34.out .e0 fun ⟨x⟩ => ⟨x, rfl⟩
noncomputable def D69_c34 : T69_c34s0 → PT N69_c34 | .mk p a d f q i j l m o => .testB q (fun h0 => .ask E43 (F43_ok p i j) fun ⟨s, t, u⟩ => .auto 1 <| .ret (.e0 (.mk a d f t u s l m o))) (fun h0 => .ret (.e0 (.mk a d f i j (-1) l m o)))
noncomputable def J69_c34 (y : T69_c34s0) : Option N69_c34 := (D69_c34 y).ev some
theorem J69_c34_ok (y : T69_c34s0) : CU 69 1 B69 34 E69_c34 (J69_c34 y) y.st := by
  cases y; exact cond_ok (L := notIn []) fun x => by kernel_rfl
inductive T69_r3s0 where
  | mk (a d f : Int) (i : Bool) (j : LV) (l m o p : Int)
abbrev T69_r3s0.st : T69_r3s0 → S
  | .mk a d f i j l m o p => S.mk (pT 0 :: i64 a :: U :: i64 d :: i64 f :: vb i :: un 6 (pT 1 :: pT 2 :: un 116 [])) [oF 2 [[lS 1 j, i64 l]], oF 50 [[i64 0, i64 0, i64 0, i64 0, i64 0, i64 0, i64 0, hS 3 0, hS 4 0, hS 5 0, hS 6 0, hS 7 0, hS 8 0, hS 9 0, hS 10 0, hS 11 0, vb false, hS 12 0, i64 0, i64 0, hS 13 0, hS 14 0, hS 15 0, vb false, i64 0, i64 0, u8 0, u8 0, u8 0, u8 0, u8 0, u8 0, u8 0, u8 0, i64 0, i64 0, i64 0, i64 0, i64 0, hS 16 0, vb false, hS 17 0, u8 0, u8 0, u8 0, u8 0, i64 0, hS 18 0, hS 19 0, hS 20 0]], oF 50 [[i64 0, i64 (-1), i64 0, i64 0, i64 m, i64 o, i64 p, hS 21 0, hS 22 0, hS 23 0, hS 24 0, hS 25 0, hS 26 0, hS 27 0, hS 28 0, hS 29 0, vb false, hS 30 0, i64 0, i64 0, hS 31 0, hS 32 0, hS 33 0, vb false, i64 0, i64 0, u8 0, u8 0, u8 0, u8 0, u8 0, u8 0, u8 0, u8 0, i64 0, i64 0, i64 0, i64 0, i64 0, hS 34 0, vb false, hS 35 0, u8 0, u8 0, u8 0, u8 0, i64 0, hS 36 0, hS 37 0, hS 38 0]], oT 7 [], oT 7 [], oT 7 [], oT 7 [], oT 7 [], oT 7 [], oT 7 [], oT 7 [], oT 7 [], oT 2 [], oT 7 [], oT 7 [], oT 8 [], oT 10 [], oT 7 [], oT 1 [], oT 7 [], oT 7 [], oT 7 [], oT 7 [], oT 7 [], oT 7 [], oT 7 [], oT 7 [], oT 7 [], oT 7 [], oT 7 [], oT 2 [], oT 7 [], oT 7 [], oT 8 [], oT 10 [], oT 7 [], oT 1 [], oT 7 [], oT 7 []]
inductive T69_r3e0 where
  | mk (a d f : Int) (i j : Bool) (l : LV) (m o p q : Int)
inductive N69_r3 where
  | e0 (x : T69_r3e0)
abbrev N69_r3.out : N69_r3 → VX × S
  | .e0 (.mk a d f i j l m o p q) => (vN, S.mk (pT 0 :: i64 a :: U :: i64 d :: i64 f :: vb i :: un 6 (pT 1 :: pT 2 :: un 20 (vb j :: un 95 []))) [oF 2 [[lS 1 l, i64 m]], oF 50 [[i64 0, i64 0, i64 0, i64 0, i64 0, i64 0, i64 0, hS 3 0, hS 4 0, hS 5 0, hS 6 0, hS 7 0, hS 8 0, hS 9 0, hS 10 0, hS 11 0, vb false, hS 12 0, i64 0, i64 0, hS 13 0, hS 14 0, hS 15 0, vb false, i64 0, i64 0, u8 0, u8 0, u8 0, u8 0, u8 0, u8 0, u8 0, u8 0, i64 0, i64 0, i64 0, i64 0, i64 0, hS 16 0, vb false, hS 17 0, u8 0, u8 0, u8 0, u8 0, i64 0, hS 18 0, hS 19 0, hS 20 0]], oF 50 [[i64 0, i64 (-1), i64 0, i64 0, i64 o, i64 p, i64 q, hS 21 0, hS 22 0, hS 23 0, hS 24 0, hS 25 0, hS 26 0, hS 27 0, hS 28 0, hS 29 0, vb false, hS 30 0, i64 0, i64 0, hS 31 0, hS 32 0, hS 33 0, vb false, i64 0, i64 0, u8 0, u8 0, u8 0, u8 0, u8 0, u8 0, u8 0, u8 0, i64 0, i64 0, i64 0, i64 0, i64 0, hS 34 0, vb false, hS 35 0, u8 0, u8 0, u8 0, u8 0, i64 0, hS 36 0, hS 37 0, hS 38 0]], oT 7 [], oT 7 [], oT 7 [], oT 7 [], oT 7 [], oT 7 [], oT 7 [], oT 7 [], oT 7 [], oT 2 [], oT 7 [], oT 7 [], oT 8 [], oT 10 [], oT 7 [], oT 1 [], oT 7 [], oT 7 [], oT 7 [], oT 7 [], oT 7 [], oT 7 [], oT 7 [], oT 7 [], oT 7 [], oT 7 [], oT 7 [], oT 2 [], oT 7 [], oT 7 [], oT 8 [], oT 10 [], oT 7 [], oT 1 [], oT 7 [], oT 7 []])
abbrev E69_r3 := Ent.o1 N69_r3.out .e0 fun ⟨x⟩ => ⟨x, rfl⟩
noncomputable def D69_r3 : T69_r3s0 → PT N69_r3 | .mk a d f i q s j l m => .ask E43 (F43_ok 3 q s) fun ⟨t, o, p⟩ => .testB (t == 0) (fun h0 => .auto 2 <| .ret (.e0 (.mk a d f i (decide (a > 0)) o p j l m))) (fun h0 => .auto 2 <| .ret (.e0 (.mk a d f i false o p j l m)))
noncomputable def J69_r3 (y : T69_r3s0) : Option N69_r3 := (D69_r3 y).ev some
theorem J69_r3_ok (y : T69_r3s0) : ∀ b, J69_r3 y = some b → regP Tryz.prog X CC 69 1 B69 3 y.st = some (E69_r3.out b) := by
  cases y; exact reg_ok (E := E69_r3) (fun x => by kernel_rfl)
noncomputable def D69 (o1 m15 o2 o3 : Int) (o4 : Bool) (o5 : LV) (o6 : Int) : PT A69 := .ask E43 (F43_ok 6 o5 o6) fun ⟨a, o7, o8⟩ => .ask E43 (F43_ok 5 o7 o8) fun ⟨o9, p0, p1⟩ => .auto 2 <| .ask E43 (F43_ok 24 p0 p1) fun ⟨p2, p3, p4⟩ => .auto 1 <| .cut E69_r3 (J69_r3_ok (.mk o1 o2 o3 o4 p3 p4 (w64 (a - 2)) (w64 (w64 (w64 (a - 2) + 1) + p2)) (w64 (o9 - 2)))) fun | .e0 (.mk p5 p6 p7 p8 p9 q0 q1 q2 q3 q4) => .cut E69_c34 (J69_c34_ok (.mk p5 p6 p7 p8 p9 q0 q1 q2 q3 q4)) fun | .e0 (.mk q5 q6 q7 q8 q9 t0 t1 t2 t3) => .cut E69_r5 (J69_r5_ok (.mk q5 q6 q7 q8 q9 t0 t1 t2 t3)) fun | .e0 (.mk t4 t5 t6 t7 t8 t9 v0 v1 v2 v3) => .cut E69_c47 (J69_c47_ok (.mk t4 t5 t6 t7 t8 t9 v0 v1 v2 v3)) fun | .e0 (.mk v4 v5 v6 v7 v8 v9 y0 y1 y2 y3 y4 y5 y6 y7 y8 y9 z0 z1 z2 z3 z4 z5 z6 z7 z8 z9 d10 d11 d12 d13 d14 d15 d16 d17 d18 d19 d20 d21 d22 d23 d24 d25 d26 d27 d28 d29 d30 d31 d32 d33 d34) => .ask E43 (F43_ok 4 v5 v6) fun ⟨d35, d36, d37⟩ => .cut E69_c75 (J69_c75_ok (.mk v4 (decide (d35 > 0)) d36 d37 v7 v8 v9 y0 y1 y2 y3 y4 y5 y6 y7 y8 y9 z0 z1 z2 z3 z4 z5 z6 z7 z8 z9 d10 d11 d12 d13 d14 d15 d16 d17 d18 d19 d20 d21 d22 d23 d24 d25 d26 d27 d28 d29 d30 d31 d32 d33 d34)) fun | .e0 (.mk d38 d39 d40 d41 d42 d43 d44 d45 d46 d47 d48 d49 d50 d51 d52 d53 d54 d55 d56 d57 d58 d59 d60 d61 d62 d63 d64 d65 d66 d67 d68 d69 d70 d71 d72 d73 d74 d75 d76 d77 d78 d79 d80 d81 d82 d83 d84 d85 d86 d87 d88 d89 d90 d91 d92) => .ask E43 (F43_ok 3 d39 d40) fun ⟨d93, d94, d95⟩ => .cut E69_c84 (J69_c84_ok (.mk d38 (d93 == 0) d94 d95 d41 d42 d43 d44 d45 d46 d47 d48 d49 d50 d51 d52 d53 d54 d55 d56 d57 d58 d59 d60 d61 d62 d63 d64 d65 d66 d67 d68 d69 d70 d71 d72 d73 d74 d75 d76 d77 d78 d79 d80 d81 d82 d83 d84 d85 d86 d87 d88 d89 d90 d91 d92)) fun | .e0 (.mk d96 d97 d98 d99 f10 f11 f12 f13 f14 f15 f16 f17 f18 f19 f20 f21 f22 f23 f24 f25 f26 f27 f28 f29 f30 f31 f32 f33 f34 f35 f36 f37 f38 f39 f40 f41 f42 f43 f44 f45 f46 f47 f48 f49 f50 f51 f52 f53 f54 f55 f56 f57 f58 f59 f60 f61 f62 f63 f64 f65 f66 f67 f68) => .ask E43 (F43_ok 3 d97 d98) fun ⟨f69, f70, f71⟩ => .cut E69_c99 (J69_c99_ok (.mk d96 (f69 == 0) f70 f71 d99 f10 f11 f12 f13 f14 f15 f16 f17 f18 f19 f20 f21 f22 f23 f24 f25 f26 f27 f28 f29 f30 f31 f32 f33 f34 f35 f36 f37 f38 f39 f40 f41 f42 f43 f44 f45 f46 f47 f48 f49 f50 f51 f52 f53 f54 f55 f56 f57 f58 f59 f60 f61 f62 f63 f64 f65 f66 f67 f68)) fun | .e0 (.mk f72 f73 f74 f75 f76 f77 f78 f79 f80 f81 f82 f83 f84 f85 f86 f87 f88 f89 f90 f91 f92 f93 f94 f95 f96 f97 f98 f99 j10 j11 j12 j13 j14 j15 j16 j17 j18 j19 j20 j21 j22 j23 j24 j25 j26 j27 j28 j29 j30 j31 j32 j33 j34 j35 j36 j37 j38 j39 j40 j41 j42 j43 j44 j45 j46) => .ask E43 (F43_ok 3 f73 f74) fun ⟨j47, j48, j49⟩ => .cut E69_c105 (J69_c105_ok (.mk f72 (j47 == 0) j48 j49 f75 f76 f77 f78 f79 f80 f81 f82 f83 f84 f85 f86 f87 f88 f89 f90 f91 f92 f93 f94 f95 f96 f97 f98 f99 j10 j11 j12 j13 j14 j15 j16 j17 j18 j19 j20 j21 j22 j23 j24 j25 j26 j27 j28 j29 j30 j31 j32 j33 j34 j35 j36 j37 j38 j39 j40 j41 j42 j43 j44 j45 j46)) fun | .e0 (.mk j50 j51 j52 j53 j54 j55 j56 j57 j58 j59 j60 j61 j62 j63 j64 j65 j66 j67 j68 j69 j70 j71 j72 j73 j74 j75 j76 j77 j78 j79 j80 j81 j82 j83 j84 j85 j86 j87 j88 j89 j90 j91 j92 j93 j94 j95 j96 j97 j98 j99 l10 l11 l12 l13 l14 l15 l16 l17 l18 l19 l20 l21 l22 l23 l24 l25 l26) => .cut E69_r18 (J69_r18_ok (.mk j50 j51 j52 j53 j54 j55 j56 j57 j58 j59 j60 j61 j62 j63 j64 j65 j66 j67 j68 j69 j70 j71 j72 j73 j74 j75 j76 j77 j78 j79 j80 j81 j82 j83 j84 j85 j86 j87 j88 j89 j90 j91 j92 j93 j94 j95 j96 j97 j98 j99 l10 l11 l12 l13 l14 l15 l16 l17 l18 l19 l20 l21 l22 l23 l24 l25 l26)) fun | .e0 (.mk l27 l28 l29 l30 l31 l32 l33 l34 l35 l36 l37 l38 l39 l40 l41 l42 l43 l44 l45 l46 l47 l48 l49 l50 l51 l52 l53 l54 l55 l56 l57 l58 l59 l60 l61 l62 l63 l64 l65 l66 l67 l68 l69 l70 l71 l72 l73 l74 l75 l76 l77 l78 l79 l80 l81 l82 l83 l84 l85 l86 l87 l88 l89 l90 l91 l92 l93) => .cut E69_c115 (J69_c115_ok (.mk l27 l28 l29 l30 l31 l32 l33 l34 l35 l36 l37 l38 l39 l40 l41 l42 l43 l44 l45 l46 l47 l48 l49 l50 l51 l52 l53 l54 l55 l56 l57 l58 l59 l60 l61 l62 l63 l64 l65 l66 l67 l68 l69 l70 l71 l72 l73 l74 l75 l76 l77 l78 l79 l80 l81 l82 l83 l84 l85 l86 l87 l88 l89 l90 l91 l92 l93)) fun | .e0 (.mk l94 l95 d f i j l m o p q s t u v w y z d0 d1 d2 d3 d4 d5 d6 d7 d8 d9 f0 f1 f2 f3 f4 f5 f6 f7 f8 f9 j0 j1 j2 j3 j4 j5 j6 j7 j8 j9 l0 l1 l2 l3 l4 l5 l6 l7 l8 l9 m0 m1 m2 m3 m4 m5 m6 m7 m8) => .ask E43 (F43_ok 5 l94 l95) fun ⟨l96, m9, o0⟩ => .testB (l96 == 0) (fun h0 => .ask E43 (F43_ok 2 m9 o0) fun ⟨l97, l98, l99⟩ => .ask E44 (F44_ok (w64 (2 + l97)) true l98 l99) fun ⟨m10, m11, m12, m13, m14⟩ => .auto 3 <| .ret (.a0 d f i j l m o p q s t u v w y z m10 m11 d0 d1 d2 d3 d4 d5 d6 d7 d8 d9 f0 f1 f2 f3 f4 f5 f6 f7 f8 f9 j0 j1 j2 j3 j4 j5 j6 j7 j8 j9 l0 l1 m12 m13 l2 l3 l4 l5 l6 l7 l8 l9 m0 m14 m1 m2 m3 m4 m5 m6 m7 m8)) (fun h0 => .auto 2 <| .ret (.a0 d f i j l m o p q s t u v w y z false 0 d0 d1 d2 d3 d4 d5 d6 d7 d8 d9 f0 f1 f2 f3 f4 f5 f6 f7 f8 f9 j0 j1 j2 j3 j4 j5 j6 j7 j8 j9 l0 l1 m9 o0 l2 l3 l4 l5 l6 l7 l8 l9 m0 ([]) m1 m2 m3 m4 m5 m6 m7 m8))
noncomputable def F69 (a d f i : Int) (j : Bool) (l : LV) (m : Int) : Option A69 := (D69 a d f i j l m).ev some
theorem F69_ok (a d f i : Int) (j : Bool) (l : LV) (m : Int) : FU E69 (F69 a d f i j l m) 69 [pT 0, i64 a, i64 d, i64 f, i64 i, vb j] [oF 2 [[lS 1 l, i64 m]]] := fu rfl rfl fun x => by kernel_rfl
/-! ## F20 -/
noncomputable abbrev B20 : Code := (Tryz.f20.body).getD .skip
inductive T20_2s0 where
  | mk (a d f : Int) (i : Bool) (j : Int) (l : LV) (m o p : Int) (q s : Nat) (t u : LV)
inductive T20_2e0 where
  | mk (a d : Int) (f : LV) (i j l : Int) (m o : Nat) (p q : LV)
inductive N20_2 where
  | s0 (x : T20_2s0)
  | e0 (x : T20_2e0)
abbrev N20_2.out : N20_2 → VX × S
  | .s0 (.mk a d f i j l m o p q s t u) => (vN, S.mk (U :: U :: pT 0 :: pT 1 :: pT 2 :: i64 a :: i64 d :: pT 3 :: i64 f :: vb i :: i64 j :: un 54 []) [oF 3 [[i64 0, i64 0, hS 4 0]], oF 2 [[lS 1 l, i64 m]], oF 3 [[i64 o, i64 p, hS 5 q]], oF 1 [[hS 6 s]], oT 1 [], oT 1 t, oT 50 u])
  | .e0 (.mk v w y z d0 d1 d2 d3 d4 d5) => (vX 2, S.mk (U :: U :: pT 0 :: pT 1 :: pT 2 :: i64 v :: i64 w :: pT 3 :: un 57 []) [oF 3 [[i64 0, i64 0, hS 4 0]], oF 2 [[lS 1 y, i64 z]], oF 3 [[i64 d0, i64 d1, hS 5 d2]], oF 1 [[hS 6 d3]], oT 1 [], oT 1 d4, oT 50 d5])
abbrev E20_2 := Ent.o2 N20_2.out .s0 .e0 (fun b => by cases b <;> simp)
noncomputable def D20_2 : T20_2s0 → PT N20_2 | .mk d f i l2 j m o p q s a t l => .test (j < i) (fun h0 => .ask E69 (F69_ok j i f d l2 m o) fun ⟨l3, l4, l5, u, l6, l7, l8, v, w, y, z, d0, d1, d2, d3, d4, l9, d5, m0, m1, d6, d7, d8, m2, m3, m4, m5, m6, m7, m8, m9, o0, o1, o2, o3, o4, o5, o6, o7, d9, o8, f0, o9, p0, p1, p2, p3, f1, f2, f3, p4, p5, f4, f5, f6, f7, f8, f9, j0, j1, j2, j3, j4, j5, j6, j7, j8, j9, l0, l1⟩ => .auto 4 <| .test (0 + v ≤ List.length f4) (fun h1 => .test (0 + w ≤ List.length f5) (fun h2 => .test (0 + y ≤ List.length f6) (fun h3 => .test (0 + z ≤ List.length f7) (fun h4 => .test (0 + d0 ≤ List.length f8) (fun h5 => .test (0 + d1 ≤ List.length f9) (fun h6 => .test (0 + d2 ≤ List.length j0) (fun h7 => .test (0 + d3 ≤ List.length j1) (fun h8 => .test (0 + d4 ≤ List.length j2) (fun h9 => .test (0 + d5 ≤ List.length j3) (fun h10 => .test (0 + d6 ≤ List.length j4) (fun h11 => .test (0 + d7 ≤ List.length j5) (fun h12 => .test (0 + d8 ≤ List.length j6) (fun h13 => .test (0 + d9 ≤ List.length j7) (fun h14 => .test (0 + f0 ≤ List.length j8) (fun h15 => .test (0 + f1 ≤ List.length j9) (fun h16 => .test (0 + f2 ≤ List.length l0) (fun h17 => .test (0 + f3 ≤ List.length l1) (fun h18 => .auto 1 <| .test (0 + a ≤ List.length l ∧ (a + 1) * 608 ≤ 140737488355328 ∧ a + 1 ≤ 140737488355328) (fun h19 => .auto 1 <| .ret (.s0 (.mk d f i (u != 0) (w64 (j + 1)) p4 p5 p q s (a + 1) t (List.take a l ++ [[i64 l3, i64 l4, i64 l5, i64 u, i64 l6, i64 l7, i64 l8, lS 7 (List.take v f4), lS 7 (List.take w f5), lS 7 (List.take y f6), lS 7 (List.take z f7), lS 7 (List.take d0 f8), lS 7 (List.take d1 f9), lS 7 (List.take d2 j0), lS 7 (List.take d3 j1), lS 7 (List.take d4 j2), vb l9, lS 2 (List.take d5 j3), i64 m0, i64 m1, lS 7 (List.take d6 j4), lS 7 (List.take d7 j5), lS 8 (List.take d8 j6), vb m2, i64 m3, i64 m4, u8 m5, u8 m6, u8 m7, u8 m8, u8 m9, u8 o0, u8 o1, u8 o2, i64 o3, i64 o4, i64 o5, i64 o6, i64 o7, lS 10 (List.take d9 j7), vb o8, lS 7 (List.take f0 j8), u8 o9, u8 p0, u8 p1, u8 p2, i64 p3, lS 1 (List.take f1 j9), lS 7 (List.take f2 l0), lS 7 (List.take f3 l1)]])))) (fun _ => .fail)) (fun _ => .fail)) (fun _ => .fail)) (fun _ => .fail)) (fun _ => .fail)) (fun _ => .fail)) (fun _ => .fail)) (fun _ => .fail)) (fun _ => .fail)) (fun _ => .fail)) (fun _ => .fail)) (fun _ => .fail)) (fun _ => .fail)) (fun _ => .fail)) (fun _ => .fail)) (fun _ => .fail)) (fun _ => .fail)) (fun _ => .fail)) (fun _ => .fail)) (fun h0 => .ret (.e0 (.mk d f m o p q s a t l)))
noncomputable def L20_2 := E20_2.loop fun | .s0 x => D20_2 x | _ => .fail
theorem L20_2_ok : LU 20 0 B20 2 E20_2 L20_2 :=
  lk (L := notIn []) (fun b hb => by cases b <;> first | (cases hb; done) | (rename_i x; cases x; intro x; kernel_rfl) | (intro x; kernel_rfl))
noncomputable def N20_2.nx (n : Nat) : N20_2 → Option N20_2 | .s0 x => L20_2 n (.s0 x) | .e0 x => some (.e0 x)
theorem L20_2_s0 (n : Nat) (x : T20_2s0) : L20_2 (n + 1) (.s0 x) = (D20_2 x).ev (N20_2.nx n) := Ent.loop_eq fun c => by cases c <;> rfl
inductive T20_0s0 where
  | mk (a d : Int) (f : LV) (i j l : Int) (m : Nat) (o : LV)
inductive T20_0e0 where
  | mk (a d : Int) (f : Nat) (i : LV)
inductive N20_0 where
  | s0 (x : T20_0s0)
  | e0 (x : T20_0e0)
abbrev N20_0.out : N20_0 → VX × S
  | .s0 (.mk a d f i j l m o) => (vN, S.mk (U :: U :: pT 0 :: pT 1 :: pT 2 :: i64 a :: i64 d :: un 58 []) [oF 3 [[i64 0, i64 0, hS 3 0]], oF 2 [[lS 1 f, i64 i]], oF 3 [[i64 j, i64 l, hS 4 m]], oT 1 [], oT 1 o])
  | .e0 (.mk p q s t) => (vX 0, S.mk (U :: U :: pT 0 :: U :: pT 1 :: un 60 []) [oF 3 [[i64 0, i64 0, hS 2 0]], oF 3 [[i64 p, i64 q, hS 3 s]], oT 1 [], oT 1 t])
abbrev E20_0 := Ent.o2 N20_0.out .s0 .e0 (fun b => by cases b <;> simp)
noncomputable def D20_0 : T20_0s0 → PT N20_0 | .mk d f s t i j l m => .test (f < d) (fun h0 => .ask E43 (F43_ok 4 s t) fun ⟨u, v, w⟩ => .cut E20_2 (L20_2_ok (.s0 (.mk d f (w64 (1 + u)) true 0 v w i j l 0 m ([]))) rfl) fun | .e0 (.mk y z d0 d1 d2 d3 a o p q) => (.auto 2 <| .test (0 + o ≤ List.length q) (fun h1 => .auto 1 <| .test (0 + a ≤ List.length p ∧ (a + 1) * 24 ≤ 140737488355328 ∧ a + 1 ≤ 140737488355328) (fun h2 => .auto 1 <| .ret (.s0 (.mk y (w64 (z + 1)) d0 d1 d2 d3 (a + 1) (List.take a p ++ [[lS 50 (List.take o q)]])))) (fun _ => .fail)) (fun _ => .fail)) | _ => .fail) (fun h0 => .ret (.e0 (.mk i j l m)))
noncomputable def L20_0 := E20_0.loop fun | .s0 x => D20_0 x | _ => .fail
theorem L20_0_ok : LU 20 0 B20 0 E20_0 L20_0 :=
  lk (L := notIn []) (fun b hb => by cases b <;> first | (cases hb; done) | (rename_i x; cases x; intro x; kernel_rfl) | (intro x; kernel_rfl))
noncomputable def N20_0.nx (n : Nat) : N20_0 → Option N20_0 | .s0 x => L20_0 n (.s0 x) | .e0 x => some (.e0 x)
theorem L20_0_s0 (n : Nat) (x : T20_0s0) : L20_0 (n + 1) (.s0 x) = (D20_0 x).ev (N20_0.nx n) := Ent.loop_eq fun c => by cases c <;> rfl
noncomputable def D20 (d : LV) : PT A20 := .ask E43 (F43_ok 4 d 0) fun ⟨a, f, i⟩ => .auto 2 <| .ask E43 (F43_ok 20 f i) fun ⟨j, l, m⟩ => .auto 1 <| .ask E43 (F43_ok 3 l m) fun ⟨o, p, q⟩ => .cut E20_0 (L20_0_ok (.s0 (.mk (w64 (1 + o)) 0 p q (w64 (a - 1)) (w64 (w64 (w64 (a - 1) + 1) + j)) 0 ([]))) rfl) fun | .e0 (.mk s t u v) => (.auto 2 <| .ret (.a0 s t u v)) | _ => .fail
noncomputable def F20 (a : LV) : Option A20 := (D20 a).ev some
theorem F20_ok (a : LV) : FU E20 (F20 a) 20 [lS 1 a] := fu rfl rfl fun x => by kernel_rfl
/-! ## F74 -/
noncomputable def D74 (a d f : Int) : PT Int := .test (a < d) (fun h0 => .ret d) (fun h0 => .test (a > f) (fun h1 => .ret f) (fun h1 => .ret a))
abbrev O74 (a : Int) : V × Store := (i64 a, [])
noncomputable def F74 (a d f : Int) : Int := (D74 a d f).evT
theorem F74_ok (a d f : Int) : UU 74 ([i64 a, i64 d, i64 f]) ([]) = some (O74 (F74 a d f)) :=
  fnT_ok (out := O74) (L := notIn []) rfl rfl (fun x => by kernel_rfl) (by simp [D74, PT.isT])
/-! ## F132 -/
noncomputable def D132 (a : Int) : PT Int := .tot O74 (F74_ok a (-1099511627776) 1099511627776) fun d => .ret d
abbrev O132 (a : Int) : V × Store := (i64 a, [])
noncomputable def F132 (a : Int) : Int := (D132 a).evT
theorem F132_ok (a : Int) : UU 132 ([i64 a]) ([]) = some (O132 (F132 a)) :=
  fnT_ok (out := O132) (L := notIn []) rfl rfl (fun x => by kernel_rfl) (by simp [D132, PT.isT])
/-! ## F131 -/
noncomputable def D131 (a d : Int) : PT Int := .tot O132 (F132_ok a) fun f => .tot O132 (F132_ok d) fun i => .tot O132 (F132_ok (w64 (f + i))) fun j => .ret j
abbrev O131 (a : Int) : V × Store := (i64 a, [])
noncomputable def F131 (a d : Int) : Int := (D131 a d).evT
theorem F131_ok (a d : Int) : UU 131 ([i64 a, i64 d]) ([]) = some (O131 (F131 a d)) :=
  fnT_ok (out := O131) (L := notIn []) rfl rfl (fun x => by kernel_rfl) (by simp [D131, PT.isT])
/-! ## F70 -/
noncomputable def D70 (a : W57) (d : Int) : PT Int := .auto 1 <| .tot O132 (F132_ok a.c6) fun f => .tot O131 (F131_ok d (w64 (0 - f))) fun i => .ret i
abbrev O70 (a : Int) : V × Store := (i64 a, [])
noncomputable def F70 (a : W57) (d : Int) : Int := (D70 a d).evT
theorem F70_ok (a : W57) (d : Int) : UU 70 ([V.agg (W57.cells a), i64 d]) ([]) = some (O70 (F70 a d)) :=
  fnT_ok (out := O70) (L := notIn []) rfl rfl (fun x => by kernel_rfl) (by simp [D70, PT.isT])
/-! ## F133 -/
noncomputable abbrev B133 : Code := (Tryz.f133.body).getD .skip
inductive T133_0s0 where
  | mk (a : LV) (d f : Int)
inductive T133_0e0 where
  | mk (a : Int)
inductive N133_0 where
  | s0 (x : T133_0s0)
  | e0 (x : T133_0e0)
  | e1
abbrev N133_0.out : N133_0 → VX × S
  | .s0 (.mk a d f) => (vN, S.mk (lS 7 a :: i64 d :: U :: U :: U :: i64 f :: un 15 []) [])
  | .e0 (.mk i) => (VX.ret, S.mk (un 4 (i64 i :: un 16 [])) [])
  | .e1 => (vX 0, S.mk (un 21 []) [])
abbrev E133_0 := Ent.o3 N133_0.out .s0 .e0 (fun (_ : Unit) => .e1) (fun b => by cases b <;> simp)
noncomputable def D133_0 : T133_0s0 → PT N133_0 | .mk d f a => .test (a ≥ 0) (fun h0 => .test (0 ≤ a) (fun h1 => .look RW74 (d[Int.toNat a]?) fun i => .test (i.c0 ≤ f) (fun h2 => .ret (.e0 (.mk a))) (fun h2 => .ret (.s0 (.mk d f (w64 (a - 1)))))) (fun _ => .fail)) (fun h0 => .ret .e1)
noncomputable def L133_0 := E133_0.loop fun | .s0 x => D133_0 x | _ => .fail
theorem L133_0_ok : LU 133 0 B133 0 E133_0 L133_0 :=
  lk (L := notIn []) (fun b hb => by cases b <;> first | (cases hb; done) | (rename_i x; cases x; intro x; kernel_rfl) | (intro x; kernel_rfl))
noncomputable def N133_0.nx (n : Nat) : N133_0 → Option N133_0 | .s0 x => L133_0 n (.s0 x) | .e0 x => some (.e0 x) | .e1 => some .e1
theorem L133_0_s0 (n : Nat) (x : T133_0s0) : L133_0 (n + 1) (.s0 x) = (D133_0 x).ev (N133_0.nx n) := Ent.loop_eq fun c => by cases c <;> rfl
noncomputable def D133 (a : LV) (d : Int) : PT A133 := .cut E133_0 (L133_0_ok (.s0 (.mk a d (w64 ((a.length : Int) - 1)))) rfl) fun | .e0 (.mk f) => .ret (.a0 f) | .e1 => .ret (.a0 (-1)) | _ => .fail
noncomputable def F133 (a : LV) (d : Int) : Option A133 := (D133 a d).ev some
theorem F133_ok (a : LV) (d : Int) : FU E133 (F133 a d) 133 [lS 7 a, i64 d] := fu rfl rfl fun x => by kernel_rfl
/-! ## F136 -/
noncomputable def D136 (i j l : Int) : PT A136 := .tot O132 (F132_ok i) fun a => .tot O132 (F132_ok j) fun d => .tot O132 (F132_ok l) fun f => .test (f ≤ a) (fun h0 => .ret (.a0 0)) (fun h0 => .test (f ≥ d) (fun h1 => .ret (.a0 65536)) (fun h1 => .test (w64 (d - a) = 0) (fun _ => .fail) (fun h2 => .ret (.a0 (w64 (Int.tdiv (w64 (w64 (f - a) * 65536)) (w64 (d - a))))))))
noncomputable def F136 (a d f : Int) : Option A136 := (D136 a d f).ev some
theorem F136_ok (a d f : Int) : FU E136 (F136 a d f) 136 [i64 a, i64 d, i64 f] := fu rfl rfl fun x => by kernel_rfl
/-! ## F187 -/
noncomputable def D187 (a d : Int) : PT A187 := .auto 5 <| .ret (.a0 (IntKind.wrap IntKind.u64 (IntKind.wrap IntKind.u64 (IntKind.wrap IntKind.u64 (Int.fdiv a 4294967296 * Int.fdiv d 4294967296) + Int.fdiv (IntKind.wrap IntKind.u64 (IntKind.wrap IntKind.u64 (Int.fdiv a 4294967296 * IntKind.wrap IntKind.u64 (↑(BitVec.toNat (BitVec.ofInt (IntKind.bits IntKind.u64) d &&& BitVec.ofInt (IntKind.bits IntKind.u64) 4294967295)) : Int)) + Int.fdiv (IntKind.wrap IntKind.u64 (IntKind.wrap IntKind.u64 (↑(BitVec.toNat (BitVec.ofInt (IntKind.bits IntKind.u64) a &&& BitVec.ofInt (IntKind.bits IntKind.u64) 4294967295)) : Int) * IntKind.wrap IntKind.u64 (↑(BitVec.toNat (BitVec.ofInt (IntKind.bits IntKind.u64) d &&& BitVec.ofInt (IntKind.bits IntKind.u64) 4294967295)) : Int))) 4294967296)) 4294967296) + Int.fdiv (IntKind.wrap IntKind.u64 (IntKind.wrap IntKind.u64 (↑(BitVec.toNat (BitVec.ofInt (IntKind.bits IntKind.u64) (IntKind.wrap IntKind.u64 (IntKind.wrap IntKind.u64 (Int.fdiv a 4294967296 * IntKind.wrap IntKind.u64 (↑(BitVec.toNat (BitVec.ofInt (IntKind.bits IntKind.u64) d &&& BitVec.ofInt (IntKind.bits IntKind.u64) 4294967295)) : Int)) + Int.fdiv (IntKind.wrap IntKind.u64 (IntKind.wrap IntKind.u64 (↑(BitVec.toNat (BitVec.ofInt (IntKind.bits IntKind.u64) a &&& BitVec.ofInt (IntKind.bits IntKind.u64) 4294967295)) : Int) * IntKind.wrap IntKind.u64 (↑(BitVec.toNat (BitVec.ofInt (IntKind.bits IntKind.u64) d &&& BitVec.ofInt (IntKind.bits IntKind.u64) 4294967295)) : Int))) 4294967296)) &&& BitVec.ofInt (IntKind.bits IntKind.u64) 4294967295)) : Int) + IntKind.wrap IntKind.u64 (IntKind.wrap IntKind.u64 (↑(BitVec.toNat (BitVec.ofInt (IntKind.bits IntKind.u64) a &&& BitVec.ofInt (IntKind.bits IntKind.u64) 4294967295)) : Int) * Int.fdiv d 4294967296))) 4294967296)) (IntKind.wrap IntKind.u64 (a * d)))
noncomputable def F187 (a d : Int) : Option A187 := (D187 a d).ev some
theorem F187_ok (a d : Int) : FU E187 (F187 a d) 187 [V.int IntKind.u64 a, V.int IntKind.u64 d] := fu rfl rfl fun x => by kernel_rfl
/-! ## F184 -/
noncomputable def D184 (d a : Int) : PT A184 := .ask E187 (F187_ok (IntKind.wrap IntKind.u64 d) (IntKind.wrap IntKind.u64 a)) fun ⟨f, i⟩ => .test (d < 0) (fun h0 => .test (a < 0) (fun h1 => .ret (.a0 (IntKind.wrap IntKind.u64 (IntKind.wrap IntKind.u64 (f - IntKind.wrap IntKind.u64 a) - IntKind.wrap IntKind.u64 d)) i)) (fun h1 => .ret (.a0 (IntKind.wrap IntKind.u64 (f - IntKind.wrap IntKind.u64 a)) i))) (fun h0 => .test (a < 0) (fun h1 => .ret (.a0 (IntKind.wrap IntKind.u64 (f - IntKind.wrap IntKind.u64 d)) i)) (fun h1 => .ret (.a0 f i)))
noncomputable def F184 (a d : Int) : Option A184 := (D184 a d).ev some
theorem F184_ok (a d : Int) : FU E184 (F184 a d) 184 [i64 a, i64 d] := fu rfl rfl fun x => by kernel_rfl
/-! ## F183 -/
noncomputable abbrev B183 : Code := (Tryz.f183.body).getD .skip
inductive T183_r3s0 where
  | mk (a d : Int)
abbrev T183_r3s0.st : T183_r3s0 → S
  | .mk a d => S.mk (un 5 (i64 a :: V.int IntKind.u64 d :: un 34 [])) []
inductive T183_r3e0 where
  | mk (a d : Int) (f : Bool)
inductive N183_r3 where
  | e0 (x : T183_r3e0)
abbrev N183_r3.out : N183_r3 → VX × S
  | .e0 (.mk a d f) => (vN, S.mk (un 5 (i64 a :: V.int IntKind.u64 d :: un 8 (vb f :: un 25 []))) [])
abbrev E183_r3 := Ent.o1 N183_r3.out .e0 fun ⟨x⟩ => ⟨x, rfl⟩
noncomputable def D183_r3 : T183_r3s0 → PT N183_r3 | .mk a d => .test (a < -1) (fun h0 => .auto 4 <| .ret (.e0 (.mk a d true))) (fun h0 => .auto 2 <| .testB (a == -1) (fun h1 => .auto 6 <| .ret (.e0 (.mk a d (Int.fdiv d 9223372036854775808 == 0)))) (fun h1 => .auto 5 <| .ret (.e0 (.mk a d false))))
noncomputable def J183_r3 (y : T183_r3s0) : Option N183_r3 := (D183_r3 y).ev some
theorem J183_r3_ok (y : T183_r3s0) : ∀ b, J183_r3 y = some b → regP Tryz.prog X CC 183 0 B183 3 y.st = some (E183_r3.out b) := by
  cases y; exact reg_ok (E := E183_r3) (fun x => by kernel_rfl)
noncomputable def D183 (d i : Int) : PT A183 := .auto 3 <| .cut E183_r3 (J183_r3_ok (.mk (Int.fdiv (w64 d) 65536) (IntKind.wrap IntKind.u64 (↑(BitVec.toNat (BitVec.ofInt (IntKind.bits IntKind.u64) (IntKind.wrap IntKind.u64 (d * 2 ^ min (Int.toNat 48) (IntKind.bits IntKind.u64))) ||| BitVec.ofInt (IntKind.bits IntKind.u64) (Int.fdiv i (2 ^ min (Int.toNat 16) (IntKind.bits IntKind.u64))))) : Int)))) fun | .e0 (.mk f a j) => .testB j (fun h0 => .ret (.a0 (-9223372036854775808))) (fun h0 => .test (f > 0) (fun h1 => .auto 5 <| .ret (.a0 9223372036854775807)) (fun h1 => .auto 2 <| .testB (f == 0) (fun h2 => .auto 6 <| .testB (Int.fdiv a 9223372036854775808 != 0) (fun h3 => .ret (.a0 9223372036854775807)) (fun h3 => .ret (.a0 (w64 a)))) (fun h2 => .auto 6 <| .ret (.a0 (w64 a)))))
noncomputable def F183 (a d : Int) : Option A183 := (D183 a d).ev some
theorem F183_ok (a d : Int) : FU E183 (F183 a d) 183 [V.int IntKind.u64 a, V.int IntKind.u64 d] := fu rfl rfl fun x => by kernel_rfl
/-! ## F125 -/
noncomputable def D125 (a d : Int) : PT A125 := .tot O132 (F132_ok a) fun f => .tot O132 (F132_ok d) fun i => .ask E184 (F184_ok f i) fun ⟨j, l⟩ => .ask E183 (F183_ok j l) fun ⟨m⟩ => .tot O132 (F132_ok m) fun o => .ret (.a0 o)
noncomputable def F125 (a d : Int) : Option A125 := (D125 a d).ev some
theorem F125_ok (a d : Int) : FU E125 (F125 a d) 125 [i64 a, i64 d] := fu rfl rfl fun x => by kernel_rfl
/-! ## F231 -/
noncomputable def D231 (d f i : Int) : PT A231 := .tot O74 (F74_ok i 0 65536) fun a => .ask E125 (F125_ok (w64 (65536 - a)) (w64 (65536 - a))) fun ⟨j⟩ => .ask E125 (F125_ok j a) fun ⟨l⟩ => .ask E125 (F125_ok (w64 (3 * l)) d) fun ⟨m⟩ => .ask E125 (F125_ok (w64 (65536 - a)) a) fun ⟨o⟩ => .ask E125 (F125_ok o a) fun ⟨p⟩ => .ask E125 (F125_ok (w64 (3 * p)) f) fun ⟨q⟩ => .tot O131 (F131_ok m q) fun s => .ask E125 (F125_ok a a) fun ⟨t⟩ => .ask E125 (F125_ok t a) fun ⟨u⟩ => .tot O131 (F131_ok s u) fun v => .ret (.a0 v)
noncomputable def F231 (a d f : Int) : Option A231 := (D231 a d f).ev some
theorem F231_ok (a d f : Int) : FU E231 (F231 a d f) 231 [i64 a, i64 d, i64 f] := fu rfl rfl fun x => by kernel_rfl
/-! ## F191 -/
noncomputable abbrev B191 : Code := (Tryz.f191.body).getD .skip
inductive T191_1s0 where
  | mk (a d f i j l m o : Int)
inductive T191_1e0 where
  | mk (a d f i j : Int)
inductive N191_1 where
  | s0 (x : T191_1s0)
  | e0 (x : T191_1e0)
abbrev N191_1.out : N191_1 → VX × S
  | .s0 (.mk a d f i j l m o) => (vN, S.mk (U :: i64 a :: pT 0 :: U :: U :: i64 d :: i64 f :: un 7 (i64 i :: un 22 [])) [oF 4 [[i64 j, i64 l, i64 m, i64 o]]])
  | .e0 (.mk p q s t u) => (vX 1, S.mk (U :: U :: pT 0 :: U :: U :: i64 p :: un 31 []) [oF 4 [[i64 q, i64 s, i64 t, i64 u]]])
abbrev E191_1 := Ent.o2 N191_1.out .s0 .e0 (fun b => by cases b <;> simp)
noncomputable def D191_1 : T191_1s0 → PT N191_1 | .mk j a d l f m i o => .test (l < 16) (fun h0 => .auto 3 <| .ask E231 (F231_ok f i (Int.fdiv (w64 (a + d)) 2)) fun ⟨p⟩ => .test (p ≤ j) (fun h1 => .ret (.s0 (.mk j (Int.fdiv (w64 (a + d)) 2) d (w64 (l + 1)) f m i o))) (fun h1 => .ret (.s0 (.mk j a (Int.fdiv (w64 (a + d)) 2) (w64 (l + 1)) f m i o)))) (fun h0 => .ret (.e0 (.mk a f m i o)))
noncomputable def L191_1 := E191_1.loop fun | .s0 x => D191_1 x | _ => .fail
theorem L191_1_ok : LU 191 0 B191 1 E191_1 L191_1 :=
  lk (L := notIn []) (fun b hb => by cases b <;> first | (cases hb; done) | (rename_i x; cases x; intro x; kernel_rfl) | (intro x; kernel_rfl))
noncomputable def N191_1.nx (n : Nat) : N191_1 → Option N191_1 | .s0 x => L191_1 n (.s0 x) | .e0 x => some (.e0 x)
theorem L191_1_s0 (n : Nat) (x : T191_1s0) : L191_1 (n + 1) (.s0 x) = (D191_1 x).ev (N191_1.nx n) := Ent.loop_eq fun c => by cases c <;> rfl
noncomputable def D191 (d f i j a : Int) : PT A191 := .test (a ≤ 0) (fun h0 => .ret (.a0 0)) (fun h0 => .test (a ≥ 65536) (fun h1 => .ret (.a0 65536)) (fun h1 => .cut E191_1 (L191_1_ok (.s0 (.mk a 0 65536 0 d f i j)) rfl) fun | .e0 (.mk l q m s o) => (.auto 2 <| .ask E231 (F231_ok m o l) fun ⟨p⟩ => .ret (.a0 p)) | _ => .fail))
noncomputable def F191 (a d f i j : Int) : Option A191 := (D191 a d f i j).ev some
theorem F191_ok (a d f i j : Int) : FU E191 (F191 a d f i j) 191 [V.agg [i64 a, i64 d, i64 f, i64 i], i64 j] := fu rfl rfl fun x => by kernel_rfl
/-! ## F135 -/
noncomputable def D135 (a f i j l d : Int) : PT A135 := .testB (a == 0) (fun h0 => .auto 2 <| .test (d ≥ 65536) (fun h1 => .ret (.a0 65536)) (fun h1 => .testB (a == 1) (fun h2 => .ret (.a0 d)) (fun h2 => .testB (a == 2) (fun h3 => .auto 1 <| .ask E191 (F191_ok f i j l d) fun ⟨m⟩ => .ret (.a0 m)) (fun h3 => .ret (.a0 0))))) (fun h0 => .auto 3 <| .testB (a == 1) (fun h1 => .ret (.a0 d)) (fun h1 => .testB (a == 2) (fun h2 => .auto 1 <| .ask E191 (F191_ok f i j l d) fun ⟨o⟩ => .ret (.a0 o)) (fun h2 => .ret (.a0 0))))
noncomputable def F135 (a d f i j l : Int) : Option A135 := (D135 a d f i j l).ev some
theorem F135_ok (a d f i j l : Int) : FU E135 (F135 a d f i j l) 135 [i64 a, V.agg [i64 d, i64 f, i64 i, i64 j], i64 l] := fu rfl rfl fun x => by kernel_rfl
/-! ## F134 -/
noncomputable def D134 (d f i : Int) : PT A134 := .tot O132 (F132_ok d) fun a => .tot O131 (F131_ok f (w64 (0 - a))) fun j => .ask E125 (F125_ok j i) fun ⟨l⟩ => .tot O131 (F131_ok a l) fun m => .ret (.a0 m)
noncomputable def F134 (a d f : Int) : Option A134 := (D134 a d f).ev some
theorem F134_ok (a d f : Int) : FU E134 (F134 a d f) 134 [i64 a, i64 d, i64 f] := fu rfl rfl fun x => by kernel_rfl
/-! ## F72 -/
noncomputable def D72 (d : LV) (i l : Int) : PT A72 := .testB ((d.length : Int) == 0) (fun h0 => .ret (.a0 l)) (fun h0 => .ask E133 (F133_ok d i) fun ⟨a⟩ => .testB (a == -1) (fun h1 => .auto 1 <| .look RW74 (d[(0 : Nat)]?) fun m => .ret (.a0 m.c1)) (fun h1 => .testB (a == w64 ((d.length : Int) - 1)) (fun h2 => .test (0 ≤ a) (fun h3 => .look RW74 (d[Int.toNat a]?) fun o => .ret (.a0 o.c1)) (fun _ => .fail)) (fun h2 => .test (0 ≤ a) (fun h3 => .look RW74 (d[Int.toNat a]?) fun f => .test (0 ≤ w64 (a + 1)) (fun h4 => .look RW74 (d[Int.toNat (w64 (a + (1 : Int)))]?) fun j => .auto 8 <| .ask E136 (F136_ok f.c0 j.c0 i) fun ⟨p⟩ => .ask E135 (F135_ok f.c2 f.c3 f.c4 f.c5 f.c6 p) fun ⟨q⟩ => .ask E134 (F134_ok f.c1 j.c1 q) fun ⟨s⟩ => .ret (.a0 s)) (fun _ => .fail)) (fun _ => .fail))))
noncomputable def F72 (a : LV) (d f : Int) : Option A72 := (D72 a d f).ev some
theorem F72_ok (a : LV) (d f : Int) : FU E72 (F72 a d f) 72 [lS 7 a, i64 d, i64 f] := fu rfl rfl fun x => by kernel_rfl
/-! ## F71 -/
noncomputable def D71 (d : LV) (f a : Int) : PT A71 := .auto 1 <| .ask E72 (F72_ok d a f) fun ⟨i⟩ => .ret (.a0 i a)
noncomputable def F71 (a : LV) (d f : Int) : Option A71 := (D71 a d f).ev some
theorem F71_ok (a : LV) (d f : Int) : FU E71 (F71 a d f) 71 [lS 7 a, i64 d, pT 0] [oF 1 [[i64 f]]] := fu rfl rfl fun x => by kernel_rfl
/-! ## F189 -/
noncomputable def D189 (a : Int) : PT Int := .auto 1 <| .test (Int.tmod a 23592960 < 0) (fun h0 => .ret (w64 (Int.tmod a 23592960 + 23592960))) (fun h0 => .ret (Int.tmod a 23592960))
abbrev O189 (a : Int) : V × Store := (i64 a, [])
noncomputable def F189 (a : Int) : Int := (D189 a).evT
theorem F189_ok (a : Int) : UU 189 ([i64 a]) ([]) = some (O189 (F189 a)) :=
  fnT_ok (out := O189) (L := notIn []) rfl rfl (fun x => by kernel_rfl) (by simp [D189, PT.isT])
/-! ## F128 -/
noncomputable def D128 (rF128 : Int → Option A128) (hF128 : ∀ (d : Int) (b : A128), rF128 d = some b → UU 128 ([i64 d]) ([]) = some (A128.out b)) (d : Int) : PT A128 := .tot O189 (F189_ok d) fun a => .test (a ≥ 11796480) (fun h0 => .ask E128 (hF128 (w64 (a - 11796480))) fun ⟨f⟩ => .ret (.a0 (w64 (0 - f)))) (fun h0 => .auto 1 <| .test (w64 (2654208000 - w64 (Int.tdiv (w64 (a * w64 (11796480 - a))) 65536)) = 0) (fun _ => .fail) (fun h1 => .ret (.a0 (w64 (Int.tdiv (w64 (w64 (4 * w64 (Int.tdiv (w64 (a * w64 (11796480 - a))) 65536)) * 65536)) (w64 (2654208000 - w64 (Int.tdiv (w64 (a * w64 (11796480 - a))) 65536))))))))
theorem D128_ok (rF128 : Int → Option A128) (hF128 : ∀ (a : Int) (b : A128), rF128 a = some b → UU 128 ([i64 a]) ([]) = some (A128.out b)) (a : Int) : ∀ b, (D128 rF128 hF128 a).ev some = some b → UU 128 ([i64 a]) ([]) = some (A128.out b) :=
  fn_ok (E := E128) (L := notIn []) rfl rfl (fun x => by kernel_rfl)
noncomputable def G128 : Nat → { r : Int → Option A128 // ∀ (a : Int) (b : A128), r a = some b → UU 128 ([i64 a]) ([]) = some (A128.out b) }
  | 0 => ⟨fun _ => none, fun _ _ h => by cases h⟩
  | n + 1 => ⟨fun a => (D128 (G128 n).1 (G128 n).2 a).ev some, fun a => D128_ok (G128 n).1 (G128 n).2 a⟩
noncomputable def F128 (n : Nat) (a : Int) : Option A128 := (G128 n).1 a
theorem F128_ok (n : Nat) (a : Int) : ∀ b, F128 n a = some b → UU 128 ([i64 a]) ([]) = some (A128.out b) := (G128 n).2 a
theorem F128_succ (n : Nat) (a : Int) : F128 (n + 1) a = (D128 (F128 n) (F128_ok n) a).ev some := rfl
/-! ## F127 -/
noncomputable def D127 (a : Int) : PT A127 := .tot O189 (F189_ok a) fun d => .ask E128 (F128_ok 100000 (w64 (d + 5898240))) fun ⟨f⟩ => .ret (.a0 f)
noncomputable def F127 (a : Int) : Option A127 := (D127 a).ev some
theorem F127_ok (a : Int) : FU E127 (F127 a) 127 [i64 a] := fu rfl rfl fun x => by kernel_rfl
/-! ## F137 -/
noncomputable def D137 (a d f i : Int) : PT A137 := .ask E125 (F125_ok a d) fun ⟨j⟩ => .ask E125 (F125_ok f i) fun ⟨l⟩ => .tot O131 (F131_ok j l) fun m => .ret (.a0 m)
noncomputable def F137 (a d f i : Int) : Option A137 := (D137 a d f i).ev some
theorem F137_ok (a d f i : Int) : FU E137 (F137 a d f i) 137 [i64 a, i64 d, i64 f, i64 i] := fu rfl rfl fun x => by kernel_rfl
/-! ## F73 -/
noncomputable def D73 (t u a d f i j : Int) : PT A73 := .ask E127 (F127_ok j) fun ⟨l⟩ => .ask E128 (F128_ok 100000 j) fun ⟨m⟩ => .ask E125 (F125_ok l f) fun ⟨o⟩ => .ask E125 (F125_ok m f) fun ⟨p⟩ => .ask E125 (F125_ok (w64 (0 - m)) i) fun ⟨q⟩ => .ask E125 (F125_ok l i) fun ⟨s⟩ => .auto 3 <| .ask E137 (F137_ok o a q d) fun ⟨v⟩ => .tot O131 (F131_ok t (w64 (0 - v))) fun w => .auto 3 <| .ask E137 (F137_ok p a s d) fun ⟨y⟩ => .tot O131 (F131_ok u (w64 (0 - y))) fun z => .auto 3 <| .ret (.a0 (W59.mk o p q s w z))
noncomputable def F73 (a d f i j l m : Int) : Option A73 := (D73 a d f i j l m).ev some
theorem F73_ok (a d f i j l m : Int) : FU E73 (F73 a d f i j l m) 73 [i64 a, i64 d, i64 f, i64 i, i64 j, i64 l, i64 m] := fu rfl rfl fun x => by kernel_rfl
/-! ## F21 -/
noncomputable def D21 (a : W57) (d : Int) : PT A21 := .auto 1 <| .tot O70 (F70_ok a d) fun f => .auto 2 <| .ask E71 (F71_ok a.c7 0 f) fun ⟨i, j⟩ => .auto 1 <| .ask E71 (F71_ok a.c8 0 j) fun ⟨l, m⟩ => .auto 1 <| .ask E71 (F71_ok a.c9 0 m) fun ⟨o, p⟩ => .auto 1 <| .ask E71 (F71_ok a.c10 0 p) fun ⟨q, s⟩ => .auto 1 <| .ask E71 (F71_ok a.c11 65536 s) fun ⟨t, u⟩ => .auto 1 <| .ask E71 (F71_ok a.c12 65536 u) fun ⟨v, w⟩ => .auto 1 <| .ask E71 (F71_ok a.c13 0 w) fun ⟨y, d0⟩ => .ask E73 (F73_ok i l o q t v y) fun ⟨z⟩ => .auto 1 <| .ret (.a0 z)
noncomputable def F21 (a : W57) (d : Int) : Option A21 := (D21 a d).ev some
theorem F21_ok (a : W57) (d : Int) : FU E21 (F21 a d) 21 [V.agg (W57.cells a), i64 d] := fu rfl rfl fun x => by kernel_rfl
/-! ## F77 -/
noncomputable def D77 (d : Int) (a : LV) : PT A77 := .test (d ≥ 0) (fun h0 => .auto 6 <| .ret (.a0 (decide (d < (a.length : Int))) a)) (fun h0 => .auto 5 <| .ret (.a0 false a))
noncomputable def F77 (a : Int) (d : LV) : Option A77 := (D77 a d).ev some
theorem F77_ok (a : Int) (d : LV) : FU E77 (F77 a d) 77 [i64 a, pT 0] [oF 1 [[lS 50 d]]] := fu rfl rfl fun x => by kernel_rfl
/-! ## F78 -/
noncomputable def D78 : PT W59 := .auto 1 <| .ret (W59.mk 65536 0 0 65536 0 0)
abbrev O78 (a : W59) : V × Store := (V.agg (W59.cells a), [])
noncomputable def F78 : W59 := (D78).evT
theorem F78_ok : UU 78 ([]) ([]) = some (O78 F78) :=
  fnT_ok (out := O78) (L := notIn []) rfl rfl (fun x => by kernel_rfl) (by simp [D78, PT.isT])
/-! ## F79 -/
noncomputable def D79 (a : W59) (d : W59) : PT A79 := .auto 4 <| .ask E137 (F137_ok a.c0 d.c0 a.c2 d.c1) fun ⟨f⟩ => .auto 4 <| .ask E137 (F137_ok a.c1 d.c0 a.c3 d.c1) fun ⟨i⟩ => .auto 4 <| .ask E137 (F137_ok a.c0 d.c2 a.c2 d.c3) fun ⟨j⟩ => .auto 4 <| .ask E137 (F137_ok a.c1 d.c2 a.c3 d.c3) fun ⟨l⟩ => .auto 4 <| .ask E137 (F137_ok a.c0 d.c4 a.c2 d.c5) fun ⟨m⟩ => .auto 1 <| .tot O131 (F131_ok m a.c4) fun o => .auto 4 <| .ask E137 (F137_ok a.c1 d.c4 a.c3 d.c5) fun ⟨p⟩ => .auto 1 <| .tot O131 (F131_ok p a.c5) fun q => .auto 1 <| .ret (.a0 (W59.mk f i j l o q))
noncomputable def F79 (a : W59) (d : W59) : Option A79 := (D79 a d).ev some
theorem F79_ok (a : W59) (d : W59) : FU E79 (F79 a d) 79 [V.agg (W59.cells a), V.agg (W59.cells d)] := fu rfl rfl fun x => by kernel_rfl
/-! ## F27 -/
noncomputable abbrev B27 : Code := (Tryz.f27.body).getD .skip
inductive T27_2s0 where
  | mk (a : Nat) (d : Int) (f : LV) (i : W59)
inductive T27_2e0 where
  | mk (a : W59)
inductive N27_2 where
  | s0 (x : T27_2s0)
  | e0 (x : T27_2e0)
abbrev N27_2.out : N27_2 → VX × S
  | .s0 (.mk a d f i) => (vN, S.mk (un 6 (pT 0 :: U :: hS 1 a :: U :: pT 2 :: i64 d :: un 64 [])) [oF 6 [W59.cells (W59.mk 0 0 0 0 0 0)], oT 6 f, oF 6 [W59.cells i]])
  | .e0 (.mk j) => (vX 2, S.mk (un 6 (pT 0 :: U :: U :: U :: pT 1 :: un 65 [])) [oF 6 [W59.cells (W59.mk 0 0 0 0 0 0)], oF 6 [W59.cells j]])
abbrev E27_2 := Ent.o2 N27_2.out .s0 .e0 (fun b => by cases b <;> simp)
noncomputable def D27_2 : T27_2s0 → PT N27_2 | .mk d a f i => .test (a ≥ 0) (fun h0 => .auto 1 <| .test (0 ≤ a ∧ a < (↑d : Int)) (fun h1 => .look RW59 (f[(0 : Nat) + Int.toNat a]?) fun j => .ask E79 (F79_ok i j) fun ⟨l⟩ => .auto 1 <| .ret (.s0 (.mk d (w64 (a - 1)) f l))) (fun _ => .fail)) (fun h0 => .ret (.e0 (.mk i)))
noncomputable def L27_2 := E27_2.loop fun | .s0 x => D27_2 x | _ => .fail
theorem L27_2_ok : LU 27 0 B27 2 E27_2 L27_2 :=
  lk (L := notIn []) (fun b hb => by cases b <;> first | (cases hb; done) | (rename_i x; cases x; intro x; kernel_rfl) | (intro x; kernel_rfl))
noncomputable def N27_2.nx (n : Nat) : N27_2 → Option N27_2 | .s0 x => L27_2 n (.s0 x) | .e0 x => some (.e0 x)
theorem L27_2_s0 (n : Nat) (x : T27_2s0) : L27_2 (n + 1) (.s0 x) = (D27_2 x).ev (N27_2.nx n) := Ent.loop_eq fun c => by cases c <;> rfl
inductive T27_r6s0 where
  | mk (a : Int) (d : Nat) (f : Int) (i j : LV)
abbrev T27_r6s0.st : T27_r6s0 → S
  | .mk a d f i j => S.mk (U :: U :: i64 a :: pT 0 :: U :: U :: pT 1 :: V.fn 77 [pT 0] :: hS 2 d :: i64 f :: un 66 []) [oF 1 [[lS 50 i]], oF 6 [W59.cells (W59.mk 0 0 0 0 0 0)], oT 6 j]
inductive T27_r6e0 where
  | mk (a : Int) (d : Nat) (f : Int) (i : Bool) (j l : LV)
inductive N27_r6 where
  | e0 (x : T27_r6e0)
abbrev N27_r6.out : N27_r6 → VX × S
  | .e0 (.mk a d f i j l) => (vN, S.mk (U :: U :: i64 a :: pT 0 :: U :: U :: pT 1 :: V.fn 77 [pT 0] :: hS 2 d :: i64 f :: un 29 (vb i :: un 36 [])) [oF 1 [[lS 50 j]], oF 6 [W59.cells (W59.mk 0 0 0 0 0 0)], oT 6 l])
abbrev E27_r6 := Ent.o1 N27_r6.out .e0 fun ⟨x⟩ => ⟨x, rfl⟩
noncomputable def D27_r6 : T27_r6s0 → PT N27_r6 | .mk f a d l i => .ask E77 (F77_ok d l) fun ⟨m, j⟩ => .testB m (fun h0 => .auto 3 <| .ret (.e0 (.mk f a d (decide ((↑a : Int) ≤ 16)) j i))) (fun h0 => .auto 3 <| .ret (.e0 (.mk f a d false j i)))
noncomputable def J27_r6 (y : T27_r6s0) : Option N27_r6 := (D27_r6 y).ev some
theorem J27_r6_ok (y : T27_r6s0) : ∀ b, J27_r6 y = some b → regP Tryz.prog X CC 27 0 B27 6 y.st = some (E27_r6.out b) := by
  cases y; exact reg_ok (E := E27_r6) (fun x => by kernel_rfl)
inductive T27_0s0 where
  | mk (a : Int) (d : Nat) (f : Int) (i j : LV)
inductive T27_0e0 where
  | mk (a : Nat) (d : LV)
inductive N27_0 where
  | s0 (x : T27_0s0)
  | e0 (x : T27_0e0)
abbrev N27_0.out : N27_0 → VX × S
  | .s0 (.mk a d f i j) => (vN, S.mk (U :: U :: i64 a :: pT 0 :: U :: U :: pT 1 :: V.fn 77 [pT 0] :: hS 2 d :: i64 f :: un 66 []) [oF 1 [[lS 50 i]], oF 6 [W59.cells (W59.mk 0 0 0 0 0 0)], oT 6 j])
  | .e0 (.mk l m) => (vX 0, S.mk (un 6 (pT 0 :: U :: hS 1 l :: un 67 [])) [oF 6 [W59.cells (W59.mk 0 0 0 0 0 0)], oT 6 m])
abbrev E27_0 := Ent.o2 N27_0.out .s0 .e0 (fun b => by cases b <;> simp)
noncomputable def D27_0 : T27_0s0 → PT N27_0 | .mk m o p q s => .cut E27_r6 (J27_r6_ok (.mk m o p q s)) fun | .e0 (.mk l a f t i j) => .testB t (fun h0 => .auto 1 <| .test (0 ≤ f) (fun h1 => .look RW57 (i[Int.toNat f]?) fun u => .ask E21 (F21_ok u l) fun ⟨d⟩ => .auto 1 <| .test (0 + a ≤ List.length j ∧ (a + 1) * 48 ≤ 140737488355328 ∧ a + 1 ≤ 140737488355328) (fun h2 => .auto 1 <| .known (decide_eq_true h1) <| .look RW57 (i[Int.toNat f]?) fun v => .ret (.s0 (.mk l (a + 1) v.c1 i (List.take a j ++ [[i64 d.c0, i64 d.c1, i64 d.c2, i64 d.c3, i64 d.c4, i64 d.c5]])))) (fun _ => .fail)) (fun _ => .fail)) (fun h0 => .ret (.e0 (.mk a j)))
noncomputable def L27_0 := E27_0.loop fun | .s0 x => D27_0 x | _ => .fail
theorem L27_0_ok : LU 27 0 B27 0 E27_0 L27_0 :=
  lk (L := notIn []) (fun b hb => by cases b <;> first | (cases hb; done) | (rename_i x; cases x; intro x; kernel_rfl) | (intro x; kernel_rfl))
noncomputable def N27_0.nx (n : Nat) : N27_0 → Option N27_0 | .s0 x => L27_0 n (.s0 x) | .e0 x => some (.e0 x)
theorem L27_0_s0 (n : Nat) (x : T27_0s0) : L27_0 (n + 1) (.s0 x) = (D27_0 x).ev (N27_0.nx n) := Ent.loop_eq fun c => by cases c <;> rfl
noncomputable def D27 (m : LV) (f j : Int) : PT A27 := .ask E77 (F77_ok f m) fun ⟨o, i⟩ => .testB (!o) (fun h0 => .tot O78 F78_ok fun p => .auto 1 <| .ret (.a0 p)) (fun h0 => .auto 1 <| .test (0 ≤ f) (fun h1 => .look RW57 (i[Int.toNat f]?) fun q => .ask E21 (F21_ok q j) fun ⟨a⟩ => .auto 1 <| .known (decide_eq_true h1) <| .look RW57 (i[Int.toNat f]?) fun s => .cut E27_0 (L27_0_ok (.s0 (.mk j 1 s.c1 i ([[i64 a.c0, i64 a.c1, i64 a.c2, i64 a.c3, i64 a.c4, i64 a.c5]]))) rfl) fun | .e0 (.mk d l) => (.test (0 ≤ w64 ((↑d : Int) - 1) ∧ w64 ((↑d : Int) - 1) < (↑d : Int)) (fun h2 => .look RW59 (l[(0 : Nat) + Int.toNat (w64 ((↑d : Int) - (1 : Int)))]?) fun t => .auto 1 <| .cut E27_2 (L27_2_ok (.s0 (.mk d (w64 ((↑d : Int) - 2)) l t)) rfl) fun | .e0 (.mk u) => (.auto 2 <| .ret (.a0 u)) | _ => .fail) (fun _ => .fail)) | _ => .fail) (fun _ => .fail))
noncomputable def F27 (a : LV) (d f : Int) : Option A27 := (D27 a d f).ev some
theorem F27_ok (a : LV) (d f : Int) : FU E27 (F27 a d f) 27 [V.agg [lS 50 a], i64 d, i64 f] := fu rfl rfl fun x => by kernel_rfl
/-! ## F145 -/
noncomputable def D145 (a d f : Int) : PT Int := .test (a < d) (fun h0 => .ret d) (fun h0 => .test (a > f) (fun h1 => .ret f) (fun h1 => .ret a))
abbrev O145 (a : Int) : V × Store := (i64 a, [])
noncomputable def F145 (a d f : Int) : Int := (D145 a d f).evT
theorem F145_ok (a d f : Int) : UU 145 ([i64 a, i64 d, i64 f]) ([]) = some (O145 (F145 a d f)) :=
  fnT_ok (out := O145) (L := notIn []) rfl rfl (fun x => by kernel_rfl) (by simp [D145, PT.isT])
/-! ## F186 -/
noncomputable def D186 (a : Int) : PT Int := .tot O145 (F145_ok a (-1099511627776) 1099511627776) fun d => .ret d
abbrev O186 (a : Int) : V × Store := (i64 a, [])
noncomputable def F186 (a : Int) : Int := (D186 a).evT
theorem F186_ok (a : Int) : UU 186 ([i64 a]) ([]) = some (O186 (F186 a)) :=
  fnT_ok (out := O186) (L := notIn []) rfl rfl (fun x => by kernel_rfl) (by simp [D186, PT.isT])
/-! ## F185 -/
noncomputable def D185 (a : Int) : PT A185 := .test (a < 0) (fun h0 => .ret (.a0 (IntKind.wrap IntKind.u64 (w64 (0 - a))) true)) (fun h0 => .ret (.a0 (IntKind.wrap IntKind.u64 a) false))
noncomputable def F185 (a : Int) : Option A185 := (D185 a).ev some
theorem F185_ok (a : Int) : FU E185 (F185 a) 185 [i64 a] := fu rfl rfl fun x => by kernel_rfl
/-! ## F282 -/
noncomputable def D282 (a : Int) : PT A282 := .test (a ≥ 4294967296) (fun h0 => .auto 1 <| .test (Int.fdiv a 4294967296 ≥ 65536) (fun h1 => .auto 1 <| .test (Int.fdiv (Int.fdiv a 4294967296) 65536 ≥ 256) (fun h2 => .auto 1 <| .test (0 ≤ IntKind.wrap IntKind.u8 (Int.fdiv (Int.fdiv (Int.fdiv a 4294967296) 65536) 256) ∧ Int.toNat (IntKind.wrap IntKind.u8 (Int.fdiv (Int.fdiv (Int.fdiv a 4294967296) 65536) 256)) < 256) (fun h3 => .ret (.a0 (w64 (56 + w64 (byteAt Y0 (Int.toNat (IntKind.wrap IntKind.u8 (Int.fdiv (Int.fdiv (Int.fdiv a 4294967296) 65536) 256)))))))) (fun _ => .fail)) (fun h2 => .test (0 ≤ IntKind.wrap IntKind.u8 (Int.fdiv (Int.fdiv a 4294967296) 65536) ∧ Int.toNat (IntKind.wrap IntKind.u8 (Int.fdiv (Int.fdiv a 4294967296) 65536)) < 256) (fun h3 => .ret (.a0 (w64 (48 + w64 (byteAt Y0 (Int.toNat (IntKind.wrap IntKind.u8 (Int.fdiv (Int.fdiv a 4294967296) 65536)))))))) (fun _ => .fail))) (fun h1 => .test (Int.fdiv a 4294967296 ≥ 256) (fun h2 => .auto 1 <| .test (0 ≤ IntKind.wrap IntKind.u8 (Int.fdiv (Int.fdiv a 4294967296) 256) ∧ Int.toNat (IntKind.wrap IntKind.u8 (Int.fdiv (Int.fdiv a 4294967296) 256)) < 256) (fun h3 => .ret (.a0 (w64 (40 + w64 (byteAt Y0 (Int.toNat (IntKind.wrap IntKind.u8 (Int.fdiv (Int.fdiv a 4294967296) 256)))))))) (fun _ => .fail)) (fun h2 => .test (0 ≤ IntKind.wrap IntKind.u8 (Int.fdiv a 4294967296) ∧ Int.toNat (IntKind.wrap IntKind.u8 (Int.fdiv a 4294967296)) < 256) (fun h3 => .ret (.a0 (w64 (32 + w64 (byteAt Y0 (Int.toNat (IntKind.wrap IntKind.u8 (Int.fdiv a 4294967296)))))))) (fun _ => .fail)))) (fun h0 => .test (a ≥ 65536) (fun h1 => .auto 1 <| .test (Int.fdiv a 65536 ≥ 256) (fun h2 => .auto 1 <| .test (0 ≤ IntKind.wrap IntKind.u8 (Int.fdiv (Int.fdiv a 65536) 256) ∧ Int.toNat (IntKind.wrap IntKind.u8 (Int.fdiv (Int.fdiv a 65536) 256)) < 256) (fun h3 => .ret (.a0 (w64 (24 + w64 (byteAt Y0 (Int.toNat (IntKind.wrap IntKind.u8 (Int.fdiv (Int.fdiv a 65536) 256)))))))) (fun _ => .fail)) (fun h2 => .test (0 ≤ IntKind.wrap IntKind.u8 (Int.fdiv a 65536) ∧ Int.toNat (IntKind.wrap IntKind.u8 (Int.fdiv a 65536)) < 256) (fun h3 => .ret (.a0 (w64 (16 + w64 (byteAt Y0 (Int.toNat (IntKind.wrap IntKind.u8 (Int.fdiv a 65536)))))))) (fun _ => .fail))) (fun h1 => .test (a ≥ 256) (fun h2 => .auto 1 <| .test (0 ≤ IntKind.wrap IntKind.u8 (Int.fdiv a 256) ∧ Int.toNat (IntKind.wrap IntKind.u8 (Int.fdiv a 256)) < 256) (fun h3 => .ret (.a0 (w64 (8 + w64 (byteAt Y0 (Int.toNat (IntKind.wrap IntKind.u8 (Int.fdiv a 256)))))))) (fun _ => .fail)) (fun h2 => .test (0 ≤ IntKind.wrap IntKind.u8 a ∧ Int.toNat (IntKind.wrap IntKind.u8 a) < 256) (fun h3 => .ret (.a0 (w64 (0 + w64 (byteAt Y0 (Int.toNat (IntKind.wrap IntKind.u8 a))))))) (fun _ => .fail))))
noncomputable def F282 (a : Int) : Option A282 := (D282 a).ev some
theorem F282_ok (a : Int) : FU E282 (F282 a) 282 [V.int IntKind.u64 a] := fu rfl rfl fun x => by kernel_rfl
/-! ## F263 -/
noncomputable def D263 (a : Int) : PT A263 := .ask E282 (F282_ok a) fun ⟨d⟩ => .ret (.a0 (w64 (64 - d)))
noncomputable def F263 (a : Int) : Option A263 := (D263 a).ev some
theorem F263_ok (a : Int) : FU E263 (F263 a) 263 [V.int IntKind.u64 a] := fu rfl rfl fun x => by kernel_rfl
/-! ## F230 -/
noncomputable abbrev B230 : Code := (Tryz.f230.body).getD .skip
inductive T230_2s0 where
  | mk (a d f i j l m o p : Int)
inductive T230_2e0 where
  | mk (a d f i j l : Int)
inductive N230_2 where
  | s0 (x : T230_2s0)
  | e0 (x : T230_2e0)
abbrev N230_2.out : N230_2 → VX × S
  | .s0 (.mk a d f i j l m o p) => (vN, S.mk (U :: U :: V.int IntKind.u64 a :: un 5 (V.int IntKind.u64 d :: V.int IntKind.u64 f :: V.int IntKind.u64 i :: U :: U :: U :: V.int IntKind.u64 j :: V.int IntKind.u64 l :: V.int IntKind.u64 m :: V.int IntKind.u64 o :: V.int IntKind.u64 p :: un 116 [])) [])
  | .e0 (.mk q s t u v w) => (vX 2, S.mk (U :: U :: V.int IntKind.u64 q :: un 5 (V.int IntKind.u64 s :: un 5 (V.int IntKind.u64 t :: V.int IntKind.u64 u :: U :: V.int IntKind.u64 v :: V.int IntKind.u64 w :: un 116 []))) [])
abbrev E230_2 := Ent.o2 N230_2.out .s0 .e0 (fun b => by cases b <;> simp)
noncomputable def D230_2 : T230_2s0 → PT N230_2 | .mk i j d p f l m o a => .test (a ≥ 4294967296) (fun h0 => .auto 9 <| .test (IntKind.wrap IntKind.u64 (m + d) ≥ 4294967296) (fun h1 => .ret (.e0 (.mk i j f l o (IntKind.wrap IntKind.u64 (a - 1))))) (fun h1 => .ret (.s0 (.mk i j d p f l (IntKind.wrap IntKind.u64 (m + d)) o (IntKind.wrap IntKind.u64 (a - 1)))))) (fun h0 => .auto 8 <| .test (IntKind.wrap IntKind.u64 (a * p) > IntKind.wrap IntKind.u64 (IntKind.wrap IntKind.u64 (4294967296 * m) + f)) (fun h1 => .test (IntKind.wrap IntKind.u64 (m + d) ≥ 4294967296) (fun h2 => .ret (.e0 (.mk i j f l o (IntKind.wrap IntKind.u64 (a - 1))))) (fun h2 => .ret (.s0 (.mk i j d p f l (IntKind.wrap IntKind.u64 (m + d)) o (IntKind.wrap IntKind.u64 (a - 1)))))) (fun h1 => .ret (.e0 (.mk i j f l o a))))
noncomputable def L230_2 := E230_2.loop fun | .s0 x => D230_2 x | _ => .fail
theorem L230_2_ok : LU 230 0 B230 2 E230_2 L230_2 :=
  lk (L := notIn []) (fun b hb => by cases b <;> first | (cases hb; done) | (rename_i x; cases x; intro x; kernel_rfl) | (intro x; kernel_rfl))
noncomputable def N230_2.nx (n : Nat) : N230_2 → Option N230_2 | .s0 x => L230_2 n (.s0 x) | .e0 x => some (.e0 x)
theorem L230_2_s0 (n : Nat) (x : T230_2s0) : L230_2 (n + 1) (.s0 x) = (D230_2 x).ev (N230_2.nx n) := Ent.loop_eq fun c => by cases c <;> rfl
inductive T230_0s0 where
  | mk (a d f i j l m o p : Int)
inductive T230_0e0 where
  | mk (a d f i j l m o : Int)
inductive N230_0 where
  | s0 (x : T230_0s0)
  | e0 (x : T230_0e0)
abbrev N230_0.out : N230_0 → VX × S
  | .s0 (.mk a d f i j l m o p) => (vN, S.mk (U :: U :: V.int IntKind.u64 a :: un 5 (V.int IntKind.u64 d :: V.int IntKind.u64 f :: V.int IntKind.u64 i :: V.int IntKind.u64 j :: U :: V.int IntKind.u64 l :: V.int IntKind.u64 m :: V.int IntKind.u64 o :: V.int IntKind.u64 p :: un 118 [])) [])
  | .e0 (.mk q s t u v w y z) => (vX 0, S.mk (U :: U :: V.int IntKind.u64 q :: un 5 (V.int IntKind.u64 s :: V.int IntKind.u64 t :: V.int IntKind.u64 u :: V.int IntKind.u64 v :: U :: V.int IntKind.u64 w :: V.int IntKind.u64 y :: V.int IntKind.u64 z :: un 119 [])) [])
abbrev E230_0 := Ent.o2 N230_0.out .s0 .e0 (fun b => by cases b <;> simp)
noncomputable def D230_0 : T230_0s0 → PT N230_0 | .mk j l a f m i o d p => .test (d ≥ 4294967296) (fun h0 => .auto 9 <| .test (IntKind.wrap IntKind.u64 (p + a) ≥ 4294967296) (fun h1 => .ret (.e0 (.mk j l a f m i o (IntKind.wrap IntKind.u64 (d - 1))))) (fun h1 => .ret (.s0 (.mk j l a f m i o (IntKind.wrap IntKind.u64 (d - 1)) (IntKind.wrap IntKind.u64 (p + a)))))) (fun h0 => .auto 8 <| .test (IntKind.wrap IntKind.u64 (d * f) > IntKind.wrap IntKind.u64 (IntKind.wrap IntKind.u64 (4294967296 * p) + i)) (fun h1 => .test (IntKind.wrap IntKind.u64 (p + a) ≥ 4294967296) (fun h2 => .ret (.e0 (.mk j l a f m i o (IntKind.wrap IntKind.u64 (d - 1))))) (fun h2 => .ret (.s0 (.mk j l a f m i o (IntKind.wrap IntKind.u64 (d - 1)) (IntKind.wrap IntKind.u64 (p + a)))))) (fun h1 => .ret (.e0 (.mk j l a f m i o d))))
noncomputable def L230_0 := E230_0.loop fun | .s0 x => D230_0 x | _ => .fail
theorem L230_0_ok : LU 230 0 B230 0 E230_0 L230_0 :=
  lk (L := notIn []) (fun b hb => by cases b <;> first | (cases hb; done) | (rename_i x; cases x; intro x; kernel_rfl) | (intro x; kernel_rfl))
noncomputable def N230_0.nx (n : Nat) : N230_0 → Option N230_0 | .s0 x => L230_0 n (.s0 x) | .e0 x => some (.e0 x)
theorem L230_0_s0 (n : Nat) (x : T230_0s0) : L230_0 (n + 1) (.s0 x) = (D230_0 x).ev (N230_0.nx n) := Ent.loop_eq fun c => by cases c <;> rfl
noncomputable def D230 (i f d : Int) : PT A230 := .testB (d == 0) (fun _ => .fail) (fun h0 => .test (d ≤ i) (fun _ => .fail) (fun h1 => .testB (i == 0) (fun h2 => .test (d = 0) (fun _ => .fail) (fun h3 => .known (decide_eq_false h3) <| .ret (.a0 (IntKind.wrap IntKind.u64 (Int.tdiv f d)) (Int.tmod f d)))) (fun h2 => .ask E263 (F263_ok d) fun ⟨a⟩ => .test (IntKind.wrap IntKind.u64 a < 0) (fun _ => .fail) (fun h3 => .auto 1 <| .known (decide_eq_false h3) <| .test (IntKind.wrap IntKind.u64 (64 - IntKind.wrap IntKind.u64 a) < 0) (fun _ => .fail) (fun h4 => .known (decide_eq_false h3) <| .auto 1 <| .test (Int.fdiv (IntKind.wrap IntKind.u64 (d * 2 ^ min (Int.toNat (IntKind.wrap IntKind.u64 a)) 64)) 4294967296 = 0) (fun _ => .fail) (fun h5 => let Q0 := (BitVec.toNat (BitVec.ofInt (IntKind.bits IntKind.u64) (IntKind.wrap IntKind.u64 (i * 2 ^ min (Int.toNat (IntKind.wrap IntKind.u64 a)) (IntKind.bits IntKind.u64))) ||| BitVec.ofInt (IntKind.bits IntKind.u64) (Int.fdiv f (2 ^ min (Int.toNat (IntKind.wrap IntKind.u64 (64 - IntKind.wrap IntKind.u64 a))) (IntKind.bits IntKind.u64))))); .cut E230_0 (L230_0_ok (.s0 (.mk (IntKind.wrap IntKind.u64 (d * 2 ^ min (Int.toNat (IntKind.wrap IntKind.u64 a)) 64)) (IntKind.wrap IntKind.u64 a) (Int.fdiv (IntKind.wrap IntKind.u64 (d * 2 ^ min (Int.toNat (IntKind.wrap IntKind.u64 a)) 64)) 4294967296) (IntKind.wrap IntKind.u64 (↑(BitVec.toNat (BitVec.ofInt (IntKind.bits IntKind.u64) (IntKind.wrap IntKind.u64 (d * 2 ^ min (Int.toNat (IntKind.wrap IntKind.u64 a)) 64)) &&& BitVec.ofInt (IntKind.bits IntKind.u64) 4294967295)) : Int)) (IntKind.wrap IntKind.u64 (↑Q0 : Int)) (Int.fdiv (IntKind.wrap IntKind.u64 (f * 2 ^ min (Int.toNat (IntKind.wrap IntKind.u64 a)) 64)) 4294967296) (IntKind.wrap IntKind.u64 (↑(BitVec.toNat (BitVec.ofInt (IntKind.bits IntKind.u64) (IntKind.wrap IntKind.u64 (f * 2 ^ min (Int.toNat (IntKind.wrap IntKind.u64 a)) 64)) &&& BitVec.ofInt (IntKind.bits IntKind.u64) 4294967295)) : Int)) (IntKind.wrap IntKind.u64 (Int.tdiv (IntKind.wrap IntKind.u64 (↑Q0 : Int)) (Int.fdiv (IntKind.wrap IntKind.u64 (d * 2 ^ min (Int.toNat (IntKind.wrap IntKind.u64 a)) 64)) 4294967296))) (IntKind.wrap IntKind.u64 (IntKind.wrap IntKind.u64 (↑Q0 : Int) - IntKind.wrap IntKind.u64 (IntKind.wrap IntKind.u64 (Int.tdiv (IntKind.wrap IntKind.u64 (↑Q0 : Int)) (Int.fdiv (IntKind.wrap IntKind.u64 (d * 2 ^ min (Int.toNat (IntKind.wrap IntKind.u64 a)) 64)) 4294967296)) * Int.fdiv (IntKind.wrap IntKind.u64 (d * 2 ^ min (Int.toNat (IntKind.wrap IntKind.u64 a)) 64)) 4294967296))))) rfl) fun | .e0 (.mk j t l u o p v m) => (.test (l = 0) (fun _ => .fail) (fun h6 => let Q1 := (IntKind.wrap IntKind.u64 (IntKind.wrap IntKind.u64 (IntKind.wrap IntKind.u64 (o * 4294967296) + p) - IntKind.wrap IntKind.u64 (m * j))); .cut E230_2 (L230_2_ok (.s0 (.mk j t l u v m (IntKind.wrap IntKind.u64 (IntKind.wrap IntKind.u64 (IntKind.wrap IntKind.u64 (IntKind.wrap IntKind.u64 (o * 4294967296) + p) - IntKind.wrap IntKind.u64 (m * j)) - IntKind.wrap IntKind.u64 (IntKind.wrap IntKind.u64 (Int.tdiv Q1 l) * l))) Q1 (IntKind.wrap IntKind.u64 (Int.tdiv Q1 l)))) rfl) fun | .e0 (.mk w q y z d0 s) => .test (q < 0) (fun _ => .fail) (fun h7 => .ret (.a0 (IntKind.wrap IntKind.u64 (IntKind.wrap IntKind.u64 (z * 4294967296) + s)) (Int.fdiv (IntKind.wrap IntKind.u64 (IntKind.wrap IntKind.u64 (IntKind.wrap IntKind.u64 (d0 * 4294967296) + y) - IntKind.wrap IntKind.u64 (s * w))) (2 ^ min (Int.toNat q) 64)))) | _ => .fail)) | _ => .fail))))))
noncomputable def F230 (a d f : Int) : Option A230 := (D230 a d f).ev some
theorem F230_ok (a d f : Int) : FU E230 (F230 a d f) 230 [V.int IntKind.u64 a, V.int IntKind.u64 d, V.int IntKind.u64 f] := fu rfl rfl fun x => by kernel_rfl
/-! ## F188 -/
noncomputable abbrev B188 : Code := (Tryz.f188.body).getD .skip
inductive T188_r6s0 where
  | mk (a : Bool) (d f : Int)
abbrev T188_r6s0.st : T188_r6s0 → S
  | .mk a d f => S.mk (U :: U :: U :: vb a :: un 5 (V.int IntKind.u64 d :: V.int IntKind.u64 f :: un 31 [])) []
inductive T188_r6e0 where
  | mk (a : Bool) (d : Int) (f : Bool)
inductive N188_r6 where
  | e0 (x : T188_r6e0)
abbrev N188_r6.out : N188_r6 → VX × S
  | .e0 (.mk a d f) => (vN, S.mk (U :: U :: U :: vb a :: un 5 (V.int IntKind.u64 d :: un 21 (vb f :: un 10 []))) [])
abbrev E188_r6 := Ent.o1 N188_r6.out .e0 fun ⟨x⟩ => ⟨x, rfl⟩
noncomputable def D188_r6 : T188_r6s0 → PT N188_r6 | .mk a d f => .testB a (fun h0 => .auto 2 <| .test (f > 0) (fun h1 => .auto 2 <| .ret (.e0 (.mk a d (decide (d < 4611686018427387904))))) (fun h1 => .auto 2 <| .ret (.e0 (.mk a d false)))) (fun h0 => .auto 5 <| .ret (.e0 (.mk a d false)))
noncomputable def J188_r6 (y : T188_r6s0) : Option N188_r6 := (D188_r6 y).ev some
theorem J188_r6_ok (y : T188_r6s0) : ∀ b, J188_r6 y = some b → regP Tryz.prog X CC 188 0 B188 6 y.st = some (E188_r6.out b) := by
  cases y; exact reg_ok (E := E188_r6) (fun x => by kernel_rfl)
noncomputable def D188 (d l f : Int) (i : Bool) : PT A188 := .test (d ≥ f) (fun h0 => .testB i (fun h1 => .ret (.a0 (-1099511627776))) (fun h1 => .ret (.a0 1099511627776))) (fun h0 => .ask E230 (F230_ok d l f) fun ⟨m, o⟩ => .cut E188_r6 (J188_r6_ok (.mk i m o)) fun | .e0 (.mk j a p) => .testB p (fun h1 => .testB j (fun h2 => .tot O186 (F186_ok (w64 (0 - w64 (if 4611686018427387904 < IntKind.wrap IntKind.u64 (a + 1) then 4611686018427387904 else IntKind.wrap IntKind.u64 (a + 1))))) fun q => .ret (.a0 q)) (fun h2 => .tot O186 (F186_ok (w64 (if 4611686018427387904 < IntKind.wrap IntKind.u64 (a + 1) then 4611686018427387904 else IntKind.wrap IntKind.u64 (a + 1)))) fun s => .ret (.a0 s))) (fun h1 => .testB j (fun h2 => .tot O186 (F186_ok (w64 (0 - w64 (if 4611686018427387904 < a then 4611686018427387904 else a)))) fun t => .ret (.a0 t)) (fun h2 => .tot O186 (F186_ok (w64 (if 4611686018427387904 < a then 4611686018427387904 else a))) fun u => .ret (.a0 u))))
noncomputable def F188 (a d f : Int) (i : Bool) : Option A188 := (D188 a d f i).ev some
theorem F188_ok (a d f : Int) (i : Bool) : FU E188 (F188 a d f i) 188 [V.int IntKind.u64 a, V.int IntKind.u64 d, V.int IntKind.u64 f, vb i] := fu rfl rfl fun x => by kernel_rfl
/-! ## F126 -/
noncomputable def D126 (a d : Int) : PT A126 := .tot O186 (F186_ok a) fun f => .ask E185 (F185_ok f) fun ⟨i, j⟩ => .tot O186 (F186_ok d) fun l => .ask E185 (F185_ok l) fun ⟨m, o⟩ => .ask E187 (F187_ok i m) fun ⟨p, q⟩ => .ask E188 (F188_ok p q 65536 (!j == o)) fun ⟨s⟩ => .ret (.a0 s)
noncomputable def F126 (a d : Int) : Option A126 := (D126 a d).ev some
theorem F126_ok (a d : Int) : FU E126 (F126 a d) 126 [i64 a, i64 d] := fu rfl rfl fun x => by kernel_rfl
/-! ## F141 -/
noncomputable def D141 (a d : Int) : PT Int := .tot O186 (F186_ok a) fun f => .tot O186 (F186_ok d) fun i => .tot O186 (F186_ok (w64 (f + i))) fun j => .ret j
abbrev O141 (a : Int) : V × Store := (i64 a, [])
noncomputable def F141 (a d : Int) : Int := (D141 a d).evT
theorem F141_ok (a d : Int) : UU 141 ([i64 a, i64 d]) ([]) = some (O141 (F141 a d)) :=
  fnT_ok (out := O141) (L := notIn []) rfl rfl (fun x => by kernel_rfl) (by simp [D141, PT.isT])
/-! ## F76 -/
noncomputable def D76 (a d f i j : Int) : PT A76 := .ask E126 (F126_ok a d) fun ⟨l⟩ => .ask E126 (F126_ok f i) fun ⟨m⟩ => .tot O141 (F141_ok l m) fun o => .tot O141 (F141_ok o j) fun p => .ret (.a0 p)
noncomputable def F76 (a d f i j : Int) : Option A76 := (D76 a d f i j).ev some
theorem F76_ok (a d f i j : Int) : FU E76 (F76 a d f i j) 76 [i64 a, i64 d, i64 f, i64 i, i64 j] := fu rfl rfl fun x => by kernel_rfl
/-! ## F26 -/
noncomputable def D26 (a : W59) (d : W59) : PT A26 := .auto 4 <| .ask E76 (F76_ok a.c0 d.c0 a.c2 d.c1 0) fun ⟨f⟩ => .auto 4 <| .ask E76 (F76_ok a.c1 d.c0 a.c3 d.c1 0) fun ⟨i⟩ => .auto 4 <| .ask E76 (F76_ok a.c0 d.c2 a.c2 d.c3 0) fun ⟨j⟩ => .auto 4 <| .ask E76 (F76_ok a.c1 d.c2 a.c3 d.c3 0) fun ⟨l⟩ => .auto 5 <| .ask E76 (F76_ok a.c0 d.c4 a.c2 d.c5 a.c4) fun ⟨m⟩ => .auto 5 <| .ask E76 (F76_ok a.c1 d.c4 a.c3 d.c5 a.c5) fun ⟨o⟩ => .auto 1 <| .ret (.a0 (W59.mk f i j l m o))
noncomputable def F26 (a : W59) (d : W59) : Option A26 := (D26 a d).ev some
theorem F26_ok (a : W59) (d : W59) : FU E26 (F26 a d) 26 [V.agg (W59.cells a), V.agg (W59.cells d)] := fu rfl rfl fun x => by kernel_rfl
/-! ## F32 -/
noncomputable def D32 : PT W59 := .auto 1 <| .ret (W59.mk 65536 0 0 65536 0 0)
abbrev O32 (a : W59) : V × Store := (V.agg (W59.cells a), [])
noncomputable def F32 : W59 := (D32).evT
theorem F32_ok : UU 32 ([]) ([]) = some (O32 F32) :=
  fnT_ok (out := O32) (L := notIn []) rfl rfl (fun x => by kernel_rfl) (by simp [D32, PT.isT])
/-! ## F22 -/
noncomputable def D22 (a : W57) (d : Int) : PT A22 := .auto 2 <| .tot O70 (F70_ok a d) fun f => .ask E72 (F72_ok a.c14 f 65536) fun ⟨i⟩ => .tot O74 (F74_ok i 0 65536) fun j => .auto 1 <| .ret (.a0 (w64 (Int.tdiv (w64 (j * 255)) 65536)))
noncomputable def F22 (a : W57) (d : Int) : Option A22 := (D22 a d).ev some
theorem F22_ok (a : W57) (d : Int) : FU E22 (F22 a d) 22 [V.agg (W57.cells a), i64 d] := fu rfl rfl fun x => by kernel_rfl
/-! ## F23 -/
noncomputable def D23 (a : W57) (d : Int) : PT Bool := .auto 1 <| .test (a.c4 ≤ d) (fun h0 => .auto 5 <| .ret (decide (d < a.c5))) (fun h0 => .auto 4 <| .ret false)
abbrev O23 (a : Bool) : V × Store := (vb a, [])
noncomputable def F23 (a : W57) (d : Int) : Bool := (D23 a d).evT
theorem F23_ok (a : W57) (d : Int) : UU 23 ([V.agg (W57.cells a), i64 d]) ([]) = some (O23 (F23 a d)) :=
  fnT_ok (out := O23) (L := notIn []) rfl rfl (fun x => by kernel_rfl) (by simp [D23, PT.isT])
/-! ## F24 -/
noncomputable def D24 (a : W57) (f : Int) : PT A24 := .auto 1 <| .tot O70 (F70_ok a f) fun d => .auto 1 <| .ask E72 (F72_ok a.c15 d d) fun ⟨i⟩ => .ret (.a0 i)
noncomputable def F24 (a : W57) (d : Int) : Option A24 := (D24 a d).ev some
theorem F24_ok (a : W57) (d : Int) : FU E24 (F24 a d) 24 [V.agg (W57.cells a), i64 d] := fu rfl rfl fun x => by kernel_rfl
/-! ## F123 -/
noncomputable def D123 (a d : Int) : PT A123 := .auto 1 <| .ret (.a0 a d)
noncomputable def F123 (a d : Int) : Option A123 := (D123 a d).ev some
theorem F123_ok (a d : Int) : FU E123 (F123 a d) 123 [i64 a, i64 d] := fu rfl rfl fun x => by kernel_rfl
/-! ## F122 -/
noncomputable abbrev B122 : Code := (Tryz.f122.body).getD .skip
inductive T122_0s0 where
  | mk (a : LV) (d f : Int) (i : Nat) (j : LV)
inductive T122_0e0 where
  | mk (a : Nat) (d : LV)
inductive N122_0 where
  | s0 (x : T122_0s0)
  | e0 (x : T122_0e0)
abbrev N122_0.out : N122_0 → VX × S
  | .s0 (.mk a d f i j) => (vN, S.mk (lS 2 a :: U :: pT 0 :: pT 1 :: un 8 (lS 2 a :: i64 d :: i64 f :: un 22 [])) [oF 2 [[vb false, hS 2 0]], oF 2 [[vb true, hS 3 i]], oT 2 [], oT 2 j])
  | .e0 (.mk l m) => (vX 0, S.mk (U :: U :: pT 0 :: pT 1 :: un 33 []) [oF 2 [[vb false, hS 2 0]], oF 2 [[vb true, hS 3 l]], oT 2 [], oT 2 m])
abbrev E122_0 := Ent.o2 N122_0.out .s0 .e0 (fun b => by cases b <;> simp)
noncomputable def D122_0 : T122_0s0 → PT N122_0 | .mk a l d f j => .test (d < l) (fun h0 => .test (0 ≤ d) (fun h1 => .look RW28 (a[Int.toNat d]?) fun m => .auto 1 <| .test ((a.length : Int) = 0) (fun _ => .fail) (fun h2 => .test (0 ≤ Int.tmod (w64 (d + 1)) (a.length : Int)) (fun h3 => .look RW28 (a[Int.toNat (Int.tmod (w64 (d + (1 : Int))) (a.length : Int))]?) fun i => .auto 6 <| .test (0 + f ≤ List.length j ∧ (f + 3) * 16 ≤ 140737488355328 ∧ f + 3 ≤ 140737488355328) (fun h4 => .auto 1 <| .ret (.s0 (.mk a l (w64 (d + 1)) (f + 3) (List.take f j ++ [[i64 m.c0, i64 m.c1], [i64 i.c0, i64 i.c1], [i64 i.c0, i64 i.c1]])))) (fun _ => .fail)) (fun _ => .fail))) (fun _ => .fail)) (fun h0 => .ret (.e0 (.mk f j)))
noncomputable def L122_0 := E122_0.loop fun | .s0 x => D122_0 x | _ => .fail
theorem L122_0_ok : LU 122 0 B122 0 E122_0 L122_0 :=
  lk (L := notIn []) (fun b hb => by cases b <;> first | (cases hb; done) | (rename_i x; cases x; intro x; kernel_rfl) | (intro x; kernel_rfl))
noncomputable def N122_0.nx (n : Nat) : N122_0 → Option N122_0 | .s0 x => L122_0 n (.s0 x) | .e0 x => some (.e0 x)
theorem L122_0_s0 (n : Nat) (x : T122_0s0) : L122_0 (n + 1) (.s0 x) = (D122_0 x).ev (N122_0.nx n) := Ent.loop_eq fun c => by cases c <;> rfl
noncomputable def D122 (a : LV) : PT A122 := .auto 1 <| .look RW28 (a[(0 : Nat)]?) fun d => .auto 1 <| .cut E122_0 (L122_0_ok (.s0 (.mk a ((a.length : Int)) 0 1 ([[i64 d.c0, i64 d.c1]]))) rfl) fun | .e0 (.mk f i) => (.auto 2 <| .ret (.a0 true f i)) | _ => .fail
noncomputable def F122 (a : LV) : Option A122 := (D122 a).ev some
theorem F122_ok (a : LV) : FU E122 (F122 a) 122 [lS 2 a] := fu rfl rfl fun x => by kernel_rfl
/-! ## F63 -/
noncomputable def D63 (a d : Int) : PT A63 := .auto 2 <| .ask E123 (F123_ok (w64 (0 - Int.fdiv a 2)) (w64 (0 - Int.fdiv d 2))) fun ⟨f, i⟩ => .ask E123 (F123_ok (w64 (a - Int.fdiv a 2)) (w64 (0 - Int.fdiv d 2))) fun ⟨j, l⟩ => .ask E123 (F123_ok (w64 (a - Int.fdiv a 2)) (w64 (d - Int.fdiv d 2))) fun ⟨m, o⟩ => .ask E123 (F123_ok (w64 (0 - Int.fdiv a 2)) (w64 (d - Int.fdiv d 2))) fun ⟨p, q⟩ => .auto 1 <| .ask E122 (F122_ok ([[i64 f, i64 i], [i64 j, i64 l], [i64 m, i64 o], [i64 p, i64 q]])) fun ⟨s, t, u⟩ => .auto 1 <| .ret (.a0 s t u)
noncomputable def F63 (a d : Int) : Option A63 := (D63 a d).ev some
theorem F63_ok (a d : Int) : FU E63 (F63 a d) 63 [i64 a, i64 d] := fu rfl rfl fun x => by kernel_rfl
/-! ## F65 -/
noncomputable def D65 (a d : Int) : PT A65 := .auto 2 <| .ask E125 (F125_ok (Int.fdiv a 2) 36195) fun ⟨f⟩ => .ask E125 (F125_ok (Int.fdiv d 2) 36195) fun ⟨i⟩ => .ask E123 (F123_ok (Int.fdiv a 2) 0) fun ⟨j, l⟩ => .ask E123 (F123_ok (Int.fdiv a 2) i) fun ⟨m, o⟩ => .ask E123 (F123_ok f (Int.fdiv d 2)) fun ⟨p, q⟩ => .ask E123 (F123_ok 0 (Int.fdiv d 2)) fun ⟨s, t⟩ => .ask E123 (F123_ok (w64 (0 - f)) (Int.fdiv d 2)) fun ⟨u, v⟩ => .ask E123 (F123_ok (w64 (0 - Int.fdiv a 2)) i) fun ⟨w, y⟩ => .ask E123 (F123_ok (w64 (0 - Int.fdiv a 2)) 0) fun ⟨z, d0⟩ => .ask E123 (F123_ok (w64 (0 - Int.fdiv a 2)) (w64 (0 - i))) fun ⟨d1, d2⟩ => .ask E123 (F123_ok (w64 (0 - f)) (w64 (0 - Int.fdiv d 2))) fun ⟨d3, d4⟩ => .ask E123 (F123_ok 0 (w64 (0 - Int.fdiv d 2))) fun ⟨d5, d6⟩ => .ask E123 (F123_ok f (w64 (0 - Int.fdiv d 2))) fun ⟨d7, d8⟩ => .ask E123 (F123_ok (Int.fdiv a 2) (w64 (0 - i))) fun ⟨d9, f0⟩ => .ask E123 (F123_ok (Int.fdiv a 2) 0) fun ⟨f1, f2⟩ => .auto 1 <| .ret (.a0 true 13 ([[i64 j, i64 l], [i64 m, i64 o], [i64 p, i64 q], [i64 s, i64 t], [i64 u, i64 v], [i64 w, i64 y], [i64 z, i64 d0], [i64 d1, i64 d2], [i64 d3, i64 d4], [i64 d5, i64 d6], [i64 d7, i64 d8], [i64 d9, i64 f0], [i64 f1, i64 f2]]))
noncomputable def F65 (a d : Int) : Option A65 := (D65 a d).ev some
theorem F65_ok (a d : Int) : FU E65 (F65 a d) 65 [i64 a, i64 d] := fu rfl rfl fun x => by kernel_rfl
end Go.Proofs.YtifalphladcdcaaGreat.H
