/- What the functions compute, and that they do so over the machine of plain values (printed by this session's program wip/vm/Walk.lean). No condition beyond those stated. -/
import Derived.Test.YtifalphladcdcaaGreatWk
import Derived.Test.YtifalphladcdcaaGreatHB
import Derived.Test.YtifalphladcdcaaGreatPOa
set_option linter.unusedVariables false
set_option linter.unusedSimpArgs false
namespace Go.Proofs.YtifalphladcdcaaGreat.H
open Go Go.VM
set_option maxRecDepth 100000
/-! ## F20 -/
noncomputable abbrev B20 : Code := (Tryz.f20.body).getD .skip
inductive T20_2s0 where
  | mk (a d f : Int) (i : Bool) (j : Int) (l : LV) (m o p : Int) (q s : Nat) (t u : LV)
inductive T20_2e0 where
  | mk (a d : Int) (f : LV) (i j l : Int) (m o : Nat) (p q : LV)
inductive N20_2 where
  | s0 (x : T20_2s0)
  | e0 (x : T20_2e0)
abbrev N20_2.out : N20_2 → VX × S
  | .s0 (.mk a d f i j l m o p q s t u) => (vN, S.mk (U :: U :: pT 0 :: pT 1 :: pT 2 :: i64 a :: i64 d :: pT 3 :: i64 f :: vb i :: i64 j :: un 54 []) [oF 3 [[i64 0, i64 0, hS 4 0]], oF 2 [[lS 1 l, i64 m]], oF 3 [[i64 o, i64 p, hS 5 q]], oF 1 [[hS 6 s]], oT 1 [], oT 1 t, oT 50 u])
  | .e0 (.mk v w y z d0 d1 d2 d3 d4 d5) => (vX 2, S.mk (U :: U :: pT 0 :: pT 1 :: pT 2 :: i64 v :: i64 w :: pT 3 :: un 57 []) [oF 3 [[i64 0, i64 0, hS 4 0]], oF 2 [[lS 1 y, i64 z]], oF 3 [[i64 d0, i64 d1, hS 5 d2]], oF 1 [[hS 6 d3]], oT 1 [], oT 1 d4, oT 50 d5])
abbrev E20_2 := Ent.o2 N20_2.out .s0 .e0 (fun b => by cases b <;> simp)
noncomputable def D20_2 : T20_2s0 → PT N20_2 | .mk d f i l2 j m o p q s a t l => .test (j < i) (fun h0 => .ask E69 (F69_ok j i f d l2 m o) fun ⟨l3, l4, l5, u, l6, l7, l8, v, w, y, z, d0, d1, d2, d3, d4, l9, d5, m0, m1, d6, d7, d8, m2, m3, m4, m5, m6, m7, m8, m9, o0, o1, o2, o3, o4, o5, o6, o7, d9, o8, f0, o9, p0, p1, p2, p3, f1, f2, f3, p4, p5, f4, f5, f6, f7, f8, f9, j0, j1, j2, j3, j4, j5, j6, j7, j8, j9, l0, l1⟩ => .auto 4 <| .test (0 + v ≤ List.length f4) (fun h1 => .test (0 + w ≤ List.length f5) (fun h2 => .test (0 + y ≤ List.length f6) (fun h3 => .test (0 + z ≤ List.length f7) (fun h4 => .test (0 + d0 ≤ List.length f8) (fun h5 => .test (0 + d1 ≤ List.length f9) (fun h6 => .test (0 + d2 ≤ List.length j0) (fun h7 => .test (0 + d3 ≤ List.length j1) (fun h8 => .test (0 + d4 ≤ List.length j2) (fun h9 => .test (0 + d5 ≤ List.length j3) (fun h10 => .test (0 + d6 ≤ List.length j4) (fun h11 => .test (0 + d7 ≤ List.length j5) (fun h12 => .test (0 + d8 ≤ List.length j6) (fun h13 => .test (0 + d9 ≤ List.length j7) (fun h14 => .test (0 + f0 ≤ List.length j8) (fun h15 => .test (0 + f1 ≤ List.length j9) (fun h16 => .test (0 + f2 ≤ List.length l0) (fun h17 => .test (0 + f3 ≤ List.length l1) (fun h18 => .auto 1 <| .test (0 + a ≤ List.length l ∧ (a + 1) * 608 ≤ 140737488355328 ∧ a + 1 ≤ 140737488355328) (fun h19 => .auto 1 <| .ret (.s0 (.mk d f i (u != 0) (w64 (j + 1)) p4 p5 p q s (a + 1) t (List.take a l ++ [[i64 l3, i64 l4, i64 l5, i64 u, i64 l6, i64 l7, i64 l8, lS 7 (List.take v f4), lS 7 (List.take w f5), lS 7 (List.take y f6), lS 7 (List.take z f7), lS 7 (List.take d0 f8), lS 7 (List.take d1 f9), lS 7 (List.take d2 j0), lS 7 (List.take d3 j1), lS 7 (List.take d4 j2), vb l9, lS 2 (List.take d5 j3), i64 m0, i64 m1, lS 7 (List.take d6 j4), lS 7 (List.take d7 j5), lS 8 (List.take d8 j6), vb m2, i64 m3, i64 m4, u8 m5, u8 m6, u8 m7, u8 m8, u8 m9, u8 o0, u8 o1, u8 o2, i64 o3, i64 o4, i64 o5, i64 o6, i64 o7, lS 10 (List.take d9 j7), vb o8, lS 7 (List.take f0 j8), u8 o9, u8 p0, u8 p1, u8 p2, i64 p3, lS 1 (List.take f1 j9), lS 7 (List.take f2 l0), lS 7 (List.take f3 l1)]])))) (fun _ => .fail)) (fun _ => .fail)) (fun _ => .fail)) (fun _ => .fail)) (fun _ => .fail)) (fun _ => .fail)) (fun _ => .fail)) (fun _ => .fail)) (fun _ => .fail)) (fun _ => .fail)) (fun _ => .fail)) (fun _ => .fail)) (fun _ => .fail)) (fun _ => .fail)) (fun _ => .fail)) (fun _ => .fail)) (fun _ => .fail)) (fun _ => .fail)) (fun _ => .fail)) (fun h0 => .ret (.e0 (.mk d f m o p q s a t l)))
noncomputable def L20_2 := E20_2.loop fun | .s0 x => D20_2 x | _ => .fail
theorem L20_2_ok : LU 20 0 B20 2 E20_2 L20_2 :=
  lk (L := notIn []) (fun b hb => by cases b <;> first | (cases hb; done) | (rename_i x; cases x; intro x; kernel_rfl) | (intro x; kernel_rfl))
noncomputable def N20_2.nx (n : Nat) : N20_2 → Option N20_2 | .s0 x => L20_2 n (.s0 x) | .e0 x => some (.e0 x)
theorem L20_2_s0 (n : Nat) (x : T20_2s0) : L20_2 (n + 1) (.s0 x) = (D20_2 x).ev (N20_2.nx n) := Ent.loop_eq fun c => by cases c <;> rfl
inductive T20_0s0 where
  | mk (a d : Int) (f : LV) (i j l : Int) (m : Nat) (o : LV)
inductive T20_0e0 where
  | mk (a d : Int) (f : Nat) (i : LV)
inductive N20_0 where
  | s0 (x : T20_0s0)
  | e0 (x : T20_0e0)
abbrev N20_0.out : N20_0 → VX × S
  | .s0 (.mk a d f i j l m o) => (vN, S.mk (U :: U :: pT 0 :: pT 1 :: pT 2 :: i64 a :: i64 d :: un 58 []) [oF 3 [[i64 0, i64 0, hS 3 0]], oF 2 [[lS 1 f, i64 i]], oF 3 [[i64 j, i64 l, hS 4 m]], oT 1 [], oT 1 o])
  | .e0 (.mk p q s t) => (vX 0, S.mk (U :: U :: pT 0 :: U :: pT 1 :: un 60 []) [oF 3 [[i64 0, i64 0, hS 2 0]], oF 3 [[i64 p, i64 q, hS 3 s]], oT 1 [], oT 1 t])
abbrev E20_0 := Ent.o2 N20_0.out .s0 .e0 (fun b => by cases b <;> simp)
noncomputable def D20_0 : T20_0s0 → PT N20_0 | .mk d f s t i j l m => .test (f < d) (fun h0 => .ask E43 (F43_ok 4 s t) fun ⟨u, v, w⟩ => .cut E20_2 (L20_2_ok (.s0 (.mk d f (w64 (1 + u)) true 0 v w i j l 0 m ([]))) rfl) fun | .e0 (.mk y z d0 d1 d2 d3 a o p q) => (.auto 2 <| .test (0 + o ≤ List.length q) (fun h1 => .auto 1 <| .test (0 + a ≤ List.length p ∧ (a + 1) * 24 ≤ 140737488355328 ∧ a + 1 ≤ 140737488355328) (fun h2 => .auto 1 <| .ret (.s0 (.mk y (w64 (z + 1)) d0 d1 d2 d3 (a + 1) (List.take a p ++ [[lS 50 (List.take o q)]])))) (fun _ => .fail)) (fun _ => .fail)) | _ => .fail) (fun h0 => .ret (.e0 (.mk i j l m)))
noncomputable def L20_0 := E20_0.loop fun | .s0 x => D20_0 x | _ => .fail
theorem L20_0_ok : LU 20 0 B20 0 E20_0 L20_0 :=
  lk (L := notIn []) (fun b hb => by cases b <;> first | (cases hb; done) | (rename_i x; cases x; intro x; kernel_rfl) | (intro x; kernel_rfl))
noncomputable def N20_0.nx (n : Nat) : N20_0 → Option N20_0 | .s0 x => L20_0 n (.s0 x) | .e0 x => some (.e0 x)
theorem L20_0_s0 (n : Nat) (x : T20_0s0) : L20_0 (n + 1) (.s0 x) = (D20_0 x).ev (N20_0.nx n) := Ent.loop_eq fun c => by cases c <;> rfl
noncomputable def D20 (d : LV) : PT A20 := .ask E43 (F43_ok 4 d 0) fun ⟨a, f, i⟩ => .auto 2 <| .ask E43 (F43_ok 20 f i) fun ⟨j, l, m⟩ => .auto 1 <| .ask E43 (F43_ok 3 l m) fun ⟨o, p, q⟩ => .cut E20_0 (L20_0_ok (.s0 (.mk (w64 (1 + o)) 0 p q (w64 (a - 1)) (w64 (w64 (w64 (a - 1) + 1) + j)) 0 ([]))) rfl) fun | .e0 (.mk s t u v) => (.auto 2 <| .ret (.a0 s t u v)) | _ => .fail
noncomputable def F20 (a : LV) : Option A20 := (D20 a).ev some
theorem F20_ok (a : LV) : FU E20 (F20 a) 20 [lS 1 a] := fu rfl rfl fun x => by kernel_rfl
/-! ## F78 -/
noncomputable def D78 : PT W59 := .auto 1 <| .ret (W59.mk 65536 0 0 65536 0 0)
abbrev O78 (a : W59) : V × Store := (V.agg (W59.cells a), [])
noncomputable def F78 : W59 := (D78).evT
theorem F78_ok : UU 78 ([]) ([]) = some (O78 F78) :=
  fnT_ok (out := O78) (L := notIn []) rfl rfl (fun x => by kernel_rfl) (by simp [D78, PT.isT])
/-! ## F213 -/
noncomputable def D213 (a : LV) : PT Bool := .auto 1 <| .ret (decide ((a.length : Int) > 16))
abbrev O213 (a : Bool) : V × Store := (vb a, [])
noncomputable def F213 (a : LV) : Bool := (D213 a).evT
theorem F213_ok (a : LV) : UU 213 ([V.agg [lS 50 a]]) ([]) = some (O213 (F213 a)) :=
  fnT_ok (out := O213) (L := notIn []) rfl rfl (fun x => by kernel_rfl) (by simp [D213, PT.isT])
/-! ## F252 -/
noncomputable abbrev B252 : Code := (Tryz.f252.body).getD .skip
inductive T252_0s0 where
  | mk (a : LV) (d f : Int)
inductive T252_0e0 where
  | mk (a : Int)
inductive N252_0 where
  | s0 (x : T252_0s0)
  | e0 (x : T252_0e0)
  | e1
abbrev N252_0.out : N252_0 → VX × S
  | .s0 (.mk a d f) => (vN, S.mk (lS 1 a :: V.fn 213 [] :: un 5 (i64 d :: i64 f :: un 10 [])) [])
  | .e0 (.mk i) => (VX.ret, S.mk (un 4 (i64 i :: un 14 [])) [])
  | .e1 => (vX 0, S.mk (un 19 []) [])
abbrev E252_0 := Ent.o3 N252_0.out .s0 .e0 (fun (_ : Unit) => .e1) (fun b => by cases b <;> simp)
noncomputable def D252_0 : T252_0s0 → PT N252_0 | .mk d f a => .test (a < f) (fun h0 => .test (0 ≤ a) (fun h1 => .look RW52 (d[Int.toNat a]?) fun i => .tot O213 (F213_ok i.c0) fun j => .testB j (fun h2 => .ret (.e0 (.mk a))) (fun h2 => .ret (.s0 (.mk d f (w64 (a + 1)))))) (fun _ => .fail)) (fun h0 => .ret .e1)
noncomputable def L252_0 := E252_0.loop fun | .s0 x => D252_0 x | _ => .fail
theorem L252_0_ok : LU 252 0 B252 0 E252_0 L252_0 :=
  lk (L := notIn []) (fun b hb => by cases b <;> first | (cases hb; done) | (rename_i x; cases x; intro x; kernel_rfl) | (intro x; kernel_rfl))
noncomputable def N252_0.nx (n : Nat) : N252_0 → Option N252_0 | .s0 x => L252_0 n (.s0 x) | .e0 x => some (.e0 x) | .e1 => some .e1
theorem L252_0_s0 (n : Nat) (x : T252_0s0) : L252_0 (n + 1) (.s0 x) = (D252_0 x).ev (N252_0.nx n) := Ent.loop_eq fun c => by cases c <;> rfl
noncomputable def D252 (a : LV) : PT A252 := .cut E252_0 (L252_0_ok (.s0 (.mk a ((a.length : Int)) 0)) rfl) fun | .e0 (.mk d) => .ret (.a0 d) | .e1 => .ret (.a0 (-1)) | _ => .fail
noncomputable def F252 (a : LV) : Option A252 := (D252 a).ev some
theorem F252_ok (a : LV) : FU E252 (F252 a) 252 [lS 1 a, V.fn 213 []] := fu rfl rfl fun x => by kernel_rfl
/-! ## F212 -/
noncomputable def D212 (a : LV) : PT A212 := .ask E252 (F252_ok a) fun ⟨d⟩ => .ret (.a0 (decide (d ≥ 0)))
noncomputable def F212 (a : LV) : Option A212 := (D212 a).ev some
theorem F212_ok (a : LV) : FU E212 (F212 a) 212 [lS 1 a, V.fn 213 []] := fu rfl rfl fun x => by kernel_rfl
/-! ## F214 -/
noncomputable def D214 (a : Int) : PT Bool := .test (a ≥ -1073741824) (fun h0 => .auto 2 <| .ret (decide (a ≤ 1073741824))) (fun h0 => .auto 2 <| .ret false)
abbrev O214 (a : Bool) : V × Store := (vb a, [])
noncomputable def F214 (a : Int) : Bool := (D214 a).evT
theorem F214_ok (a : Int) : UU 214 ([i64 a]) ([]) = some (O214 (F214 a)) :=
  fnT_ok (out := O214) (L := notIn []) rfl rfl (fun x => by kernel_rfl) (by simp [D214, PT.isT])
/-! ## F228 -/
noncomputable def D228 (a : Int) : PT Bool := .test (a ≥ -67108864) (fun h0 => .auto 2 <| .ret (decide (a ≤ 67108864))) (fun h0 => .auto 2 <| .ret false)
abbrev O228 (a : Bool) : V × Store := (vb a, [])
noncomputable def F228 (a : Int) : Bool := (D228 a).evT
theorem F228_ok (a : Int) : UU 228 ([i64 a]) ([]) = some (O228 (F228 a)) :=
  fnT_ok (out := O228) (L := notIn []) rfl rfl (fun x => by kernel_rfl) (by simp [D228, PT.isT])
/-! ## F227 -/
noncomputable def D227 (a d : Int) : PT Bool := .auto 1 <| .tot O228 (F228_ok a) fun f => .testB (!f) (fun h0 => .auto 4 <| .ret true) (fun h0 => .auto 3 <| .tot O228 (F228_ok d) fun i => .auto 2 <| .ret (!i))
abbrev O227 (a : Bool) : V × Store := (vb a, [])
noncomputable def F227 (a d : Int) : Bool := (D227 a d).evT
theorem F227_ok (a d : Int) : UU 227 ([V.agg [i64 a, i64 d]]) ([]) = some (O227 (F227 a d)) :=
  fnT_ok (out := O227) (L := notIn []) rfl rfl (fun x => by kernel_rfl) (by simp [D227, PT.isT])
/-! ## F262 -/
noncomputable abbrev B262 : Code := (Tryz.f262.body).getD .skip
inductive T262_0s0 where
  | mk (a : LV) (d f : Int)
inductive T262_0e0 where
  | mk (a : Int)
inductive N262_0 where
  | s0 (x : T262_0s0)
  | e0 (x : T262_0e0)
  | e1
abbrev N262_0.out : N262_0 → VX × S
  | .s0 (.mk a d f) => (vN, S.mk (lS 2 a :: V.fn 227 [] :: un 5 (i64 d :: i64 f :: un 10 [])) [])
  | .e0 (.mk i) => (VX.ret, S.mk (un 4 (i64 i :: un 14 [])) [])
  | .e1 => (vX 0, S.mk (un 19 []) [])
abbrev E262_0 := Ent.o3 N262_0.out .s0 .e0 (fun (_ : Unit) => .e1) (fun b => by cases b <;> simp)
noncomputable def D262_0 : T262_0s0 → PT N262_0 | .mk d f a => .test (a < f) (fun h0 => .test (0 ≤ a) (fun h1 => .look RW28 (d[Int.toNat a]?) fun i => .tot O227 (F227_ok i.c0 i.c1) fun j => .testB j (fun h2 => .ret (.e0 (.mk a))) (fun h2 => .ret (.s0 (.mk d f (w64 (a + 1)))))) (fun _ => .fail)) (fun h0 => .ret .e1)
noncomputable def L262_0 := E262_0.loop fun | .s0 x => D262_0 x | _ => .fail
theorem L262_0_ok : LU 262 0 B262 0 E262_0 L262_0 :=
  lk (L := notIn []) (fun b hb => by cases b <;> first | (cases hb; done) | (rename_i x; cases x; intro x; kernel_rfl) | (intro x; kernel_rfl))
noncomputable def N262_0.nx (n : Nat) : N262_0 → Option N262_0 | .s0 x => L262_0 n (.s0 x) | .e0 x => some (.e0 x) | .e1 => some .e1
theorem L262_0_s0 (n : Nat) (x : T262_0s0) : L262_0 (n + 1) (.s0 x) = (D262_0 x).ev (N262_0.nx n) := Ent.loop_eq fun c => by cases c <;> rfl
noncomputable def D262 (a : LV) : PT A262 := .cut E262_0 (L262_0_ok (.s0 (.mk a ((a.length : Int)) 0)) rfl) fun | .e0 (.mk d) => .ret (.a0 d) | .e1 => .ret (.a0 (-1)) | _ => .fail
noncomputable def F262 (a : LV) : Option A262 := (D262 a).ev some
theorem F262_ok (a : LV) : FU E262 (F262 a) 262 [lS 2 a, V.fn 227 []] := fu rfl rfl fun x => by kernel_rfl
/-! ## F226 -/
noncomputable def D226 (a : LV) : PT A226 := .ask E262 (F262_ok a) fun ⟨d⟩ => .ret (.a0 (decide (d ≥ 0)))
noncomputable def F226 (a : LV) : Option A226 := (D226 a).ev some
theorem F226_ok (a : LV) : FU E226 (F226 a) 226 [lS 2 a, V.fn 227 []] := fu rfl rfl fun x => by kernel_rfl
/-! ## F177 -/
noncomputable def D177 (d : Bool) (a : LV) : PT A177 := .auto 1 <| .testB ((a.length : Int) == 0) (fun h0 => .auto 1 <| .ret (.a0 (!d))) (fun h0 => .test ((a.length : Int) ≥ 4) (fun h1 => .auto 2 <| .test ((a.length : Int) ≤ 97) (fun h2 => .auto 4 <| .testB (Int.tmod (a.length : Int) 3 == 1) (fun h3 => .auto 3 <| .ask E226 (F226_ok a) fun ⟨f⟩ => .auto 2 <| .ret (.a0 (!f))) (fun h3 => .auto 4 <| .ret (.a0 false))) (fun h2 => .auto 8 <| .ret (.a0 false))) (fun h1 => .auto 11 <| .ret (.a0 false)))
noncomputable def F177 (a : Bool) (d : LV) : Option A177 := (D177 a d).ev some
theorem F177_ok (a : Bool) (d : LV) : FU E177 (F177 a d) 177 [V.agg [vb a, lS 2 d]] := fu rfl rfl fun x => by kernel_rfl
/-! ## F146 -/
noncomputable def D146 (d : Bool) (a : LV) : PT Bool := .auto 1 <| .ret ((a.length : Int) == 0)
abbrev O146 (a : Bool) : V × Store := (vb a, [])
noncomputable def F146 (a : Bool) (d : LV) : Bool := (D146 a d).evT
theorem F146_ok (a : Bool) (d : LV) : UU 146 ([V.agg [vb a, lS 2 d]]) ([]) = some (O146 (F146 a d)) :=
  fnT_ok (out := O146) (L := notIn []) rfl rfl (fun x => by kernel_rfl) (by simp [D146, PT.isT])
/-! ## F277 -/
noncomputable def D277 (a : W57) : PT A277 := .auto 9 <| .ret (.a0 9 ([[lS 7 a.c7], [lS 7 a.c8], [lS 7 a.c9], [lS 7 a.c10], [lS 7 a.c11], [lS 7 a.c12], [lS 7 a.c13], [lS 7 a.c14], [lS 7 a.c15]]))
noncomputable def F277 (a : W57) : Option A277 := (D277 a).ev some
theorem F277_ok (a : W57) : FU E277 (F277 a) 277 [V.agg (W57.cells a)] := fu rfl rfl fun x => by kernel_rfl
/-! ## F229 -/
noncomputable def D229 (a d f : Int) : PT Bool := .test (a ≥ d) (fun h0 => .auto 3 <| .ret (decide (a ≤ f))) (fun h0 => .auto 3 <| .ret false)
abbrev O229 (a : Bool) : V × Store := (vb a, [])
noncomputable def F229 (a d f : Int) : Bool := (D229 a d f).evT
theorem F229_ok (a d f : Int) : UU 229 ([i64 a, i64 d, i64 f]) ([]) = some (O229 (F229 a d f)) :=
  fnT_ok (out := O229) (L := notIn []) rfl rfl (fun x => by kernel_rfl) (by simp [D229, PT.isT])
/-! ## F179 -/
noncomputable def D179 (a d f i : Int) : PT Bool := .auto 1 <| .tot O229 (F229_ok a 0 65536) fun j => .testB j (fun h0 => .auto 4 <| .tot O229 (F229_ok f 0 65536) fun l => .auto 1 <| .testB l (fun h1 => .auto 4 <| .tot O229 (F229_ok d (-131072) 196608) fun m => .auto 1 <| .testB m (fun h2 => .auto 4 <| .tot O229 (F229_ok i (-131072) 196608) fun o => .auto 1 <| .ret o) (fun h2 => .auto 4 <| .ret false)) (fun h1 => .auto 9 <| .ret false)) (fun h0 => .auto 14 <| .ret false)
abbrev O179 (a : Bool) : V × Store := (vb a, [])
noncomputable def F179 (a d f i : Int) : Bool := (D179 a d f i).evT
theorem F179_ok (a d f i : Int) : UU 179 ([V.agg [i64 a, i64 d, i64 f, i64 i]]) ([]) = some (O179 (F179 a d f i)) :=
  fnT_ok (out := O179) (L := notIn []) rfl rfl (fun x => by kernel_rfl) (by simp [D179, PT.isT])
/-! ## F114 -/
noncomputable abbrev B114 : Code := (Tryz.f114.body).getD .skip
inductive T114_r1s0 where
  | mk (a d f i j l m o : Int)
abbrev T114_r1s0.st : T114_r1s0 → S
  | .mk a d f i j l m o => S.mk (i64 a :: i64 d :: i64 f :: i64 i :: un 5 (pT 0 :: un 33 [])) [oF 4 [[i64 j, i64 l, i64 m, i64 o]]]
inductive T114_r1e0 where
  | mk (a : Int) (d : Bool) (f i j l : Int)
inductive N114_r1 where
  | e0 (x : T114_r1e0)
abbrev N114_r1.out : N114_r1 → VX × S
  | .e0 (.mk a d f i j l) => (vN, S.mk (U :: U :: U :: i64 a :: un 5 (pT 0 :: U :: vb d :: un 31 [])) [oF 4 [[i64 f, i64 i, i64 j, i64 l]]])
abbrev E114_r1 := Ent.o1 N114_r1.out .e0 fun ⟨x⟩ => ⟨x, rfl⟩
noncomputable def D114_r1 : T114_r1s0 → PT N114_r1 | .mk m o l a d f i j => .test (l < -1073741824) (fun h0 => .auto 7 <| .ret (.e0 (.mk a true d f i j))) (fun h0 => .auto 2 <| .test (l > 1073741824) (fun h1 => .auto 4 <| .ret (.e0 (.mk a true d f i j))) (fun h1 => .auto 2 <| .test (m > 0) (fun h2 => .auto 5 <| .ret (.e0 (.mk a (decide (l ≤ o)) d f i j))) (fun h2 => .auto 5 <| .ret (.e0 (.mk a false d f i j)))))
noncomputable def J114_r1 (y : T114_r1s0) : Option N114_r1 := (D114_r1 y).ev some
theorem J114_r1_ok (y : T114_r1s0) : ∀ b, J114_r1 y = some b → regP Tryz.prog X CC 114 0 B114 1 y.st = some (E114_r1.out b) := by
  cases y; exact reg_ok (E := E114_r1) (fun x => by kernel_rfl)
noncomputable def D114 (l m o p q s t u : Int) : PT A114 := .cut E114_r1 (J114_r1_ok (.mk l m o p q s t u)) fun | .e0 (.mk a v d f i j) => .testB v (fun h0 => .ret (.a0 false)) (fun h0 => .testB (a == 2) (fun h1 => .auto 1 <| .tot O179 (F179_ok d f i j) fun w => .ret (.a0 w)) (fun h1 => .testB (a == 0) (fun h2 => .auto 7 <| .ret (.a0 (d == 0 && (f == 0 && (i == 0 && (j == 0 && true)))))) (fun h2 => .auto 2 <| .testB (a == 1) (fun h3 => .auto 4 <| .ret (.a0 (d == 0 && (f == 0 && (i == 0 && (j == 0 && true)))))) (fun h3 => .auto 3 <| .ret (.a0 false)))))
noncomputable def F114 (a d f i j l m o : Int) : Option A114 := (D114 a d f i j l m o).ev some
theorem F114_ok (a d f i j l m o : Int) : FU E114 (F114 a d f i j l m o) 114 [i64 a, i64 d, i64 f, i64 i, V.agg [i64 j, i64 l, i64 m, i64 o]] := fu rfl rfl fun x => by kernel_rfl
/-! ## F56 -/
noncomputable abbrev B56 : Code := (Tryz.f56.body).getD .skip
inductive T56_0s0 where
  | mk (a : LV) (d f i : Int)
inductive T56_0e1 where
  | mk (a : LV)
inductive N56_0 where
  | s0 (x : T56_0s0)
  | e0
  | e1 (x : T56_0e1)
abbrev N56_0.out : N56_0 → VX × S
  | .s0 (.mk a d f i) => (vN, S.mk (lS 7 a :: U :: U :: i64 d :: U :: U :: lS 7 a :: i64 f :: i64 i :: un 30 []) [])
  | .e0 => (VX.ret, S.mk (U :: U :: vb false :: un 36 []) [])
  | .e1 (.mk j) => (vX 0, S.mk (lS 7 j :: un 38 []) [])
abbrev E56_0 := Ent.o3 N56_0.out .s0 (fun (_ : Unit) => .e0) .e1 (fun b => by cases b <;> simp)
noncomputable def D56_0 : T56_0s0 → PT N56_0 | .mk f j i d => .test (d < i) (fun h0 => .test (0 ≤ d) (fun h1 => .look RW74 (f[Int.toNat d]?) fun a => .auto 4 <| .ask E114 (F114_ok d j a.c0 a.c2 a.c3 a.c4 a.c5 a.c6) fun ⟨l⟩ => .testB (!l) (fun h2 => .auto 8 <| .ret .e0) (fun h2 => .auto 4 <| .test (a.c1 < -67108864) (fun h3 => .auto 4 <| .ret .e0) (fun h3 => .auto 4 <| .test (a.c1 > 67108864) (fun h4 => .ret .e0) (fun h4 => .auto 1 <| .ret (.s0 (.mk f a.c0 i (w64 (d + 1)))))))) (fun _ => .fail)) (fun h0 => .ret (.e1 (.mk f)))
noncomputable def L56_0 := E56_0.loop fun | .s0 x => D56_0 x | _ => .fail
theorem L56_0_ok : LU 56 0 B56 0 E56_0 L56_0 :=
  lk (L := notIn []) (fun b hb => by cases b <;> first | (cases hb; done) | (rename_i x; cases x; intro x; kernel_rfl) | (intro x; kernel_rfl))
noncomputable def N56_0.nx (n : Nat) : N56_0 → Option N56_0 | .s0 x => L56_0 n (.s0 x) | .e0 => some .e0 | .e1 x => some (.e1 x)
theorem L56_0_s0 (n : Nat) (x : T56_0s0) : L56_0 (n + 1) (.s0 x) = (D56_0 x).ev (N56_0.nx n) := Ent.loop_eq fun c => by cases c <;> rfl
noncomputable def D56 (a : LV) : PT A56 := .cut E56_0 (L56_0_ok (.s0 (.mk a 0 ((a.length : Int)) 0)) rfl) fun | .e0 => .ret (.a0 false) | .e1 (.mk d) => .ret (.a0 (decide ((d.length : Int) ≤ 32))) | _ => .fail
noncomputable def F56 (a : LV) : Option A56 := (D56 a).ev some
theorem F56_ok (a : LV) : FU E56 (F56 a) 56 [lS 7 a] := fu rfl rfl fun x => by kernel_rfl
/-! ## F278 -/
noncomputable def D278 (a : LV) : PT A278 := .ask E56 (F56_ok a) fun ⟨d⟩ => .ret (.a0 (!d))
noncomputable def F278 (a : LV) : Option A278 := (D278 a).ev some
theorem F278_ok (a : LV) : FU E278 (F278 a) 278 [lS 7 a] := fu rfl rfl fun x => by kernel_rfl
/-! ## F289 -/
noncomputable abbrev B289 : Code := (Tryz.f289.body).getD .skip
inductive T289_0s0 where
  | mk (a : LV) (d f : Int)
inductive T289_0e0 where
  | mk (a : Int)
inductive N289_0 where
  | s0 (x : T289_0s0)
  | e0 (x : T289_0e0)
  | e1
abbrev N289_0.out : N289_0 → VX × S
  | .s0 (.mk a d f) => (vN, S.mk (lS 1 a :: V.fn 278 [] :: un 5 (i64 d :: i64 f :: un 10 [])) [])
  | .e0 (.mk i) => (VX.ret, S.mk (un 4 (i64 i :: un 14 [])) [])
  | .e1 => (vX 0, S.mk (un 19 []) [])
abbrev E289_0 := Ent.o3 N289_0.out .s0 .e0 (fun (_ : Unit) => .e1) (fun b => by cases b <;> simp)
noncomputable def D289_0 : T289_0s0 → PT N289_0 | .mk d f a => .test (a < f) (fun h0 => .test (0 ≤ a) (fun h1 => .look RW23 (d[Int.toNat a]?) fun i => .ask E278 (F278_ok i.c0) fun ⟨j⟩ => .testB j (fun h2 => .ret (.e0 (.mk a))) (fun h2 => .ret (.s0 (.mk d f (w64 (a + 1)))))) (fun _ => .fail)) (fun h0 => .ret .e1)
noncomputable def L289_0 := E289_0.loop fun | .s0 x => D289_0 x | _ => .fail
theorem L289_0_ok : LU 289 0 B289 0 E289_0 L289_0 :=
  lk (L := notIn []) (fun b hb => by cases b <;> first | (cases hb; done) | (rename_i x; cases x; intro x; kernel_rfl) | (intro x; kernel_rfl))
noncomputable def N289_0.nx (n : Nat) : N289_0 → Option N289_0 | .s0 x => L289_0 n (.s0 x) | .e0 x => some (.e0 x) | .e1 => some .e1
theorem L289_0_s0 (n : Nat) (x : T289_0s0) : L289_0 (n + 1) (.s0 x) = (D289_0 x).ev (N289_0.nx n) := Ent.loop_eq fun c => by cases c <;> rfl
noncomputable def D289 (a : LV) : PT A289 := .cut E289_0 (L289_0_ok (.s0 (.mk a ((a.length : Int)) 0)) rfl) fun | .e0 (.mk d) => .ret (.a0 d) | .e1 => .ret (.a0 (-1)) | _ => .fail
noncomputable def F289 (a : LV) : Option A289 := (D289 a).ev some
theorem F289_ok (a : LV) : FU E289 (F289 a) 289 [lS 1 a, V.fn 278 []] := fu rfl rfl fun x => by kernel_rfl
/-! ## F276 -/
noncomputable def D276 (a : LV) : PT A276 := .ask E289 (F289_ok a) fun ⟨d⟩ => .ret (.a0 (decide (d ≥ 0)))
noncomputable def F276 (a : LV) : Option A276 := (D276 a).ev some
theorem F276_ok (a : LV) : FU E276 (F276 a) 276 [lS 1 a, V.fn 278 []] := fu rfl rfl fun x => by kernel_rfl
/-! ## F290 -/
noncomputable abbrev B290 : Code := (Tryz.f290.body).getD .skip
inductive T290_0s0 where
  | mk (a d : LV) (f i : Int)
inductive N290_0 where
  | s0 (x : T290_0s0)
  | e0
  | e1
abbrev N290_0.out : N290_0 → VX × S
  | .s0 (.mk a d f i) => (vN, S.mk (lS 7 a :: lS 7 d :: un 10 (i64 f :: i64 i :: un 12 [])) [])
  | .e0 => (VX.ret, S.mk (un 4 (vb false :: un 21 [])) [])
  | .e1 => (vX 0, S.mk (un 26 []) [])
abbrev E290_0 := Ent.o3 N290_0.out .s0 (fun (_ : Unit) => .e0) (fun (_ : Unit) => .e1) (fun b => by cases b <;> simp)
noncomputable def D290_0 : T290_0s0 → PT N290_0 | .mk i j l f => .test (f < l) (fun h0 => .test (0 ≤ f) (fun h1 => .look RW74 (i[Int.toNat f]?) fun a => .known (decide_eq_true h1) <| .look RW74 (j[Int.toNat f]?) fun d => .testB (!(a.c0 == d.c0 && (a.c1 == d.c1 && (a.c2 == d.c2 && (a.c3 == d.c3 && (a.c4 == d.c4 && (a.c5 == d.c5 && (a.c6 == d.c6 && true))) && true))))) (fun h2 => .ret .e0) (fun h2 => .ret (.s0 (.mk i j l (w64 (f + 1)))))) (fun _ => .fail)) (fun h0 => .ret .e1)
noncomputable def L290_0 := E290_0.loop fun | .s0 x => D290_0 x | _ => .fail
theorem L290_0_ok : LU 290 0 B290 0 E290_0 L290_0 :=
  lk (L := notIn []) (fun b hb => by cases b <;> first | (cases hb; done) | (rename_i x; cases x; intro x; kernel_rfl) | (intro x; kernel_rfl))
noncomputable def N290_0.nx (n : Nat) : N290_0 → Option N290_0 | .s0 x => L290_0 n (.s0 x) | .e0 => some .e0 | .e1 => some .e1
theorem L290_0_s0 (n : Nat) (x : T290_0s0) : L290_0 (n + 1) (.s0 x) = (D290_0 x).ev (N290_0.nx n) := Ent.loop_eq fun c => by cases c <;> rfl
noncomputable def D290 (a d : LV) : PT A290 := .testB ((a.length : Int) != (d.length : Int)) (fun h0 => .ret (.a0 false)) (fun h0 => .cut E290_0 (L290_0_ok (.s0 (.mk a d ((a.length : Int)) 0)) rfl) fun | .e0 => .ret (.a0 false) | .e1 => .ret (.a0 true) | _ => .fail)
noncomputable def F290 (a d : LV) : Option A290 := (D290 a d).ev some
theorem F290_ok (a d : LV) : FU E290 (F290 a d) 290 [lS 7 a, lS 7 d] := fu rfl rfl fun x => by kernel_rfl
/-! ## F161 -/
noncomputable abbrev B161 : Code := (Tryz.f161.body).getD .skip
inductive T161_0s0 where
  | mk (a d : LV) (f i : Int)
inductive N161_0 where
  | s0 (x : T161_0s0)
  | e0
  | e1
abbrev N161_0.out : N161_0 → VX × S
  | .s0 (.mk a d f i) => (vN, S.mk (lS 2 a :: lS 2 d :: un 10 (i64 f :: i64 i :: un 12 [])) [])
  | .e0 => (VX.ret, S.mk (un 4 (vb false :: un 21 [])) [])
  | .e1 => (vX 0, S.mk (un 26 []) [])
abbrev E161_0 := Ent.o3 N161_0.out .s0 (fun (_ : Unit) => .e0) (fun (_ : Unit) => .e1) (fun b => by cases b <;> simp)
noncomputable def D161_0 : T161_0s0 → PT N161_0 | .mk d f i a => .test (a < i) (fun h0 => .test (0 ≤ a) (fun h1 => .look RW28 (d[Int.toNat a]?) fun j => .known (decide_eq_true h1) <| .look RW28 (f[Int.toNat a]?) fun l => .testB (!(j.c0 == l.c0 && (j.c1 == l.c1 && true))) (fun h2 => .ret .e0) (fun h2 => .ret (.s0 (.mk d f i (w64 (a + 1)))))) (fun _ => .fail)) (fun h0 => .ret .e1)
noncomputable def L161_0 := E161_0.loop fun | .s0 x => D161_0 x | _ => .fail
theorem L161_0_ok : LU 161 0 B161 0 E161_0 L161_0 :=
  lk (L := notIn []) (fun b hb => by cases b <;> first | (cases hb; done) | (rename_i x; cases x; intro x; kernel_rfl) | (intro x; kernel_rfl))
noncomputable def N161_0.nx (n : Nat) : N161_0 → Option N161_0 | .s0 x => L161_0 n (.s0 x) | .e0 => some .e0 | .e1 => some .e1
theorem L161_0_s0 (n : Nat) (x : T161_0s0) : L161_0 (n + 1) (.s0 x) = (D161_0 x).ev (N161_0.nx n) := Ent.loop_eq fun c => by cases c <;> rfl
noncomputable def D161 (a d : LV) : PT A161 := .testB ((a.length : Int) != (d.length : Int)) (fun h0 => .ret (.a0 false)) (fun h0 => .cut E161_0 (L161_0_ok (.s0 (.mk a d ((a.length : Int)) 0)) rfl) fun | .e0 => .ret (.a0 false) | .e1 => .ret (.a0 true) | _ => .fail)
noncomputable def F161 (a d : LV) : Option A161 := (D161 a d).ev some
theorem F161_ok (a d : LV) : FU E161 (F161 a d) 161 [lS 2 a, lS 2 d] := fu rfl rfl fun x => by kernel_rfl
/-! ## F299 -/
noncomputable def D299 (a : Bool) (d : LV) (f : Bool) (i : LV) : PT A299 := .auto 2 <| .testB (a == f) (fun h0 => .auto 6 <| .ask E161 (F161_ok d i) fun ⟨j⟩ => .auto 1 <| .ret (.a0 j)) (fun h0 => .auto 5 <| .ret (.a0 false))
noncomputable def F299 (a : Bool) (d : LV) (f : Bool) (i : LV) : Option A299 := (D299 a d f i).ev some
theorem F299_ok (a : Bool) (d : LV) (f : Bool) (i : LV) : FU E299 (F299 a d f i) 299 [V.agg [vb a, lS 2 d], V.agg [vb f, lS 2 i]] := fu rfl rfl fun x => by kernel_rfl
/-! ## F298 -/
noncomputable def D298 (a : Int) (d : Bool) (f : LV) (i j l m o p : Int) (q : Bool) (s : LV) (t u v w y : Int) : PT A298 := .auto 2 <| .testB (a == p) (fun h0 => .auto 7 <| .testB (i == t) (fun h1 => .auto 7 <| .testB (j == u && (l == v && (m == w && (o == y && true)))) (fun h2 => .auto 6 <| .ask E299 (F299_ok d f q s) fun ⟨z⟩ => .auto 1 <| .ret (.a0 z)) (fun h2 => .auto 5 <| .ret (.a0 false))) (fun h1 => .auto 11 <| .ret (.a0 false))) (fun h0 => .auto 17 <| .ret (.a0 false))
noncomputable def F298 (a : Int) (d : Bool) (f : LV) (i j l m o p : Int) (q : Bool) (s : LV) (t u v w y : Int) : Option A298 := (D298 a d f i j l m o p q s t u v w y).ev some
theorem F298_ok (a : Int) (d : Bool) (f : LV) (i j l m o p : Int) (q : Bool) (s : LV) (t u v w y : Int) : FU E298 (F298 a d f i j l m o p q s t u v w y) 298 [V.agg [i64 a, vb d, lS 2 f, i64 i, i64 j, i64 l, i64 m, i64 o], V.agg [i64 p, vb q, lS 2 s, i64 t, i64 u, i64 v, i64 w, i64 y]] := fu rfl rfl fun x => by kernel_rfl
/-! ## F297 -/
noncomputable abbrev B297 : Code := (Tryz.f297.body).getD .skip
inductive T297_0s0 where
  | mk (a d : LV) (f i : Int)
inductive N297_0 where
  | s0 (x : T297_0s0)
  | e0
  | e1
abbrev N297_0.out : N297_0 → VX × S
  | .s0 (.mk a d f i) => (vN, S.mk (U :: lS 8 a :: V.fn 298 [] :: un 12 (lS 8 d :: i64 f :: i64 i :: un 14 [])) [])
  | .e0 => (VX.ret, S.mk (un 6 (vb false :: un 25 [])) [])
  | .e1 => (vX 0, S.mk (un 32 []) [])
abbrev E297_0 := Ent.o3 N297_0.out .s0 (fun (_ : Unit) => .e0) (fun (_ : Unit) => .e1) (fun b => by cases b <;> simp)
noncomputable def D297_0 : T297_0s0 → PT N297_0 | .mk i j l f => .test (f < l) (fun h0 => .test (0 ≤ f) (fun h1 => .look RW100 (j[Int.toNat f]?) fun a => .auto 1 <| .known (decide_eq_true h1) <| .look RW100 (i[Int.toNat f]?) fun d => .auto 3 <| .ask E298 (F298_ok a.c0 a.c1 a.c2 a.c3 a.c4 a.c5 a.c6 a.c7 d.c0 d.c1 d.c2 d.c3 d.c4 d.c5 d.c6 d.c7) fun ⟨m⟩ => .testB (!m) (fun h2 => .ret .e0) (fun h2 => .ret (.s0 (.mk i j l (w64 (f + 1)))))) (fun _ => .fail)) (fun h0 => .ret .e1)
noncomputable def L297_0 := E297_0.loop fun | .s0 x => D297_0 x | _ => .fail
theorem L297_0_ok : LU 297 0 B297 0 E297_0 L297_0 :=
  lk (L := notIn []) (fun b hb => by cases b <;> first | (cases hb; done) | (rename_i x; cases x; intro x; kernel_rfl) | (intro x; kernel_rfl))
noncomputable def N297_0.nx (n : Nat) : N297_0 → Option N297_0 | .s0 x => L297_0 n (.s0 x) | .e0 => some .e0 | .e1 => some .e1
theorem L297_0_s0 (n : Nat) (x : T297_0s0) : L297_0 (n + 1) (.s0 x) = (D297_0 x).ev (N297_0.nx n) := Ent.loop_eq fun c => by cases c <;> rfl
noncomputable def D297 (a d : LV) : PT A297 := .testB ((a.length : Int) != (d.length : Int)) (fun h0 => .ret (.a0 false)) (fun h0 => .cut E297_0 (L297_0_ok (.s0 (.mk d a ((a.length : Int)) 0)) rfl) fun | .e0 => .ret (.a0 false) | .e1 => .ret (.a0 true) | _ => .fail)
noncomputable def F297 (a d : LV) : Option A297 := (D297 a d).ev some
theorem F297_ok (a d : LV) : FU E297 (F297 a d) 297 [lS 8 a, lS 8 d, V.fn 298 []] := fu rfl rfl fun x => by kernel_rfl
/-! ## F291 -/
noncomputable def D291 (a d : LV) : PT A291 := .ask E297 (F297_ok a d) fun ⟨f⟩ => .ret (.a0 f)
noncomputable def F291 (a d : LV) : Option A291 := (D291 a d).ev some
theorem F291_ok (a d : LV) : FU E291 (F291 a d) 291 [lS 8 a, lS 8 d] := fu rfl rfl fun x => by kernel_rfl
/-! ## F292 -/
noncomputable abbrev B292 : Code := (Tryz.f292.body).getD .skip
inductive T292_0s0 where
  | mk (a d : LV) (f i : Int)
inductive N292_0 where
  | s0 (x : T292_0s0)
  | e0
  | e1
abbrev N292_0.out : N292_0 → VX × S
  | .s0 (.mk a d f i) => (vN, S.mk (lS 10 a :: lS 10 d :: un 10 (i64 f :: i64 i :: un 12 [])) [])
  | .e0 => (VX.ret, S.mk (un 4 (vb false :: un 21 [])) [])
  | .e1 => (vX 0, S.mk (un 26 []) [])
abbrev E292_0 := Ent.o3 N292_0.out .s0 (fun (_ : Unit) => .e0) (fun (_ : Unit) => .e1) (fun b => by cases b <;> simp)
noncomputable def D292_0 : T292_0s0 → PT N292_0 | .mk i j l f => .test (f < l) (fun h0 => .test (0 ≤ f) (fun h1 => .look RW108 (i[Int.toNat f]?) fun a => .known (decide_eq_true h1) <| .look RW108 (j[Int.toNat f]?) fun d => .testB (!(a.c0 == d.c0 && (a.c1 == d.c1 && (a.c2 == d.c2 && (a.c3 == d.c3 && (a.c4 == d.c4 && true))) && (a.c5 == d.c5 && (a.c6 == d.c6 && (a.c7 == d.c7 && (a.c8 == d.c8 && (a.c9 == d.c9 && true))) && true))))) (fun h2 => .ret .e0) (fun h2 => .ret (.s0 (.mk i j l (w64 (f + 1)))))) (fun _ => .fail)) (fun h0 => .ret .e1)
noncomputable def L292_0 := E292_0.loop fun | .s0 x => D292_0 x | _ => .fail
theorem L292_0_ok : LU 292 0 B292 0 E292_0 L292_0 :=
  lk (L := notIn []) (fun b hb => by cases b <;> first | (cases hb; done) | (rename_i x; cases x; intro x; kernel_rfl) | (intro x; kernel_rfl))
noncomputable def N292_0.nx (n : Nat) : N292_0 → Option N292_0 | .s0 x => L292_0 n (.s0 x) | .e0 => some .e0 | .e1 => some .e1
theorem L292_0_s0 (n : Nat) (x : T292_0s0) : L292_0 (n + 1) (.s0 x) = (D292_0 x).ev (N292_0.nx n) := Ent.loop_eq fun c => by cases c <;> rfl
noncomputable def D292 (a d : LV) : PT A292 := .testB ((a.length : Int) != (d.length : Int)) (fun h0 => .ret (.a0 false)) (fun h0 => .cut E292_0 (L292_0_ok (.s0 (.mk a d ((a.length : Int)) 0)) rfl) fun | .e0 => .ret (.a0 false) | .e1 => .ret (.a0 true) | _ => .fail)
noncomputable def F292 (a d : LV) : Option A292 := (D292 a d).ev some
theorem F292_ok (a d : LV) : FU E292 (F292 a d) 292 [lS 10 a, lS 10 d] := fu rfl rfl fun x => by kernel_rfl
/-! ## F293 -/
noncomputable abbrev B293 : Code := (Tryz.f293.body).getD .skip
inductive T293_0s0 where
  | mk (a d : LV) (f i : Int)
inductive N293_0 where
  | s0 (x : T293_0s0)
  | e0
  | e1
abbrev N293_0.out : N293_0 → VX × S
  | .s0 (.mk a d f i) => (vN, S.mk (lS 1 a :: lS 1 d :: un 10 (i64 f :: i64 i :: un 12 [])) [])
  | .e0 => (VX.ret, S.mk (un 4 (vb false :: un 21 [])) [])
  | .e1 => (vX 0, S.mk (un 26 []) [])
abbrev E293_0 := Ent.o3 N293_0.out .s0 (fun (_ : Unit) => .e0) (fun (_ : Unit) => .e1) (fun b => by cases b <;> simp)
noncomputable def D293_0 : T293_0s0 → PT N293_0 | .mk d f i a => .test (a < i) (fun h0 => .test (0 ≤ a) (fun h1 => .look RW2 (d[Int.toNat a]?) fun j => .known (decide_eq_true h1) <| .look RW2 (f[Int.toNat a]?) fun l => .testB (j.c0 != l.c0) (fun h2 => .ret .e0) (fun h2 => .ret (.s0 (.mk d f i (w64 (a + 1)))))) (fun _ => .fail)) (fun h0 => .ret .e1)
noncomputable def L293_0 := E293_0.loop fun | .s0 x => D293_0 x | _ => .fail
theorem L293_0_ok : LU 293 0 B293 0 E293_0 L293_0 :=
  lk (L := notIn []) (fun b hb => by cases b <;> first | (cases hb; done) | (rename_i x; cases x; intro x; kernel_rfl) | (intro x; kernel_rfl))
noncomputable def N293_0.nx (n : Nat) : N293_0 → Option N293_0 | .s0 x => L293_0 n (.s0 x) | .e0 => some .e0 | .e1 => some .e1
theorem L293_0_s0 (n : Nat) (x : T293_0s0) : L293_0 (n + 1) (.s0 x) = (D293_0 x).ev (N293_0.nx n) := Ent.loop_eq fun c => by cases c <;> rfl
noncomputable def D293 (a d : LV) : PT A293 := .testB ((a.length : Int) != (d.length : Int)) (fun h0 => .ret (.a0 false)) (fun h0 => .cut E293_0 (L293_0_ok (.s0 (.mk a d ((a.length : Int)) 0)) rfl) fun | .e0 => .ret (.a0 false) | .e1 => .ret (.a0 true) | _ => .fail)
noncomputable def F293 (a d : LV) : Option A293 := (D293 a d).ev some
theorem F293_ok (a d : LV) : FU E293 (F293 a d) 293 [lS 1 a, lS 1 d] := fu rfl rfl fun x => by kernel_rfl
/-! ## F279 -/
noncomputable abbrev B279 : Code := (Tryz.f279.body).getD .skip
inductive T279_r2s0 where
  | mk (a : Bool) (d : W34) (f : W34)
abbrev T279_r2s0.st : T279_r2s0 → S
  | .mk a d f => S.mk (U :: U :: pT 0 :: pT 1 :: U :: vb a :: un 113 []) [oF 32 [W34.cells d], oF 32 [W34.cells f]]
inductive T279_r2e0 where
  | mk (a d : Bool) (f : W34) (i : W34)
inductive N279_r2 where
  | e0 (x : T279_r2e0)
abbrev N279_r2.out : N279_r2 → VX × S
  | .e0 (.mk a d f i) => (vN, S.mk (U :: U :: pT 0 :: pT 1 :: U :: vb a :: vb d :: un 112 []) [oF 32 [W34.cells f], oF 32 [W34.cells i]])
abbrev E279_r2 := Ent.o1 N279_r2.out .e0 fun ⟨x⟩ => ⟨x, rfl⟩
noncomputable def D279_r2 : T279_r2s0 → PT N279_r2 | .mk f a d => .auto 2 <| .ask E290 (F290_ok a.c2 d.c2) fun ⟨i⟩ => .testB i (fun h0 => .auto 6 <| .ask E290 (F290_ok a.c3 d.c3) fun ⟨j⟩ => .auto 1 <| .testB j (fun h1 => .auto 6 <| .ask E290 (F290_ok a.c23 d.c23) fun ⟨l⟩ => .auto 1 <| .testB l (fun h2 => .auto 6 <| .ask E290 (F290_ok a.c30 d.c30) fun ⟨m⟩ => .auto 1 <| .testB m (fun h3 => .auto 6 <| .ask E290 (F290_ok a.c31 d.c31) fun ⟨o⟩ => .auto 1 <| .ret (.e0 (.mk f o a d))) (fun h3 => .auto 5 <| .ret (.e0 (.mk f false a d)))) (fun h2 => .auto 11 <| .ret (.e0 (.mk f false a d)))) (fun h1 => .auto 17 <| .ret (.e0 (.mk f false a d)))) (fun h0 => .auto 23 <| .ret (.e0 (.mk f false a d)))
noncomputable def J279_r2 (y : T279_r2s0) : Option N279_r2 := (D279_r2 y).ev some
theorem J279_r2_ok (y : T279_r2s0) : ∀ b, J279_r2 y = some b → regP Tryz.prog X CC 279 0 B279 2 y.st = some (E279_r2.out b) := by
  cases y; exact reg_ok (E := E279_r2) (fun x => by kernel_rfl)
inductive T279_r1s0 where
  | mk (a : W34) (d : W34)
abbrev T279_r1s0.st : T279_r1s0 → S
  | .mk a d => S.mk (U :: U :: pT 0 :: pT 1 :: un 115 []) [oF 32 [W34.cells a], oF 32 [W34.cells d]]
inductive T279_r1e0 where
  | mk (a : Bool) (d : W34) (f : W34)
inductive N279_r1 where
  | e0 (x : T279_r1e0)
abbrev N279_r1.out : N279_r1 → VX × S
  | .e0 (.mk a d f) => (vN, S.mk (U :: U :: pT 0 :: pT 1 :: U :: vb a :: un 113 []) [oF 32 [W34.cells d], oF 32 [W34.cells f]])
abbrev E279_r1 := Ent.o1 N279_r1.out .e0 fun ⟨x⟩ => ⟨x, rfl⟩
noncomputable def D279_r1 : T279_r1s0 → PT N279_r1 | .mk a d => .auto 2 <| .testB (a.c0 == d.c0) (fun h0 => .auto 7 <| .testB (a.c1 == d.c1) (fun h1 => .auto 7 <| .testB (a.c5 == d.c5) (fun h2 => .auto 7 <| .testB (a.c6 == d.c6) (fun h3 => .auto 7 <| .testB (a.c7 == d.c7 && (a.c8 == d.c8 && (a.c9 == d.c9 && (a.c10 == d.c10 && (a.c11 == d.c11 && true))) && (a.c12 == d.c12 && (a.c13 == d.c13 && (a.c14 == d.c14 && (a.c15 == d.c15 && true))) && (a.c16 == d.c16 && (a.c17 == d.c17 && true) && (a.c18 == d.c18 && (a.c19 == d.c19 && true) && (a.c20 == d.c20 && true)))))) (fun h4 => .auto 7 <| .testB (a.c22 == d.c22) (fun h5 => .auto 7 <| .testB (a.c24 == d.c24 && (a.c25 == d.c25 && (a.c26 == d.c26 && (a.c27 == d.c27 && true)))) (fun h6 => .auto 7 <| .ret (.e0 (.mk (a.c28 == d.c28) a d))) (fun h6 => .auto 5 <| .ret (.e0 (.mk false a d)))) (fun h5 => .auto 11 <| .ret (.e0 (.mk false a d)))) (fun h4 => .auto 17 <| .ret (.e0 (.mk false a d)))) (fun h3 => .auto 23 <| .ret (.e0 (.mk false a d)))) (fun h2 => .auto 29 <| .ret (.e0 (.mk false a d)))) (fun h1 => .auto 35 <| .ret (.e0 (.mk false a d)))) (fun h0 => .auto 41 <| .ret (.e0 (.mk false a d)))
noncomputable def J279_r1 (y : T279_r1s0) : Option N279_r1 := (D279_r1 y).ev some
theorem J279_r1_ok (y : T279_r1s0) : ∀ b, J279_r1 y = some b → regP Tryz.prog X CC 279 0 B279 1 y.st = some (E279_r1.out b) := by
  cases y; exact reg_ok (E := E279_r1) (fun x => by kernel_rfl)
noncomputable def D279 (f : W34) (i : W34) : PT A279 := .cut E279_r1 (J279_r1_ok (.mk f i)) fun | .e0 (.mk j l m) => .cut E279_r2 (J279_r2_ok (.mk j l m)) fun | .e0 (.mk o p a d) => .testB o (fun h0 => .auto 1 <| .testB p (fun h1 => .auto 6 <| .ask E291 (F291_ok a.c4 d.c4) fun ⟨q⟩ => .auto 1 <| .testB q (fun h2 => .auto 6 <| .ask E292 (F292_ok a.c21 d.c21) fun ⟨s⟩ => .auto 1 <| .testB s (fun h3 => .auto 6 <| .ask E293 (F293_ok a.c29 d.c29) fun ⟨t⟩ => .auto 1 <| .ret (.a0 t)) (fun h3 => .auto 5 <| .ret (.a0 false))) (fun h2 => .auto 11 <| .ret (.a0 false))) (fun h1 => .auto 17 <| .ret (.a0 false))) (fun h0 => .auto 19 <| .ret (.a0 false))
noncomputable def F279 (a : W34) (d : W34) : Option A279 := (D279 a d).ev some
theorem F279_ok (a : W34) (d : W34) : FU E279 (F279 a d) 279 [V.agg (W34.cells a), V.agg (W34.cells d)] := fu rfl rfl fun x => by kernel_rfl
/-! ## F178 -/
noncomputable def D178 (a : Bool) (d : LV) (f : Bool) (i : LV) : PT Bool := .auto 2 <| .testB ((d.length : Int) == (i.length : Int)) (fun h0 => .auto 7 <| .ret (a == f)) (fun h0 => .auto 5 <| .ret false)
abbrev O178 (a : Bool) : V × Store := (vb a, [])
noncomputable def F178 (a : Bool) (d : LV) (f : Bool) (i : LV) : Bool := (D178 a d f i).evT
theorem F178_ok (a : Bool) (d : LV) (f : Bool) (i : LV) : UU 178 ([V.agg [vb a, lS 2 d], V.agg [vb f, lS 2 i]]) ([]) = some (O178 (F178 a d f i)) :=
  fnT_ok (out := O178) (L := notIn []) rfl rfl (fun x => by kernel_rfl) (by simp [D178, PT.isT])
/-! ## F112 -/
noncomputable abbrev B112 : Code := (Tryz.f112.body).getD .skip
inductive T112_0s0 where
  | mk (a : LV) (d f i : Int)
inductive T112_0e1 where
  | mk (a : LV)
inductive N112_0 where
  | s0 (x : T112_0s0)
  | e0
  | e1 (x : T112_0e1)
abbrev N112_0.out : N112_0 → VX × S
  | .s0 (.mk a d f i) => (vN, S.mk (lS 8 a :: U :: U :: i64 d :: U :: U :: lS 8 a :: i64 f :: i64 i :: un 41 []) [])
  | .e0 => (VX.ret, S.mk (U :: U :: vb false :: un 47 []) [])
  | .e1 (.mk j) => (vX 0, S.mk (lS 8 j :: un 49 []) [])
abbrev E112_0 := Ent.o3 N112_0.out .s0 (fun (_ : Unit) => .e0) .e1 (fun b => by cases b <;> simp)
noncomputable def D112_0 : T112_0s0 → PT N112_0 | .mk f l i d => .test (d < i) (fun h0 => .test (0 ≤ d) (fun h1 => .look RW100 (f[Int.toNat d]?) fun a => .auto 4 <| .ask E114 (F114_ok d l a.c0 a.c3 a.c4 a.c5 a.c6 a.c7) fun ⟨m⟩ => .testB (!m) (fun h2 => .auto 18 <| .ret .e0) (fun h2 => .auto 3 <| .tot O146 (F146_ok a.c1 a.c2) fun o => .auto 1 <| .testB o (fun h3 => .auto 14 <| .ret .e0) (fun h3 => .auto 3 <| .ask E177 (F177_ok a.c1 a.c2) fun ⟨p⟩ => .auto 2 <| .testB (!p) (fun h4 => .auto 9 <| .ret .e0) (fun h4 => .auto 5 <| .look RW100 (f[(0 : Nat)]?) fun j => .auto 3 <| .tot O178 (F178_ok a.c1 a.c2 j.c1 j.c2) fun q => .auto 2 <| .testB (!q) (fun h5 => .ret .e0) (fun h5 => .auto 1 <| .ret (.s0 (.mk f a.c0 i (w64 (d + 1))))))))) (fun _ => .fail)) (fun h0 => .ret (.e1 (.mk f)))
noncomputable def L112_0 := E112_0.loop fun | .s0 x => D112_0 x | _ => .fail
theorem L112_0_ok : LU 112 0 B112 0 E112_0 L112_0 :=
  lk (L := notIn []) (fun b hb => by cases b <;> first | (cases hb; done) | (rename_i x; cases x; intro x; kernel_rfl) | (intro x; kernel_rfl))
noncomputable def N112_0.nx (n : Nat) : N112_0 → Option N112_0 | .s0 x => L112_0 n (.s0 x) | .e0 => some .e0 | .e1 x => some (.e1 x)
theorem L112_0_s0 (n : Nat) (x : T112_0s0) : L112_0 (n + 1) (.s0 x) = (D112_0 x).ev (N112_0.nx n) := Ent.loop_eq fun c => by cases c <;> rfl
noncomputable def D112 (a : LV) : PT A112 := .cut E112_0 (L112_0_ok (.s0 (.mk a 0 ((a.length : Int)) 0)) rfl) fun | .e0 => .ret (.a0 false) | .e1 (.mk d) => .ret (.a0 (decide ((d.length : Int) ≤ 32))) | _ => .fail
noncomputable def F112 (a : LV) : Option A112 := (D112 a).ev some
theorem F112_ok (a : LV) : FU E112 (F112 a) 112 [lS 8 a] := fu rfl rfl fun x => by kernel_rfl
/-! ## F53 -/
noncomputable abbrev B53 : Code := (Tryz.f53.body).getD .skip
inductive T53_r7s0 where
  | mk (a : W34)
abbrev T53_r7s0.st : T53_r7s0 → S
  | .mk a => S.mk (U :: pT 0 :: un 65 []) [oF 32 [W34.cells a]]
inductive T53_r7e0 where
  | mk (a : Bool)
inductive N53_r7 where
  | e0 (x : T53_r7e0)
abbrev N53_r7.out : N53_r7 → VX × S
  | .e0 (.mk a) => (vN, S.mk (U :: U :: vb a :: un 64 []) [])
abbrev E53_r7 := Ent.o1 N53_r7.out .e0 fun ⟨x⟩ => ⟨x, rfl⟩
noncomputable def D53_r7 : T53_r7s0 → PT N53_r7 | .mk a => .auto 1 <| .testB (((List.length a.c2) : Int) == 0) (fun h0 => .auto 5 <| .testB (((List.length a.c3) : Int) == 0) (fun h1 => .auto 3 <| .ask E112 (F112_ok a.c4) fun ⟨d⟩ => .auto 1 <| .ret (.e0 (.mk d))) (fun h1 => .auto 3 <| .ret (.e0 (.mk false)))) (fun h0 => .auto 8 <| .ret (.e0 (.mk false)))
noncomputable def J53_r7 (y : T53_r7s0) : Option N53_r7 := (D53_r7 y).ev some
theorem J53_r7_ok (y : T53_r7s0) : ∀ b, J53_r7 y = some b → regP Tryz.prog X CC 53 0 B53 7 y.st = some (E53_r7.out b) := by
  cases y; exact reg_ok (E := E53_r7) (fun x => by kernel_rfl)
inductive T53_r4s0 where
  | mk (a : W34)
abbrev T53_r4s0.st : T53_r4s0 → S
  | .mk a => S.mk (U :: pT 0 :: un 65 []) [oF 32 [W34.cells a]]
inductive T53_r4e0 where
  | mk (a : Bool) (d : W34)
inductive N53_r4 where
  | e0 (x : T53_r4e0)
abbrev N53_r4.out : N53_r4 → VX × S
  | .e0 (.mk a d) => (vN, S.mk (U :: pT 0 :: un 10 (vb a :: un 54 [])) [oF 32 [W34.cells d]])
abbrev E53_r4 := Ent.o1 N53_r4.out .e0 fun ⟨x⟩ => ⟨x, rfl⟩
noncomputable def D53_r4 : T53_r4s0 → PT N53_r4 | .mk a => .auto 1 <| .testB (a.c0 != 2) (fun h0 => .auto 4 <| .ret (.e0 (.mk (a.c1 != 0) a))) (fun h0 => .auto 3 <| .ret (.e0 (.mk false a)))
noncomputable def J53_r4 (y : T53_r4s0) : Option N53_r4 := (D53_r4 y).ev some
theorem J53_r4_ok (y : T53_r4s0) : ∀ b, J53_r4 y = some b → regP Tryz.prog X CC 53 0 B53 4 y.st = some (E53_r4.out b) := by
  cases y; exact reg_ok (E := E53_r4) (fun x => by kernel_rfl)
inductive T53_r3s0 where
  | mk (a : W34)
abbrev T53_r3s0.st : T53_r3s0 → S
  | .mk a => S.mk (U :: pT 0 :: un 65 []) [oF 32 [W34.cells a]]
inductive T53_r3e0 where
  | mk (a : Bool) (d : W34)
inductive N53_r3 where
  | e0 (x : T53_r3e0)
abbrev N53_r3.out : N53_r3 → VX × S
  | .e0 (.mk a d) => (vN, S.mk (U :: pT 0 :: un 10 (vb a :: un 54 [])) [oF 32 [W34.cells d]])
abbrev E53_r3 := Ent.o1 N53_r3.out .e0 fun ⟨x⟩ => ⟨x, rfl⟩
noncomputable def D53_r3 : T53_r3s0 → PT N53_r3 | .mk a => .auto 1 <| .testB (a.c0 == 2) (fun h0 => .auto 4 <| .test (a.c1 < 2) (fun h1 => .auto 5 <| .ret (.e0 (.mk true a))) (fun h1 => .auto 6 <| .ret (.e0 (.mk (decide (a.c1 > 16)) a)))) (fun h0 => .auto 5 <| .ret (.e0 (.mk false a)))
noncomputable def J53_r3 (y : T53_r3s0) : Option N53_r3 := (D53_r3 y).ev some
theorem J53_r3_ok (y : T53_r3s0) : ∀ b, J53_r3 y = some b → regP Tryz.prog X CC 53 0 B53 3 y.st = some (E53_r3.out b) := by
  cases y; exact reg_ok (E := E53_r3) (fun x => by kernel_rfl)
inductive T53_c3s0 where
  | mk (a : Bool) (d : W34)
abbrev T53_c3s0.st : T53_c3s0 → S
  | .mk a d => S.mk (U :: pT 0 :: U :: vb a :: un 63 []) [oF 32 [W34.cells d]]
inductive T53_c3e0 where
  | mk (a : Bool)
inductive T53_c3e1 where
  | mk (a : W34)
inductive N53_c3 where
  | e0 (x : T53_c3e0)
  | e1 (x : T53_c3e1)
abbrev N53_c3.out : N53_c3 → VX × S
  | .e0 (.mk a) => (VX.ret, S.mk (U :: U :: vb a :: un 64 []) [])
  | .e1 (.mk d) => (vN, S.mk (U :: pT 0 :: un 65 []) [oF 32 [W34.cells d]])
abbrev E53_c3 := Ent.o2 N53_c3.out .e0 .e1 (fun b => by cases b <;> simp)
noncomputable def D53_c3 : T53_c3s0 → PT N53_c3 | .mk d f => .testB d (fun h0 => .ret (.e0 (.mk false))) (fun h0 => .cut E53_r3 (J53_r3_ok (.mk f)) fun | .e0 (.mk i j) => .testB i (fun h1 => .known h1 <| .ret (.e0 (.mk false))) (fun h1 => .cut E53_r4 (J53_r4_ok (.mk j)) fun | .e0 (.mk l a) => .testB l (fun h2 => .ret (.e0 (.mk false))) (fun h2 => .auto 1 <| .testB (a.c0 == 3) (fun h3 => .cut E53_r7 (J53_r7_ok (.mk a)) fun | .e0 (.mk m) => .ret (.e0 (.mk m))) (fun h3 => .ret (.e1 (.mk a))))))
noncomputable def J53_c3 (y : T53_c3s0) : Option N53_c3 := (D53_c3 y).ev some
theorem J53_c3_ok (y : T53_c3s0) : CU 53 0 B53 3 E53_c3 (J53_c3 y) y.st := by
  cases y; exact cond_ok (L := notIn []) fun x => by kernel_rfl
inductive T53_r1s0 where
  | mk (a : W34)
abbrev T53_r1s0.st : T53_r1s0 → S
  | .mk a => S.mk (U :: pT 0 :: un 65 []) [oF 32 [W34.cells a]]
inductive T53_r1e0 where
  | mk (a : Bool) (d : W34)
inductive N53_r1 where
  | e0 (x : T53_r1e0)
abbrev N53_r1.out : N53_r1 → VX × S
  | .e0 (.mk a d) => (vN, S.mk (U :: pT 0 :: U :: vb a :: un 63 []) [oF 32 [W34.cells d]])
abbrev E53_r1 := Ent.o1 N53_r1.out .e0 fun ⟨x⟩ => ⟨x, rfl⟩
noncomputable def D53_r1 : T53_r1s0 → PT N53_r1 | .mk a => .auto 1 <| .test (a.c0 < 0) (fun h0 => .auto 3 <| .ret (.e0 (.mk true a))) (fun h0 => .auto 4 <| .ret (.e0 (.mk (decide (a.c0 > 3)) a)))
noncomputable def J53_r1 (y : T53_r1s0) : Option N53_r1 := (D53_r1 y).ev some
theorem J53_r1_ok (y : T53_r1s0) : ∀ b, J53_r1 y = some b → regP Tryz.prog X CC 53 0 B53 1 y.st = some (E53_r1.out b) := by
  cases y; exact reg_ok (E := E53_r1) (fun x => by kernel_rfl)
noncomputable def D53 (d : W34) : PT A53 := .cut E53_r1 (J53_r1_ok (.mk d)) fun | .e0 (.mk f i) => .cut E53_c3 (J53_c3_ok (.mk f i)) fun | .e0 (.mk j) => .ret (.a0 j) | .e1 (.mk a) => .auto 1 <| .testB (((List.length a.c4) : Int) == 0) (fun h0 => .auto 3 <| .ask E56 (F56_ok a.c2) fun ⟨l⟩ => .auto 1 <| .testB l (fun h1 => .auto 3 <| .ask E56 (F56_ok a.c3) fun ⟨m⟩ => .auto 1 <| .ret (.a0 m)) (fun h1 => .auto 3 <| .ret (.a0 false))) (fun h0 => .auto 7 <| .ret (.a0 false))
noncomputable def F53 (a : W34) : Option A53 := (D53 a).ev some
theorem F53_ok (a : W34) : FU E53 (F53 a) 53 [V.agg (W34.cells a)] := fu rfl rfl fun x => by kernel_rfl
/-! ## F113 -/
noncomputable def D113 (a : Int) : PT Bool := .test (a ≥ -67108864) (fun h0 => .auto 2 <| .ret (decide (a ≤ 67108864))) (fun h0 => .auto 2 <| .ret false)
abbrev O113 (a : Bool) : V × Store := (vb a, [])
noncomputable def F113 (a : Int) : Bool := (D113 a).evT
theorem F113_ok (a : Int) : UU 113 ([i64 a]) ([]) = some (O113 (F113 a)) :=
  fnT_ok (out := O113) (L := notIn []) rfl rfl (fun x => by kernel_rfl) (by simp [D113, PT.isT])
/-! ## F54 -/
noncomputable abbrev B54 : Code := (Tryz.f54.body).getD .skip
inductive T54_r1s0 where
  | mk (a d f i j l m o p q s t u v : Int)
abbrev T54_r1s0.st : T54_r1s0 → S
  | .mk a d f i j l m o p q s t u v => S.mk (U :: pT 0 :: un 40 []) [oF 14 [[i64 a, u8 d, u8 f, u8 i, u8 j, u8 l, u8 m, u8 o, u8 p, i64 q, i64 s, i64 t, i64 u, i64 v]]]
inductive T54_r1e0 where
  | mk (a : Bool) (d f i j l m o p q s t u v w : Int)
inductive N54_r1 where
  | e0 (x : T54_r1e0)
abbrev N54_r1.out : N54_r1 → VX × S
  | .e0 (.mk a d f i j l m o p q s t u v w) => (vN, S.mk (U :: pT 0 :: U :: vb a :: un 38 []) [oF 14 [[i64 d, u8 f, u8 i, u8 j, u8 l, u8 m, u8 o, u8 p, u8 q, i64 s, i64 t, i64 u, i64 v, i64 w]]])
abbrev E54_r1 := Ent.o1 N54_r1.out .e0 fun ⟨x⟩ => ⟨x, rfl⟩
noncomputable def D54_r1 : T54_r1s0 → PT N54_r1 | .mk j l m o p q s t u a d f i v => .auto 1 <| .tot O113 (F113_ok a) fun w => .testB w (fun h0 => .auto 4 <| .tot O113 (F113_ok d) fun y => .auto 1 <| .testB y (fun h1 => .auto 4 <| .tot O113 (F113_ok f) fun z => .auto 1 <| .testB z (fun h2 => .auto 4 <| .tot O113 (F113_ok i) fun d0 => .auto 1 <| .ret (.e0 (.mk d0 j l m o p q s t u a d f i v))) (fun h2 => .auto 4 <| .ret (.e0 (.mk false j l m o p q s t u a d f i v)))) (fun h1 => .auto 9 <| .ret (.e0 (.mk false j l m o p q s t u a d f i v)))) (fun h0 => .auto 14 <| .ret (.e0 (.mk false j l m o p q s t u a d f i v)))
noncomputable def J54_r1 (y : T54_r1s0) : Option N54_r1 := (D54_r1 y).ev some
theorem J54_r1_ok (y : T54_r1s0) : ∀ b, J54_r1 y = some b → regP Tryz.prog X CC 54 0 B54 1 y.st = some (E54_r1.out b) := by
  cases y; exact reg_ok (E := E54_r1) (fun x => by kernel_rfl)
noncomputable def D54 (d f i j l m o p q s t u v w : Int) : PT A54 := .cut E54_r1 (J54_r1_ok (.mk d f i j l m o p q s t u v w)) fun | .e0 (.mk y a d1 d2 d3 d4 d5 d6 d7 d8 d9 f0 f1 f2 z) => .auto 1 <| .test (a ≥ 0) (fun h0 => .auto 4 <| .test (a ≤ 2) (fun h1 => .auto 1 <| .testB y (fun h2 => .auto 3 <| .tot O113 (F113_ok z) fun d0 => .auto 1 <| .ret (.a0 d0)) (fun h2 => .auto 3 <| .ret (.a0 false))) (fun h1 => .auto 5 <| .ret (.a0 false))) (fun h0 => .auto 9 <| .ret (.a0 false))
noncomputable def F54 (a d f i j l m o p q s t u v : Int) : Option A54 := (D54 a d f i j l m o p q s t u v).ev some
theorem F54_ok (a d f i j l m o p q s t u v : Int) : FU E54 (F54 a d f i j l m o p q s t u v) 54 [V.agg [i64 a, u8 d, u8 f, u8 i, u8 j, u8 l, u8 m, u8 o, u8 p, i64 q, i64 s, i64 t, i64 u, i64 v]] := fu rfl rfl fun x => by kernel_rfl
/-! ## F55 -/
noncomputable abbrev B55 : Code := (Tryz.f55.body).getD .skip
inductive T55_0s0 where
  | mk (a : LV) (d f i : Int)
inductive T55_0e1 where
  | mk (a : LV)
inductive N55_0 where
  | s0 (x : T55_0s0)
  | e0
  | e1 (x : T55_0e1)
abbrev N55_0.out : N55_0 → VX × S
  | .s0 (.mk a d f i) => (vN, S.mk (lS 10 a :: U :: U :: i64 d :: U :: U :: lS 10 a :: i64 f :: i64 i :: un 20 []) [])
  | .e0 => (VX.ret, S.mk (U :: U :: vb false :: un 26 []) [])
  | .e1 (.mk j) => (vX 0, S.mk (lS 10 j :: un 28 []) [])
abbrev E55_0 := Ent.o3 N55_0.out .s0 (fun (_ : Unit) => .e0) .e1 (fun b => by cases b <;> simp)
noncomputable def D55_0 : T55_0s0 → PT N55_0 | .mk f j i d => .test (d < i) (fun h0 => .test (0 ≤ d) (fun h1 => .look RW108 (f[Int.toNat d]?) fun a => .auto 4 <| .ask E114 (F114_ok d j a.c0 a.c5 a.c6 a.c7 a.c8 a.c9) fun ⟨l⟩ => .testB (!l) (fun h2 => .ret .e0) (fun h2 => .auto 1 <| .ret (.s0 (.mk f a.c0 i (w64 (d + 1)))))) (fun _ => .fail)) (fun h0 => .ret (.e1 (.mk f)))
noncomputable def L55_0 := E55_0.loop fun | .s0 x => D55_0 x | _ => .fail
theorem L55_0_ok : LU 55 0 B55 0 E55_0 L55_0 :=
  lk (L := notIn []) (fun b hb => by cases b <;> first | (cases hb; done) | (rename_i x; cases x; intro x; kernel_rfl) | (intro x; kernel_rfl))
noncomputable def N55_0.nx (n : Nat) : N55_0 → Option N55_0 | .s0 x => L55_0 n (.s0 x) | .e0 => some .e0 | .e1 x => some (.e1 x)
theorem L55_0_s0 (n : Nat) (x : T55_0s0) : L55_0 (n + 1) (.s0 x) = (D55_0 x).ev (N55_0.nx n) := Ent.loop_eq fun c => by cases c <;> rfl
noncomputable def D55 (a : LV) : PT A55 := .cut E55_0 (L55_0_ok (.s0 (.mk a 0 ((a.length : Int)) 0)) rfl) fun | .e0 => .ret (.a0 false) | .e1 (.mk d) => .ret (.a0 (decide ((d.length : Int) ≤ 32))) | _ => .fail
noncomputable def F55 (a : LV) : Option A55 := (D55 a).ev some
theorem F55_ok (a : LV) : FU E55 (F55 a) 55 [lS 10 a] := fu rfl rfl fun x => by kernel_rfl
/-! ## F116 -/
noncomputable def D116 (a : Int) : PT Bool := .test (a < 65536) (fun h0 => .auto 2 <| .ret true) (fun h0 => .auto 2 <| .ret (decide (a > 67108864)))
abbrev O116 (a : Bool) : V × Store := (vb a, [])
noncomputable def F116 (a : Int) : Bool := (D116 a).evT
theorem F116_ok (a : Int) : UU 116 ([i64 a]) ([]) = some (O116 (F116 a)) :=
  fnT_ok (out := O116) (L := notIn []) rfl rfl (fun x => by kernel_rfl) (by simp [D116, PT.isT])
/-! ## F180 -/
noncomputable abbrev B180 : Code := (Tryz.f180.body).getD .skip
inductive T180_0s0 where
  | mk (a : LV) (d f : Int)
inductive T180_0e0 where
  | mk (a : Int)
inductive N180_0 where
  | s0 (x : T180_0s0)
  | e0 (x : T180_0e0)
  | e1
abbrev N180_0.out : N180_0 → VX × S
  | .s0 (.mk a d f) => (vN, S.mk (lS 1 a :: V.fn 116 [] :: un 5 (i64 d :: i64 f :: un 10 [])) [])
  | .e0 (.mk i) => (VX.ret, S.mk (un 4 (i64 i :: un 14 [])) [])
  | .e1 => (vX 0, S.mk (un 19 []) [])
abbrev E180_0 := Ent.o3 N180_0.out .s0 .e0 (fun (_ : Unit) => .e1) (fun b => by cases b <;> simp)
noncomputable def D180_0 : T180_0s0 → PT N180_0 | .mk d f a => .test (a < f) (fun h0 => .test (0 ≤ a) (fun h1 => .look RW2 (d[Int.toNat a]?) fun i => .tot O116 (F116_ok i.c0) fun j => .testB j (fun h2 => .ret (.e0 (.mk a))) (fun h2 => .ret (.s0 (.mk d f (w64 (a + 1)))))) (fun _ => .fail)) (fun h0 => .ret .e1)
noncomputable def L180_0 := E180_0.loop fun | .s0 x => D180_0 x | _ => .fail
theorem L180_0_ok : LU 180 0 B180 0 E180_0 L180_0 :=
  lk (L := notIn []) (fun b hb => by cases b <;> first | (cases hb; done) | (rename_i x; cases x; intro x; kernel_rfl) | (intro x; kernel_rfl))
noncomputable def N180_0.nx (n : Nat) : N180_0 → Option N180_0 | .s0 x => L180_0 n (.s0 x) | .e0 x => some (.e0 x) | .e1 => some .e1
theorem L180_0_s0 (n : Nat) (x : T180_0s0) : L180_0 (n + 1) (.s0 x) = (D180_0 x).ev (N180_0.nx n) := Ent.loop_eq fun c => by cases c <;> rfl
noncomputable def D180 (a : LV) : PT A180 := .cut E180_0 (L180_0_ok (.s0 (.mk a ((a.length : Int)) 0)) rfl) fun | .e0 (.mk d) => .ret (.a0 d) | .e1 => .ret (.a0 (-1)) | _ => .fail
noncomputable def F180 (a : LV) : Option A180 := (D180 a).ev some
theorem F180_ok (a : LV) : FU E180 (F180 a) 180 [lS 1 a, V.fn 116 []] := fu rfl rfl fun x => by kernel_rfl
/-! ## F115 -/
noncomputable def D115 (a : LV) : PT A115 := .ask E180 (F180_ok a) fun ⟨d⟩ => .ret (.a0 (decide (d ≥ 0)))
noncomputable def F115 (a : LV) : Option A115 := (D115 a).ev some
theorem F115_ok (a : LV) : FU E115 (F115 a) 115 [lS 1 a, V.fn 116 []] := fu rfl rfl fun x => by kernel_rfl
/-! ## F57 -/
noncomputable def D57 (a : LV) : PT A57 := .test ((a.length : Int) ≤ 8) (fun h0 => .auto 1 <| .ask E115 (F115_ok a) fun ⟨d⟩ => .auto 2 <| .ret (.a0 (!d))) (fun h0 => .auto 3 <| .ret (.a0 false))
noncomputable def F57 (a : LV) : Option A57 := (D57 a).ev some
theorem F57_ok (a : LV) : FU E57 (F57 a) 57 [lS 1 a] := fu rfl rfl fun x => by kernel_rfl
/-! ## F15 -/
noncomputable def D15 (a : W34) : PT A15 := .auto 1 <| .ask E53 (F53_ok a) fun ⟨d⟩ => .testB d (fun h0 => .auto 4 <| .testB (a.c6 == 0) (fun h1 => .auto 9 <| .ask E54 (F54_ok a.c7 a.c8 a.c9 a.c10 a.c11 a.c12 a.c13 a.c14 a.c15 a.c16 a.c17 a.c18 a.c19 a.c20) fun ⟨f⟩ => .auto 1 <| .testB f (fun h2 => .auto 3 <| .ask E55 (F55_ok a.c21) fun ⟨i⟩ => .auto 1 <| .testB i (fun h3 => .auto 3 <| .ask E56 (F56_ok a.c23) fun ⟨j⟩ => .auto 1 <| .testB j (fun h4 => .auto 3 <| .ask E56 (F56_ok a.c30) fun ⟨l⟩ => .auto 1 <| .testB l (fun h5 => .auto 3 <| .ask E56 (F56_ok a.c31) fun ⟨m⟩ => .auto 1 <| .testB m (fun h6 => .auto 4 <| .testB (a.c28 == 0) (fun h7 => .auto 9 <| .ask E57 (F57_ok a.c29) fun ⟨o⟩ => .auto 1 <| .ret (.a0 o)) (fun h7 => .auto 6 <| .testB (a.c28 == 1) (fun h8 => .auto 3 <| .ask E57 (F57_ok a.c29) fun ⟨p⟩ => .auto 1 <| .ret (.a0 p)) (fun h8 => .auto 3 <| .ret (.a0 false)))) (fun h6 => .auto 9 <| .ret (.a0 false))) (fun h5 => .auto 13 <| .ret (.a0 false))) (fun h4 => .auto 17 <| .ret (.a0 false))) (fun h3 => .auto 21 <| .ret (.a0 false))) (fun h2 => .auto 25 <| .ret (.a0 false))) (fun h1 => .auto 6 <| .testB (a.c6 == 1) (fun h2 => .auto 3 <| .ask E54 (F54_ok a.c7 a.c8 a.c9 a.c10 a.c11 a.c12 a.c13 a.c14 a.c15 a.c16 a.c17 a.c18 a.c19 a.c20) fun ⟨q⟩ => .auto 1 <| .testB q (fun h3 => .auto 3 <| .ask E55 (F55_ok a.c21) fun ⟨s⟩ => .auto 1 <| .testB s (fun h4 => .auto 3 <| .ask E56 (F56_ok a.c23) fun ⟨t⟩ => .auto 1 <| .testB t (fun h5 => .auto 3 <| .ask E56 (F56_ok a.c30) fun ⟨u⟩ => .auto 1 <| .testB u (fun h6 => .auto 3 <| .ask E56 (F56_ok a.c31) fun ⟨v⟩ => .auto 1 <| .testB v (fun h7 => .auto 4 <| .testB (a.c28 == 0) (fun h8 => .auto 9 <| .ask E57 (F57_ok a.c29) fun ⟨w⟩ => .auto 1 <| .ret (.a0 w)) (fun h8 => .auto 6 <| .testB (a.c28 == 1) (fun h9 => .auto 3 <| .ask E57 (F57_ok a.c29) fun ⟨y⟩ => .auto 1 <| .ret (.a0 y)) (fun h9 => .auto 3 <| .ret (.a0 false)))) (fun h7 => .auto 9 <| .ret (.a0 false))) (fun h6 => .auto 13 <| .ret (.a0 false))) (fun h5 => .auto 17 <| .ret (.a0 false))) (fun h4 => .auto 21 <| .ret (.a0 false))) (fun h3 => .auto 25 <| .ret (.a0 false))) (fun h2 => .auto 29 <| .ret (.a0 false)))) (fun h0 => .auto 35 <| .ret (.a0 false))
noncomputable def F15 (a : W34) : Option A15 := (D15 a).ev some
theorem F15_ok (a : W34) : FU E15 (F15 a) 15 [V.agg (W34.cells a)] := fu rfl rfl fun x => by kernel_rfl
/-! ## F294 -/
noncomputable def D294 (a : Int) : PT Bool := .test (a ≥ -67108864) (fun h0 => .auto 2 <| .ret (decide (a ≤ 67108864))) (fun h0 => .auto 2 <| .ret false)
abbrev O294 (a : Bool) : V × Store := (vb a, [])
noncomputable def F294 (a : Int) : Bool := (D294 a).evT
theorem F294_ok (a : Int) : UU 294 ([i64 a]) ([]) = some (O294 (F294 a)) :=
  fnT_ok (out := O294) (L := notIn []) rfl rfl (fun x => by kernel_rfl) (by simp [D294, PT.isT])
/-! ## F280 -/
noncomputable abbrev B280 : Code := (Tryz.f280.body).getD .skip
inductive T280_r1s0 where
  | mk (a d f i j l m o p q s t u v : Int)
abbrev T280_r1s0.st : T280_r1s0 → S
  | .mk a d f i j l m o p q s t u v => S.mk (U :: pT 0 :: un 40 []) [oF 14 [[i64 a, u8 d, u8 f, u8 i, u8 j, u8 l, u8 m, u8 o, u8 p, i64 q, i64 s, i64 t, i64 u, i64 v]]]
inductive T280_r1e0 where
  | mk (a : Bool) (d f i j l m o p q s t u v w : Int)
inductive N280_r1 where
  | e0 (x : T280_r1e0)
abbrev N280_r1.out : N280_r1 → VX × S
  | .e0 (.mk a d f i j l m o p q s t u v w) => (vN, S.mk (U :: pT 0 :: U :: vb a :: un 38 []) [oF 14 [[i64 d, u8 f, u8 i, u8 j, u8 l, u8 m, u8 o, u8 p, u8 q, i64 s, i64 t, i64 u, i64 v, i64 w]]])
abbrev E280_r1 := Ent.o1 N280_r1.out .e0 fun ⟨x⟩ => ⟨x, rfl⟩
noncomputable def D280_r1 : T280_r1s0 → PT N280_r1 | .mk j l m o p q s t u a d f i v => .auto 1 <| .tot O294 (F294_ok a) fun w => .testB w (fun h0 => .auto 4 <| .tot O294 (F294_ok d) fun y => .auto 1 <| .testB y (fun h1 => .auto 4 <| .tot O294 (F294_ok f) fun z => .auto 1 <| .testB z (fun h2 => .auto 4 <| .tot O294 (F294_ok i) fun d0 => .auto 1 <| .ret (.e0 (.mk d0 j l m o p q s t u a d f i v))) (fun h2 => .auto 4 <| .ret (.e0 (.mk false j l m o p q s t u a d f i v)))) (fun h1 => .auto 9 <| .ret (.e0 (.mk false j l m o p q s t u a d f i v)))) (fun h0 => .auto 14 <| .ret (.e0 (.mk false j l m o p q s t u a d f i v)))
noncomputable def J280_r1 (y : T280_r1s0) : Option N280_r1 := (D280_r1 y).ev some
theorem J280_r1_ok (y : T280_r1s0) : ∀ b, J280_r1 y = some b → regP Tryz.prog X CC 280 0 B280 1 y.st = some (E280_r1.out b) := by
  cases y; exact reg_ok (E := E280_r1) (fun x => by kernel_rfl)
noncomputable def D280 (d f i j l m o p q s t u v w : Int) : PT A280 := .cut E280_r1 (J280_r1_ok (.mk d f i j l m o p q s t u v w)) fun | .e0 (.mk y a d1 d2 d3 d4 d5 d6 d7 d8 d9 f0 f1 f2 z) => .auto 1 <| .test (a ≥ 0) (fun h0 => .auto 4 <| .test (a ≤ 2) (fun h1 => .auto 1 <| .testB y (fun h2 => .auto 3 <| .tot O294 (F294_ok z) fun d0 => .auto 1 <| .ret (.a0 d0)) (fun h2 => .auto 3 <| .ret (.a0 false))) (fun h1 => .auto 5 <| .ret (.a0 false))) (fun h0 => .auto 9 <| .ret (.a0 false))
noncomputable def F280 (a d f i j l m o p q s t u v : Int) : Option A280 := (D280 a d f i j l m o p q s t u v).ev some
theorem F280_ok (a d f i j l m o p q s t u v : Int) : FU E280 (F280 a d f i j l m o p q s t u v) 280 [V.agg [i64 a, u8 d, u8 f, u8 i, u8 j, u8 l, u8 m, u8 o, u8 p, i64 q, i64 s, i64 t, i64 u, i64 v]] := fu rfl rfl fun x => by kernel_rfl
/-! ## F253 -/
noncomputable abbrev B253 : Code := (Tryz.f253.body).getD .skip
inductive T253_r4s0 where
  | mk (a d f : Bool) (i : W57)
abbrev T253_r4s0.st : T253_r4s0 → S
  | .mk a d f i => S.mk (U :: pT 0 :: U :: vb a :: vb d :: vb f :: un 93 []) [oF 50 [W57.cells i]]
inductive T253_r4e0 where
  | mk (a : Bool) (d : W57)
inductive N253_r4 where
  | e0 (x : T253_r4e0)
abbrev N253_r4.out : N253_r4 → VX × S
  | .e0 (.mk a d) => (vN, S.mk (U :: pT 0 :: un 69 (vb a :: un 27 [])) [oF 50 [W57.cells d]])
abbrev E253_r4 := Ent.o1 N253_r4.out .e0 fun ⟨x⟩ => ⟨x, rfl⟩
noncomputable def D253_r4 : T253_r4s0 → PT N253_r4 | .mk i j l a => .testB (!i) (fun h0 => .auto 9 <| .ret (.e0 (.mk true a))) (fun h0 => .auto 2 <| .testB (!j) (fun h1 => .auto 6 <| .ret (.e0 (.mk true a))) (fun h1 => .auto 2 <| .testB (!l) (fun h2 => .auto 3 <| .ret (.e0 (.mk true a))) (fun h2 => .auto 2 <| .ask E277 (F277_ok a) fun ⟨d, f⟩ => .auto 1 <| .test (0 + d ≤ List.length f) (fun h3 => .ask E276 (F276_ok (List.take d f)) fun ⟨m⟩ => .auto 1 <| .ret (.e0 (.mk m a))) (fun _ => .fail))))
noncomputable def J253_r4 (y : T253_r4s0) : Option N253_r4 := (D253_r4 y).ev some
theorem J253_r4_ok (y : T253_r4s0) : ∀ b, J253_r4 y = some b → regP Tryz.prog X CC 253 0 B253 4 y.st = some (E253_r4.out b) := by
  cases y; exact reg_ok (E := E253_r4) (fun x => by kernel_rfl)
inductive T253_r3s0 where
  | mk (a d : Bool) (f : W57)
abbrev T253_r3s0.st : T253_r3s0 → S
  | .mk a d f => S.mk (U :: pT 0 :: U :: vb a :: vb d :: un 94 []) [oF 50 [W57.cells f]]
inductive T253_r3e0 where
  | mk (a d f : Bool) (i : W57)
inductive N253_r3 where
  | e0 (x : T253_r3e0)
abbrev N253_r3.out : N253_r3 → VX × S
  | .e0 (.mk a d f i) => (vN, S.mk (U :: pT 0 :: U :: vb a :: vb d :: vb f :: un 93 []) [oF 50 [W57.cells i]])
abbrev E253_r3 := Ent.o1 N253_r3.out .e0 fun ⟨x⟩ => ⟨x, rfl⟩
noncomputable def D253_r3 : T253_r3s0 → PT N253_r3 | .mk d f a => .auto 1 <| .ask E177 (F177_ok a.c16 a.c17) fun ⟨i⟩ => .testB i (fun h0 => .auto 3 <| .tot O146 (F146_ok a.c16 a.c17) fun j => .auto 1 <| .testB j (fun h1 => .auto 5 <| .ret (.e0 (.mk d f true a))) (fun h1 => .auto 6 <| .ret (.e0 (.mk d f a.c16 a)))) (fun h0 => .auto 5 <| .ret (.e0 (.mk d f false a)))
noncomputable def J253_r3 (y : T253_r3s0) : Option N253_r3 := (D253_r3 y).ev some
theorem J253_r3_ok (y : T253_r3s0) : ∀ b, J253_r3 y = some b → regP Tryz.prog X CC 253 0 B253 3 y.st = some (E253_r3.out b) := by
  cases y; exact reg_ok (E := E253_r3) (fun x => by kernel_rfl)
inductive T253_r2s0 where
  | mk (a : Bool) (d : W57)
abbrev T253_r2s0.st : T253_r2s0 → S
  | .mk a d => S.mk (U :: pT 0 :: U :: vb a :: un 95 []) [oF 50 [W57.cells d]]
inductive T253_r2e0 where
  | mk (a d : Bool) (f : W57)
inductive N253_r2 where
  | e0 (x : T253_r2e0)
abbrev N253_r2.out : N253_r2 → VX × S
  | .e0 (.mk a d f) => (vN, S.mk (U :: pT 0 :: U :: vb a :: vb d :: un 94 []) [oF 50 [W57.cells f]])
abbrev E253_r2 := Ent.o1 N253_r2.out .e0 fun ⟨x⟩ => ⟨x, rfl⟩
noncomputable def D253_r2 : T253_r2s0 → PT N253_r2 | .mk d a => .auto 1 <| .tot O214 (F214_ok a.c4) fun f => .testB f (fun h0 => .auto 3 <| .tot O214 (F214_ok a.c5) fun i => .auto 1 <| .testB i (fun h1 => .auto 3 <| .tot O214 (F214_ok a.c6) fun j => .auto 1 <| .testB j (fun h2 => .auto 7 <| .ret (.e0 (.mk d (decide (a.c4 < a.c5)) a))) (fun h2 => .auto 5 <| .ret (.e0 (.mk d false a)))) (fun h1 => .auto 9 <| .ret (.e0 (.mk d false a)))) (fun h0 => .auto 13 <| .ret (.e0 (.mk d false a)))
noncomputable def J253_r2 (y : T253_r2s0) : Option N253_r2 := (D253_r2 y).ev some
theorem J253_r2_ok (y : T253_r2s0) : ∀ b, J253_r2 y = some b → regP Tryz.prog X CC 253 0 B253 2 y.st = some (E253_r2.out b) := by
  cases y; exact reg_ok (E := E253_r2) (fun x => by kernel_rfl)
inductive T253_r1s0 where
  | mk (a : W57)
abbrev T253_r1s0.st : T253_r1s0 → S
  | .mk a => S.mk (U :: pT 0 :: un 97 []) [oF 50 [W57.cells a]]
inductive T253_r1e0 where
  | mk (a : Bool) (d : W57)
inductive N253_r1 where
  | e0 (x : T253_r1e0)
abbrev N253_r1.out : N253_r1 → VX × S
  | .e0 (.mk a d) => (vN, S.mk (U :: pT 0 :: U :: vb a :: un 95 []) [oF 50 [W57.cells d]])
abbrev E253_r1 := Ent.o1 N253_r1.out .e0 fun ⟨x⟩ => ⟨x, rfl⟩
noncomputable def D253_r1 : T253_r1s0 → PT N253_r1 | .mk a => .auto 1 <| .testB (a.c0 == 0) (fun h0 => .auto 8 <| .test (a.c3 ≥ 0) (fun h1 => .auto 4 <| .ret (.e0 (.mk (decide (a.c3 ≤ 2)) a))) (fun h1 => .auto 3 <| .ret (.e0 (.mk false a)))) (fun h0 => .auto 4 <| .testB (a.c0 == 1) (fun h1 => .auto 4 <| .test (a.c3 ≥ 0) (fun h2 => .auto 4 <| .ret (.e0 (.mk (decide (a.c3 ≤ 2)) a))) (fun h2 => .auto 3 <| .ret (.e0 (.mk false a)))) (fun h1 => .auto 7 <| .ret (.e0 (.mk false a))))
noncomputable def J253_r1 (y : T253_r1s0) : Option N253_r1 := (D253_r1 y).ev some
theorem J253_r1_ok (y : T253_r1s0) : ∀ b, J253_r1 y = some b → regP Tryz.prog X CC 253 0 B253 1 y.st = some (E253_r1.out b) := by
  cases y; exact reg_ok (E := E253_r1) (fun x => by kernel_rfl)
noncomputable def D253 (d : W57) : PT A253 := .cut E253_r1 (J253_r1_ok (.mk d)) fun | .e0 (.mk f i) => .cut E253_r2 (J253_r2_ok (.mk f i)) fun | .e0 (.mk j l m) => .cut E253_r3 (J253_r3_ok (.mk j l m)) fun | .e0 (.mk o p q s) => .cut E253_r4 (J253_r4_ok (.mk o p q s)) fun | .e0 (.mk t a) => .testB t (fun h0 => .ret (.a0 false)) (fun h0 => .auto 1 <| .testB (a.c0 == 1) (fun h1 => .auto 1 <| .ask E279 (F279_ok (W34.mk a.c18 a.c19 a.c20 a.c21 a.c22 a.c23 a.c24 a.c25 a.c26 a.c27 a.c28 a.c29 a.c30 a.c31 a.c32 a.c33 a.c34 a.c35 a.c36 a.c37 a.c38 a.c39 a.c40 a.c41 a.c42 a.c43 a.c44 a.c45 a.c46 a.c47 a.c48 a.c49) (W34.mk 0 0 [] [] [] false 0 0 0 0 0 0 0 0 0 0 0 0 0 0 0 [] false [] 0 0 0 0 0 [] [] [])) fun ⟨u⟩ => .ret (.a0 u)) (fun h1 => .auto 1 <| .testB (a.c2 == 0) (fun h2 => .auto 5 <| .testB (((List.length a.c15) : Int) == 0) (fun h3 => .auto 3 <| .ask E15 (F15_ok (W34.mk a.c18 a.c19 a.c20 a.c21 a.c22 a.c23 a.c24 a.c25 a.c26 a.c27 a.c28 a.c29 a.c30 a.c31 a.c32 a.c33 a.c34 a.c35 a.c36 a.c37 a.c38 a.c39 a.c40 a.c41 a.c42 a.c43 a.c44 a.c45 a.c46 a.c47 a.c48 a.c49)) fun ⟨v⟩ => .auto 1 <| .testB v (fun h4 => .auto 4 <| .ask E280 (F280_ok a.c25 a.c26 a.c27 a.c28 a.c29 a.c30 a.c31 a.c32 a.c33 a.c34 a.c35 a.c36 a.c37 a.c38) fun ⟨w⟩ => .auto 1 <| .ret (.a0 w)) (fun h4 => .auto 4 <| .ret (.a0 false))) (fun h3 => .auto 8 <| .ret (.a0 false))) (fun h2 => .auto 13 <| .ret (.a0 false))))
noncomputable def F253 (a : W57) : Option A253 := (D253 a).ev some
theorem F253_ok (a : W57) : FU E253 (F253 a) 253 [V.agg (W57.cells a)] := fu rfl rfl fun x => by kernel_rfl
/-! ## F255 -/
noncomputable def D255 (a d : Int) : PT Bool := .test (a ≥ 0) (fun h0 => .auto 3 <| .ret (decide (a < d))) (fun h0 => .auto 3 <| .ret false)
abbrev O255 (a : Bool) : V × Store := (vb a, [])
noncomputable def F255 (a d : Int) : Bool := (D255 a d).evT
theorem F255_ok (a d : Int) : UU 255 ([i64 a, i64 d]) ([]) = some (O255 (F255 a d)) :=
  fnT_ok (out := O255) (L := notIn []) rfl rfl (fun x => by kernel_rfl) (by simp [D255, PT.isT])
/-! ## F281 -/
noncomputable abbrev B281 : Code := (Tryz.f281.body).getD .skip
inductive T281_0s0 where
  | mk (a d f i : Int) (j : LV)
inductive T281_0e0 where
  | mk (a : Bool)
inductive N281_0 where
  | s0 (x : T281_0s0)
  | e0 (x : T281_0e0)
  | e1
abbrev N281_0.out : N281_0 → VX × S
  | .s0 (.mk a d f i j) => (vN, S.mk (U :: i64 a :: pT 0 :: U :: U :: i64 d :: un 8 (i64 f :: i64 i :: un 17 [])) [oF 1 [[lS 50 j]]])
  | .e0 (.mk l) => (VX.ret, S.mk (un 4 (vb l :: un 28 [])) [])
  | .e1 => (vX 0, S.mk (un 33 []) [])
abbrev E281_0 := Ent.o3 N281_0.out .s0 .e0 (fun (_ : Unit) => .e1) (fun b => by cases b <;> simp)
noncomputable def D281_0 : T281_0s0 → PT N281_0 | .mk f a i j d => .test (j < i) (fun h0 => .testB (a == f) (fun h1 => .ret (.e0 (.mk true))) (fun h1 => .auto 1 <| .tot O255 (F255_ok a ((d.length : Int))) fun l => .testB (!l) (fun h2 => .ret (.e0 (.mk false))) (fun h2 => .auto 1 <| .test (0 ≤ a) (fun h3 => .look RW57 (d[Int.toNat a]?) fun m => .ret (.s0 (.mk f m.c1 i (w64 (j + 1)) d))) (fun _ => .fail)))) (fun h0 => .ret .e1)
noncomputable def L281_0 := E281_0.loop fun | .s0 x => D281_0 x | _ => .fail
theorem L281_0_ok : LU 281 0 B281 0 E281_0 L281_0 :=
  lk (L := notIn []) (fun b hb => by cases b <;> first | (cases hb; done) | (rename_i x; cases x; intro x; kernel_rfl) | (intro x; kernel_rfl))
noncomputable def N281_0.nx (n : Nat) : N281_0 → Option N281_0 | .s0 x => L281_0 n (.s0 x) | .e0 x => some (.e0 x) | .e1 => some .e1
theorem L281_0_s0 (n : Nat) (x : T281_0s0) : L281_0 (n + 1) (.s0 x) = (D281_0 x).ev (N281_0.nx n) := Ent.loop_eq fun c => by cases c <;> rfl
noncomputable def D281 (a : LV) (d : Int) : PT A281 := .auto 1 <| .test (0 ≤ d) (fun h0 => .look RW57 (a[Int.toNat d]?) fun f => .auto 1 <| .cut E281_0 (L281_0_ok (.s0 (.mk d f.c1 ((a.length : Int)) 0 a)) rfl) fun | .e0 (.mk i) => .ret (.a0 i) | .e1 => .ret (.a0 false) | _ => .fail) (fun _ => .fail)
noncomputable def F281 (a : LV) (d : Int) : Option A281 := (D281 a d).ev some
theorem F281_ok (a : LV) (d : Int) : FU E281 (F281 a d) 281 [V.agg [lS 50 a], i64 d] := fu rfl rfl fun x => by kernel_rfl
/-! ## F254 -/
noncomputable abbrev B254 : Code := (Tryz.f254.body).getD .skip
inductive T254_r6s0 where
  | mk (a d f i : Int) (j l : LV) (m : W57)
abbrev T254_r6s0.st : T254_r6s0 → S
  | .mk a d f i j l m => S.mk (U :: i64 a :: i64 d :: pT 0 :: U :: U :: U :: pT 1 :: pT 2 :: un 61 []) [oF 3 [[i64 f, i64 i, lS 1 j]], oF 1 [[lS 50 l]], oF 50 [W57.cells m]]
inductive T254_r6e0 where
  | mk (a : Int) (d : Bool) (f i : Int) (j : LV) (l : W57)
inductive N254_r6 where
  | e0 (x : T254_r6e0)
abbrev N254_r6.out : N254_r6 → VX × S
  | .e0 (.mk a d f i j l) => (vN, S.mk (U :: i64 a :: U :: pT 0 :: un 4 (pT 1 :: un 26 (vb d :: un 34 []))) [oF 3 [[i64 f, i64 i, lS 1 j]], oF 50 [W57.cells l]])
abbrev E254_r6 := Ent.o1 N254_r6.out .e0 fun ⟨x⟩ => ⟨x, rfl⟩
noncomputable def D254_r6 : T254_r6s0 → PT N254_r6 | .mk d f i j l m a => .auto 1 <| .testB (a.c3 != 0) (fun h0 => .auto 2 <| .testB (f == 0) (fun h1 => .auto 10 <| .ret (.e0 (.mk d true i j l a))) (fun h1 => .auto 5 <| .test (0 ≤ w64 (f - 1)) (fun h2 => .look RW57 (m[Int.toNat (w64 (f - (1 : Int)))]?) fun o => .auto 6 <| .ret (.e0 (.mk d (o.c3 != 0) i j l a))) (fun _ => .fail))) (fun h0 => .auto 4 <| .ret (.e0 (.mk d false i j l a)))
noncomputable def J254_r6 (y : T254_r6s0) : Option N254_r6 := (D254_r6 y).ev some
theorem J254_r6_ok (y : T254_r6s0) : ∀ b, J254_r6 y = some b → regP Tryz.prog X CC 254 0 B254 6 y.st = some (E254_r6.out b) := by
  cases y; exact reg_ok (E := E254_r6) (fun x => by kernel_rfl)
inductive T254_r3s0 where
  | mk (a d f i : Int) (j l : LV) (m : W57)
abbrev T254_r3s0.st : T254_r3s0 → S
  | .mk a d f i j l m => S.mk (U :: i64 a :: i64 d :: pT 0 :: U :: U :: U :: pT 1 :: pT 2 :: un 61 []) [oF 3 [[i64 f, i64 i, lS 1 j]], oF 1 [[lS 50 l]], oF 50 [W57.cells m]]
inductive T254_r3e0 where
  | mk (a d : Int) (f : Bool) (i j : Int) (l m : LV) (o : W57)
inductive N254_r3 where
  | e0 (x : T254_r3e0)
abbrev N254_r3.out : N254_r3 → VX × S
  | .e0 (.mk a d f i j l m o) => (vN, S.mk (U :: i64 a :: i64 d :: pT 0 :: U :: U :: U :: pT 1 :: pT 2 :: un 10 (vb f :: un 50 [])) [oF 3 [[i64 i, i64 j, lS 1 l]], oF 1 [[lS 50 m]], oF 50 [W57.cells o]])
abbrev E254_r3 := Ent.o1 N254_r3.out .e0 fun ⟨x⟩ => ⟨x, rfl⟩
noncomputable def D254_r3 : T254_r3s0 → PT N254_r3 | .mk f i j l m d a => .auto 1 <| .testB (a.c1 != -1) (fun h0 => .auto 7 <| .tot O255 (F255_ok a.c1 ((d.length : Int))) fun o => .auto 2 <| .ret (.e0 (.mk f i (!o) j l m d a))) (fun h0 => .auto 7 <| .ret (.e0 (.mk f i false j l m d a)))
noncomputable def J254_r3 (y : T254_r3s0) : Option N254_r3 := (D254_r3 y).ev some
theorem J254_r3_ok (y : T254_r3s0) : ∀ b, J254_r3 y = some b → regP Tryz.prog X CC 254 0 B254 3 y.st = some (E254_r3.out b) := by
  cases y; exact reg_ok (E := E254_r3) (fun x => by kernel_rfl)
inductive T254_b0s0 where
  | mk (a d f i : Int) (j l : LV) (m : W57)
abbrev T254_b0s0.st : T254_b0s0 → S
  | .mk a d f i j l m => S.mk (U :: i64 a :: i64 d :: pT 0 :: U :: U :: U :: pT 1 :: pT 2 :: un 61 []) [oF 3 [[i64 f, i64 i, lS 1 j]], oF 1 [[lS 50 l]], oF 50 [W57.cells m]]
inductive T254_b0e1 where
  | mk (a d f : Int) (i : LV) (j : W57)
inductive N254_b0 where
  | e0
  | e1 (x : T254_b0e1)
abbrev N254_b0.out : N254_b0 → VX × S
  | .e0 => (VX.ret, S.mk (un 6 (vb false :: un 63 [])) [])
  | .e1 (.mk a d f i j) => (vN, S.mk (U :: i64 a :: U :: pT 0 :: un 4 (pT 1 :: un 61 [])) [oF 3 [[i64 d, i64 f, lS 1 i]], oF 50 [W57.cells j]])
abbrev E254_b0 := Ent.o2 N254_b0.out (fun (_ : Unit) => .e0) .e1 (fun b => by cases b <;> simp)
noncomputable def D254_b0 : T254_b0s0 → PT N254_b0 | .mk f i j l m o p => .cut E254_r3 (J254_r3_ok (.mk f i j l m o p)) fun | .e0 (.mk q a s t u v d w) => .testB s (fun h0 => .known h0 <| .ret .e0) (fun h0 => .auto 1 <| .ask E281 (F281_ok d a) fun ⟨y⟩ => .testB y (fun h1 => .ret .e0) (fun h1 => .cut E254_r6 (J254_r6_ok (.mk q a t u v d w)) fun | .e0 (.mk z d0 d1 d2 d3 d4) => .testB d0 (fun h2 => .ret .e0) (fun h2 => .ret (.e1 (.mk z d1 d2 d3 d4)))))
noncomputable def J254_b0 (y : T254_b0s0) : Option N254_b0 := (D254_b0 y).ev some
theorem J254_b0_ok (y : T254_b0s0) : BU 254 0 B254 0 E254_b0 (J254_b0 y) y.st := by
  cases y; exact block_ok (L := notIn []) fun x => by kernel_rfl
noncomputable def D254 (l m : Int) (i : LV) (a d : Int) : PT A254 := .auto 1 <| .test (0 ≤ a) (fun h0 => .look RW52 (i[Int.toNat a]?) fun j => .auto 2 <| .test (0 ≤ d) (fun h1 => .look RW57 (j.c0[Int.toNat d]?) fun o => .auto 1 <| .cut E254_b0 (J254_b0_ok (.mk a d l m i j.c0 o)) fun | .e0 => .ret (.a0 false) | .e1 (.mk p t u q f) => .auto 1 <| .testB (f.c0 != 1) (fun h2 => .auto 8 <| .ret (.a0 true)) (fun h2 => .auto 7 <| .tot O255 (F255_ok f.c2 ((q.length : Int))) fun s => .auto 1 <| .testB s (fun h3 => .auto 7 <| .ret (.a0 (decide (f.c2 > p)))) (fun h3 => .auto 6 <| .ret (.a0 false)))) (fun _ => .fail)) (fun _ => .fail)
noncomputable def F254 (a d : Int) (f : LV) (i j : Int) : Option A254 := (D254 a d f i j).ev some
theorem F254_ok (a d : Int) (f : LV) (i j : Int) : FU E254 (F254 a d f i j) 254 [V.agg [i64 a, i64 d, lS 1 f], i64 i, i64 j] := fu rfl rfl fun x => by kernel_rfl
/-! ## F215 -/
noncomputable abbrev B215 : Code := (Tryz.f215.body).getD .skip
inductive T215_2s0 where
  | mk (a : Int) (d : LV) (f : Int) (i : LV) (j l m o : Int)
inductive T215_2e0 where
  | mk (a : Int)
inductive T215_2e1 where
  | mk (a : LV) (d f i j : Int)
inductive N215_2 where
  | s0 (x : T215_2s0)
  | e0 (x : T215_2e0)
  | e1 (x : T215_2e1)
abbrev N215_2.out : N215_2 → VX × S
  | .s0 (.mk a d i j l m o p) => (vN, S.mk (U :: pT 0 :: U :: i64 a :: un 4 (lS 1 d :: i64 i :: i64 a :: un 5 (lS 50 j :: i64 l :: i64 m :: un 14 []))) [oF 3 [[i64 o, i64 p, lS 1 d]]])
  | .e0 (.mk q) => (VX.ret, S.mk (U :: U :: i64 q :: un 30 []) [])
  | .e1 (.mk f s t u v) => (vX 2, S.mk (U :: pT 0 :: un 6 (lS 1 f :: i64 s :: i64 t :: un 22 [])) [oF 3 [[i64 u, i64 v, lS 1 f]]])
abbrev E215_2 := Ent.o3 N215_2.out .s0 .e0 .e1 (fun b => by cases b <;> simp)
noncomputable def D215_2 : T215_2s0 → PT N215_2 | .mk d f l m o a i j => .test (a < o) (fun h0 => .test (0 ≤ a) (fun h1 => .look RW57 (m[Int.toNat a]?) fun p => .auto 2 <| .ask E253 (F253_ok p) fun ⟨q⟩ => .testB (!q) (fun h2 => .ret (.e0 (.mk 14))) (fun h2 => .auto 1 <| .ask E254 (F254_ok i j f d a) fun ⟨s⟩ => .testB (!s) (fun h3 => .ret (.e0 (.mk 15))) (fun h3 => .ret (.s0 (.mk d f l m o (w64 (a + 1)) i j))))) (fun _ => .fail)) (fun h0 => .ret (.e1 (.mk f l d i j)))
noncomputable def L215_2 := E215_2.loop fun | .s0 x => D215_2 x | _ => .fail
theorem L215_2_ok : LU 215 0 B215 2 E215_2 L215_2 :=
  lk (L := notIn []) (fun b hb => by cases b <;> first | (cases hb; done) | (rename_i x; cases x; intro x; kernel_rfl) | (intro x; kernel_rfl))
noncomputable def N215_2.nx (n : Nat) : N215_2 → Option N215_2 | .s0 x => L215_2 n (.s0 x) | .e0 x => some (.e0 x) | .e1 x => some (.e1 x)
theorem L215_2_s0 (n : Nat) (x : T215_2s0) : L215_2 (n + 1) (.s0 x) = (D215_2 x).ev (N215_2.nx n) := Ent.loop_eq fun c => by cases c <;> rfl
inductive T215_0s0 where
  | mk (a : LV) (d f i j : Int)
inductive T215_0e0 where
  | mk (a : Int)
inductive N215_0 where
  | s0 (x : T215_0s0)
  | e0 (x : T215_0e0)
  | e1
abbrev N215_0.out : N215_0 → VX × S
  | .s0 (.mk a d f i j) => (vN, S.mk (U :: pT 0 :: un 6 (lS 1 a :: i64 d :: i64 f :: un 22 [])) [oF 3 [[i64 i, i64 j, lS 1 a]]])
  | .e0 (.mk l) => (VX.ret, S.mk (U :: U :: i64 l :: un 30 []) [])
  | .e1 => (vX 0, S.mk (un 33 []) [])
abbrev E215_0 := Ent.o3 N215_0.out .s0 .e0 (fun (_ : Unit) => .e1) (fun b => by cases b <;> simp)
noncomputable def D215_0 : T215_0s0 → PT N215_0 | .mk d f a j l => .test (a < f) (fun h0 => .test (0 ≤ a) (fun h1 => .look RW52 (d[Int.toNat a]?) fun i => .auto 2 <| .cut E215_2 (L215_2_ok (.s0 (.mk a d f i.c0 (((List.length i.c0) : Int)) 0 j l)) rfl) fun | .e0 (.mk m) => .ret (.e0 (.mk m)) | .e1 (.mk o p q s t) => .ret (.s0 (.mk o p (w64 (q + 1)) s t)) | _ => .fail) (fun _ => .fail)) (fun h0 => .ret .e1)
noncomputable def L215_0 := E215_0.loop fun | .s0 x => D215_0 x | _ => .fail
theorem L215_0_ok : LU 215 0 B215 0 E215_0 L215_0 :=
  lk (L := notIn []) (fun b hb => by cases b <;> first | (cases hb; done) | (rename_i x; cases x; intro x; kernel_rfl) | (intro x; kernel_rfl))
noncomputable def N215_0.nx (n : Nat) : N215_0 → Option N215_0 | .s0 x => L215_0 n (.s0 x) | .e0 x => some (.e0 x) | .e1 => some .e1
theorem L215_0_s0 (n : Nat) (x : T215_0s0) : L215_0 (n + 1) (.s0 x) = (D215_0 x).ev (N215_0.nx n) := Ent.loop_eq fun c => by cases c <;> rfl
noncomputable def D215 (d f : Int) (a : LV) : PT A215 := .auto 1 <| .cut E215_0 (L215_0_ok (.s0 (.mk a ((a.length : Int)) 0 d f)) rfl) fun | .e0 (.mk i) => .ret (.a0 i) | .e1 => .ret (.a0 0) | _ => .fail
noncomputable def F215 (a d : Int) (f : LV) : Option A215 := (D215 a d f).ev some
theorem F215_ok (a d : Int) (f : LV) : FU E215 (F215 a d f) 215 [V.agg [i64 a, i64 d, lS 1 f]] := fu rfl rfl fun x => by kernel_rfl
/-! ## F257 -/
noncomputable def D257 (a : Int) (f : W57) (d : Int) : PT Int := .ret (if w64 (1 + d) > a then w64 (1 + d) else a)
abbrev O257 (a : Int) : V × Store := (i64 a, [])
noncomputable def F257 (a : Int) (d : W57) (f : Int) : Int := (D257 a d f).evT
theorem F257_ok (a : Int) (d : W57) (f : Int) : UU 257 ([i64 a, V.agg (W57.cells d), i64 f]) ([]) = some (O257 (F257 a d f)) :=
  fnT_ok (out := O257) (L := notIn []) rfl rfl (fun x => by kernel_rfl) (by simp [D257, PT.isT])
/-! ## F256 -/
noncomputable abbrev B256 : Code := (Tryz.f256.body).getD .skip
inductive T256_r10s0 where
  | mk (a : Int) (d : Nat) (f i : Int) (j : LV) (l m o p : Int) (q s : LV) (t : W57)
abbrev T256_r10s0.st : T256_r10s0 → S
  | .mk a d f i j l m o p q s t => S.mk (U :: i64 a :: V.fn 257 [] :: pT 0 :: U :: U :: U :: hS 1 d :: i64 f :: i64 i :: U :: pT 2 :: i64 0 :: un 18 (lS 50 j :: i64 l :: i64 m :: un 36 [])) [oF 3 [[i64 o, i64 p, lS 1 q]], oT 1 s, oF 50 [W57.cells t]]
inductive T256_r10e0 where
  | mk (a : Int) (d : Nat) (f i : Int) (j : LV) (l m : Int) (o : Bool) (p q : Int) (s t : LV) (u : W57)
inductive N256_r10 where
  | e0 (x : T256_r10e0)
abbrev N256_r10.out : N256_r10 → VX × S
  | .e0 (.mk a d f i j l m o p q s t u) => (vN, S.mk (U :: i64 a :: V.fn 257 [] :: pT 0 :: U :: U :: U :: hS 1 d :: i64 f :: i64 i :: U :: pT 2 :: i64 0 :: un 18 (lS 50 j :: i64 l :: i64 m :: un 19 (vb o :: un 16 []))) [oF 3 [[i64 p, i64 q, lS 1 s]], oT 1 t, oF 50 [W57.cells u]])
abbrev E256_r10 := Ent.o1 N256_r10.out .e0 fun ⟨x⟩ => ⟨x, rfl⟩
noncomputable def D256_r10 : T256_r10s0 → PT N256_r10 | .mk i j d l m o p q s f t a => .auto 1 <| .testB (a.c0 == 1) (fun h0 => .auto 5 <| .test (a.c2 > d) (fun h1 => .auto 8 <| .ret (.e0 (.mk i j d l m o p (decide (a.c2 < (f.length : Int))) q s f t a))) (fun h1 => .auto 6 <| .ret (.e0 (.mk i j d l m o p false q s f t a)))) (fun h0 => .auto 11 <| .ret (.e0 (.mk i j d l m o p false q s f t a)))
noncomputable def J256_r10 (y : T256_r10s0) : Option N256_r10 := (D256_r10 y).ev some
theorem J256_r10_ok (y : T256_r10s0) : ∀ b, J256_r10 y = some b → regP Tryz.prog X CC 256 0 B256 10 y.st = some (E256_r10.out b) := by
  cases y; exact reg_ok (E := E256_r10) (fun x => by kernel_rfl)
inductive T256_2s0 where
  | mk (a : Int) (d : Nat) (f i : Int) (j : LV) (l m o p : Int) (q s : LV)
inductive T256_2e0 where
  | mk (a : Int) (d : Nat) (f i j l : Int) (m o : LV)
inductive N256_2 where
  | s0 (x : T256_2s0)
  | e0 (x : T256_2e0)
abbrev N256_2.out : N256_2 → VX × S
  | .s0 (.mk a d f i j l m o p q s) => (vN, S.mk (U :: i64 a :: V.fn 257 [] :: pT 0 :: U :: U :: U :: hS 1 d :: i64 f :: i64 i :: un 21 (lS 50 j :: i64 l :: i64 m :: un 36 [])) [oF 3 [[i64 o, i64 p, lS 1 q]], oT 1 s])
  | .e0 (.mk t u v w y z d0 d1) => (vX 2, S.mk (U :: i64 t :: V.fn 257 [] :: pT 0 :: U :: U :: U :: hS 1 u :: i64 v :: i64 w :: un 60 []) [oF 3 [[i64 y, i64 z, lS 1 d0]], oT 1 d1])
abbrev E256_2 := Ent.o2 N256_2.out .s0 .e0 (fun b => by cases b <;> simp)
noncomputable def D256_2 : T256_2s0 → PT N256_2 | .mk j l m o p q d s t u v => .test (d < q) (fun h0 => .test (0 ≤ d) (fun h1 => .look RW57 (p[Int.toNat d]?) fun d6 => .auto 1 <| .cut E256_r10 (J256_r10_ok (.mk j l m o p q d s t u v d6)) fun | .e0 (.mk w f y z d0 d1 d2 d7 d3 d4 d5 i a) => .testB d7 (fun h2 => .auto 1 <| .test (0 ≤ a.c2 ∧ a.c2 < (↑f : Int)) (fun h3 => .look RW3 (i[(0 : Nat) + Int.toNat a.c2]?) fun d8 => .auto 1 <| .tot O257 (F257_ok z a d8.c0) fun d9 => .ret (.s0 (.mk w f y d9 d0 d1 (w64 (d2 + 1)) d3 d4 d5 i))) (fun _ => .fail)) (fun h2 => .auto 1 <| .tot O257 (F257_ok z a 0) fun f0 => .ret (.s0 (.mk w f y f0 d0 d1 (w64 (d2 + 1)) d3 d4 d5 i)))) (fun _ => .fail)) (fun h0 => .ret (.e0 (.mk j l m o s t u v)))
noncomputable def L256_2 := E256_2.loop fun | .s0 x => D256_2 x | _ => .fail
theorem L256_2_ok : LU 256 0 B256 2 E256_2 L256_2 :=
  lk (L := notIn []) (fun b hb => by cases b <;> first | (cases hb; done) | (rename_i x; cases x; intro x; kernel_rfl) | (intro x; kernel_rfl))
noncomputable def N256_2.nx (n : Nat) : N256_2 → Option N256_2 | .s0 x => L256_2 n (.s0 x) | .e0 x => some (.e0 x)
theorem L256_2_s0 (n : Nat) (x : T256_2s0) : L256_2 (n + 1) (.s0 x) = (D256_2 x).ev (N256_2.nx n) := Ent.loop_eq fun c => by cases c <;> rfl
inductive T256_0s0 where
  | mk (a : Int) (d : Nat) (f i j : Int) (l m : LV)
inductive T256_0e0 where
  | mk (a : Nat) (d : LV)
inductive N256_0 where
  | s0 (x : T256_0s0)
  | e0 (x : T256_0e0)
abbrev N256_0.out : N256_0 → VX × S
  | .s0 (.mk a d f i j l m) => (vN, S.mk (U :: i64 a :: V.fn 257 [] :: pT 0 :: U :: U :: U :: hS 1 d :: i64 f :: un 61 []) [oF 3 [[i64 i, i64 j, lS 1 l]], oT 1 m])
  | .e0 (.mk o p) => (vX 0, S.mk (un 7 (hS 0 o :: un 62 [])) [oT 1 p])
abbrev E256_0 := Ent.o2 N256_0.out .s0 .e0 (fun b => by cases b <;> simp)
noncomputable def D256_0 : T256_0s0 → PT N256_0 | .mk f i d q s j l => .test (d ≥ 0) (fun h0 => .auto 1 <| .test (0 ≤ d) (fun h1 => .look RW52 (j[Int.toNat d]?) fun m => .cut E256_2 (L256_2_ok (.s0 (.mk f i d f m.c0 (((List.length m.c0) : Int)) 0 q s j l)) rfl) fun | .e0 (.mk t o a u v w y p) => .test (0 ≤ a ∧ a < (↑o : Int)) (fun h2 => .look RW3 (p[(0 : Nat) + Int.toNat a]?) fun z => .ret (.s0 (.mk t o (w64 (a - 1)) v w y (List.set p (0 + Int.toNat a) [i64 u])))) (fun _ => .fail) | _ => .fail) (fun _ => .fail)) (fun h0 => .ret (.e0 (.mk i l)))
noncomputable def L256_0 := E256_0.loop fun | .s0 x => D256_0 x | _ => .fail
theorem L256_0_ok : LU 256 0 B256 0 E256_0 L256_0 :=
  lk (L := notIn []) (fun b hb => by cases b <;> first | (cases hb; done) | (rename_i x; cases x; intro x; kernel_rfl) | (intro x; kernel_rfl))
noncomputable def N256_0.nx (n : Nat) : N256_0 → Option N256_0 | .s0 x => L256_0 n (.s0 x) | .e0 x => some (.e0 x)
theorem L256_0_s0 (n : Nat) (x : T256_0s0) : L256_0 (n + 1) (.s0 x) = (D256_0 x).ev (N256_0.nx n) := Ent.loop_eq fun c => by cases c <;> rfl
noncomputable def D256 (d f : Int) (a : LV) (i : Int) : PT A256 := .auto 1 <| .test (0 ≤ (a.length : Int) ∧ (a.length : Int) ≤ (a.length : Int) ∧ (a.length : Int) ≤ 140737488355328 ∧ (a.length : Int) * 8 ≤ 140737488355328) (fun h0 => .auto 1 <| .cut E256_0 (L256_0_ok (.s0 (.mk i (Int.toNat (a.length : Int)) (w64 ((a.length : Int) - 1)) d f a (List.replicate (Int.toNat (a.length : Int)) [i64 0]))) rfl) fun | .e0 (.mk j l) => .ret (.a0 j l) | _ => .fail) (fun _ => .fail)
noncomputable def F256 (a d : Int) (f : LV) (i : Int) : Option A256 := (D256 a d f i).ev some
theorem F256_ok (a d : Int) (f : LV) (i : Int) : FU E256 (F256 a d f i) 256 [V.agg [i64 a, i64 d, lS 1 f], i64 i, V.fn 257 []] := fu rfl rfl fun x => by kernel_rfl
/-! ## F216 -/
noncomputable def D216 (f i : Int) (d : LV) (a : Int) : PT A216 := .auto 1 <| .tot O255 (F255_ok a ((d.length : Int))) fun j => .testB (!j) (fun h0 => .ret (.a0 0)) (fun h0 => .auto 1 <| .ask E256 (F256_ok f i d 1) fun ⟨l, m⟩ => .test (0 ≤ a ∧ a < (↑l : Int)) (fun h1 => .look RW3 (m[(0 : Nat) + Int.toNat a]?) fun o => .ret (.a0 o.c0)) (fun _ => .fail))
noncomputable def F216 (a d : Int) (f : LV) (i : Int) : Option A216 := (D216 a d f i).ev some
theorem F216_ok (a d : Int) (f : LV) (i : Int) : FU E216 (F216 a d f i) 216 [V.agg [i64 a, i64 d, lS 1 f], i64 i] := fu rfl rfl fun x => by kernel_rfl
/-! ## F258 -/
noncomputable def D258 (a : Int) (d : W57) (f : Int) : PT Int := .auto 1 <| .testB (d.c0 == 0) (fun h0 => .ret (if 257 < w64 (a + 2) then 257 else w64 (a + 2))) (fun h0 => .testB (d.c0 == 1) (fun h1 => .ret (if 257 < w64 (a + w64 (1 + f)) then 257 else w64 (a + w64 (1 + f)))) (fun h1 => .ret (if 257 < a then 257 else a)))
abbrev O258 (a : Int) : V × Store := (i64 a, [])
noncomputable def F258 (a : Int) (d : W57) (f : Int) : Int := (D258 a d f).evT
theorem F258_ok (a : Int) (d : W57) (f : Int) : UU 258 ([i64 a, V.agg (W57.cells d), i64 f]) ([]) = some (O258 (F258 a d f)) :=
  fnT_ok (out := O258) (L := notIn []) rfl rfl (fun x => by kernel_rfl) (by simp [D258, PT.isT])
/-! ## F256v1 -/
noncomputable abbrev B256v1 : Code := (Tryz.f256.body).getD .skip
inductive T256v1_r10s0 where
  | mk (a : Int) (d : Nat) (f i : Int) (j : LV) (l m o p : Int) (q s : LV) (t : W57)
abbrev T256v1_r10s0.st : T256v1_r10s0 → S
  | .mk a d f i j l m o p q s t => S.mk (U :: i64 a :: V.fn 258 [] :: pT 0 :: U :: U :: U :: hS 1 d :: i64 f :: i64 i :: U :: pT 2 :: i64 0 :: un 18 (lS 50 j :: i64 l :: i64 m :: un 36 [])) [oF 3 [[i64 o, i64 p, lS 1 q]], oT 1 s, oF 50 [W57.cells t]]
inductive T256v1_r10e0 where
  | mk (a : Int) (d : Nat) (f i : Int) (j : LV) (l m : Int) (o : Bool) (p q : Int) (s t : LV) (u : W57)
inductive N256v1_r10 where
  | e0 (x : T256v1_r10e0)
abbrev N256v1_r10.out : N256v1_r10 → VX × S
  | .e0 (.mk a d f i j l m o p q s t u) => (vN, S.mk (U :: i64 a :: V.fn 258 [] :: pT 0 :: U :: U :: U :: hS 1 d :: i64 f :: i64 i :: U :: pT 2 :: i64 0 :: un 18 (lS 50 j :: i64 l :: i64 m :: un 19 (vb o :: un 16 []))) [oF 3 [[i64 p, i64 q, lS 1 s]], oT 1 t, oF 50 [W57.cells u]])
abbrev E256v1_r10 := Ent.o1 N256v1_r10.out .e0 fun ⟨x⟩ => ⟨x, rfl⟩
noncomputable def D256v1_r10 : T256v1_r10s0 → PT N256v1_r10 | .mk i j d l m o p q s f t a => .auto 1 <| .testB (a.c0 == 1) (fun h0 => .auto 5 <| .test (a.c2 > d) (fun h1 => .auto 8 <| .ret (.e0 (.mk i j d l m o p (decide (a.c2 < (f.length : Int))) q s f t a))) (fun h1 => .auto 6 <| .ret (.e0 (.mk i j d l m o p false q s f t a)))) (fun h0 => .auto 11 <| .ret (.e0 (.mk i j d l m o p false q s f t a)))
noncomputable def J256v1_r10 (y : T256v1_r10s0) : Option N256v1_r10 := (D256v1_r10 y).ev some
theorem J256v1_r10_ok (y : T256v1_r10s0) : ∀ b, J256v1_r10 y = some b → regP Tryz.prog X CC 256 0 B256v1 10 y.st = some (E256v1_r10.out b) := by
  cases y; exact reg_ok (E := E256v1_r10) (fun x => by kernel_rfl)
inductive T256v1_2s0 where
  | mk (a : Int) (d : Nat) (f i : Int) (j : LV) (l m o p : Int) (q s : LV)
inductive T256v1_2e0 where
  | mk (a : Int) (d : Nat) (f i j l : Int) (m o : LV)
inductive N256v1_2 where
  | s0 (x : T256v1_2s0)
  | e0 (x : T256v1_2e0)
abbrev N256v1_2.out : N256v1_2 → VX × S
  | .s0 (.mk a d f i j l m o p q s) => (vN, S.mk (U :: i64 a :: V.fn 258 [] :: pT 0 :: U :: U :: U :: hS 1 d :: i64 f :: i64 i :: un 21 (lS 50 j :: i64 l :: i64 m :: un 36 [])) [oF 3 [[i64 o, i64 p, lS 1 q]], oT 1 s])
  | .e0 (.mk t u v w y z d0 d1) => (vX 2, S.mk (U :: i64 t :: V.fn 258 [] :: pT 0 :: U :: U :: U :: hS 1 u :: i64 v :: i64 w :: un 60 []) [oF 3 [[i64 y, i64 z, lS 1 d0]], oT 1 d1])
abbrev E256v1_2 := Ent.o2 N256v1_2.out .s0 .e0 (fun b => by cases b <;> simp)
noncomputable def D256v1_2 : T256v1_2s0 → PT N256v1_2 | .mk j l m o p q d s t u v => .test (d < q) (fun h0 => .test (0 ≤ d) (fun h1 => .look RW57 (p[Int.toNat d]?) fun d6 => .auto 1 <| .cut E256v1_r10 (J256v1_r10_ok (.mk j l m o p q d s t u v d6)) fun | .e0 (.mk w f y z d0 d1 d2 d7 d3 d4 d5 i a) => .testB d7 (fun h2 => .auto 1 <| .test (0 ≤ a.c2 ∧ a.c2 < (↑f : Int)) (fun h3 => .look RW3 (i[(0 : Nat) + Int.toNat a.c2]?) fun d8 => .auto 1 <| .tot O258 (F258_ok z a d8.c0) fun d9 => .ret (.s0 (.mk w f y d9 d0 d1 (w64 (d2 + 1)) d3 d4 d5 i))) (fun _ => .fail)) (fun h2 => .auto 1 <| .tot O258 (F258_ok z a 0) fun f0 => .ret (.s0 (.mk w f y f0 d0 d1 (w64 (d2 + 1)) d3 d4 d5 i)))) (fun _ => .fail)) (fun h0 => .ret (.e0 (.mk j l m o s t u v)))
noncomputable def L256v1_2 := E256v1_2.loop fun | .s0 x => D256v1_2 x | _ => .fail
theorem L256v1_2_ok : LU 256 0 B256v1 2 E256v1_2 L256v1_2 :=
  lk (L := notIn []) (fun b hb => by cases b <;> first | (cases hb; done) | (rename_i x; cases x; intro x; kernel_rfl) | (intro x; kernel_rfl))
noncomputable def N256v1_2.nx (n : Nat) : N256v1_2 → Option N256v1_2 | .s0 x => L256v1_2 n (.s0 x) | .e0 x => some (.e0 x)
theorem L256v1_2_s0 (n : Nat) (x : T256v1_2s0) : L256v1_2 (n + 1) (.s0 x) = (D256v1_2 x).ev (N256v1_2.nx n) := Ent.loop_eq fun c => by cases c <;> rfl
inductive T256v1_0s0 where
  | mk (a : Int) (d : Nat) (f i j : Int) (l m : LV)
inductive T256v1_0e0 where
  | mk (a : Nat) (d : LV)
inductive N256v1_0 where
  | s0 (x : T256v1_0s0)
  | e0 (x : T256v1_0e0)
abbrev N256v1_0.out : N256v1_0 → VX × S
  | .s0 (.mk a d f i j l m) => (vN, S.mk (U :: i64 a :: V.fn 258 [] :: pT 0 :: U :: U :: U :: hS 1 d :: i64 f :: un 61 []) [oF 3 [[i64 i, i64 j, lS 1 l]], oT 1 m])
  | .e0 (.mk o p) => (vX 0, S.mk (un 7 (hS 0 o :: un 62 [])) [oT 1 p])
abbrev E256v1_0 := Ent.o2 N256v1_0.out .s0 .e0 (fun b => by cases b <;> simp)
noncomputable def D256v1_0 : T256v1_0s0 → PT N256v1_0 | .mk f i d q s j l => .test (d ≥ 0) (fun h0 => .auto 1 <| .test (0 ≤ d) (fun h1 => .look RW52 (j[Int.toNat d]?) fun m => .cut E256v1_2 (L256v1_2_ok (.s0 (.mk f i d f m.c0 (((List.length m.c0) : Int)) 0 q s j l)) rfl) fun | .e0 (.mk t o a u v w y p) => .test (0 ≤ a ∧ a < (↑o : Int)) (fun h2 => .look RW3 (p[(0 : Nat) + Int.toNat a]?) fun z => .ret (.s0 (.mk t o (w64 (a - 1)) v w y (List.set p (0 + Int.toNat a) [i64 u])))) (fun _ => .fail) | _ => .fail) (fun _ => .fail)) (fun h0 => .ret (.e0 (.mk i l)))
noncomputable def L256v1_0 := E256v1_0.loop fun | .s0 x => D256v1_0 x | _ => .fail
theorem L256v1_0_ok : LU 256 0 B256v1 0 E256v1_0 L256v1_0 :=
  lk (L := notIn []) (fun b hb => by cases b <;> first | (cases hb; done) | (rename_i x; cases x; intro x; kernel_rfl) | (intro x; kernel_rfl))
noncomputable def N256v1_0.nx (n : Nat) : N256v1_0 → Option N256v1_0 | .s0 x => L256v1_0 n (.s0 x) | .e0 x => some (.e0 x)
theorem L256v1_0_s0 (n : Nat) (x : T256v1_0s0) : L256v1_0 (n + 1) (.s0 x) = (D256v1_0 x).ev (N256v1_0.nx n) := Ent.loop_eq fun c => by cases c <;> rfl
noncomputable def D256v1 (d f : Int) (a : LV) (i : Int) : PT A256v1 := .auto 1 <| .test (0 ≤ (a.length : Int) ∧ (a.length : Int) ≤ (a.length : Int) ∧ (a.length : Int) ≤ 140737488355328 ∧ (a.length : Int) * 8 ≤ 140737488355328) (fun h0 => .auto 1 <| .cut E256v1_0 (L256v1_0_ok (.s0 (.mk i (Int.toNat (a.length : Int)) (w64 ((a.length : Int) - 1)) d f a (List.replicate (Int.toNat (a.length : Int)) [i64 0]))) rfl) fun | .e0 (.mk j l) => .ret (.a0 j l) | _ => .fail) (fun _ => .fail)
noncomputable def F256v1 (a d : Int) (f : LV) (i : Int) : Option A256v1 := (D256v1 a d f i).ev some
theorem F256v1_ok (a d : Int) (f : LV) (i : Int) : FU E256v1 (F256v1 a d f i) 256 [V.agg [i64 a, i64 d, lS 1 f], i64 i, V.fn 258 []] := fu rfl rfl fun x => by kernel_rfl
/-! ## F217 -/
noncomputable def D217 (f i : Int) (d : LV) (a : Int) : PT A217 := .auto 1 <| .tot O255 (F255_ok a ((d.length : Int))) fun j => .testB (!j) (fun h0 => .ret (.a0 0)) (fun h0 => .auto 1 <| .ask E256v1 (F256v1_ok f i d 0) fun ⟨l, m⟩ => .test (0 ≤ a ∧ a < (↑l : Int)) (fun h1 => .look RW3 (m[(0 : Nat) + Int.toNat a]?) fun o => .ret (.a0 o.c0)) (fun _ => .fail))
noncomputable def F217 (a d : Int) (f : LV) (i : Int) : Option A217 := (D217 a d f i).ev some
theorem F217_ok (a d : Int) (f : LV) (i : Int) : FU E217 (F217 a d f i) 217 [V.agg [i64 a, i64 d, lS 1 f], i64 i] := fu rfl rfl fun x => by kernel_rfl
/-! ## F157 -/
noncomputable abbrev B157 : Code := (Tryz.f157.body).getD .skip
inductive T157_r4s0 where
  | mk (a d : Int) (f : LV)
abbrev T157_r4s0.st : T157_r4s0 → S
  | .mk a d f => S.mk (U :: pT 0 :: un 51 []) [oF 3 [[i64 a, i64 d, lS 1 f]]]
inductive T157_r4e0 where
  | mk (a : Bool) (d f : Int) (i : LV)
inductive N157_r4 where
  | e0 (x : T157_r4e0)
abbrev N157_r4.out : N157_r4 → VX × S
  | .e0 (.mk a d f i) => (vN, S.mk (U :: pT 0 :: un 20 (vb a :: un 30 [])) [oF 3 [[i64 d, i64 f, lS 1 i]]])
abbrev E157_r4 := Ent.o1 N157_r4.out .e0 fun ⟨x⟩ => ⟨x, rfl⟩
noncomputable def D157_r4 : T157_r4s0 → PT N157_r4 | .mk a d f => .auto 1 <| .tot O214 (F214_ok a) fun i => .testB (!i) (fun h0 => .auto 10 <| .ret (.e0 (.mk true a d f))) (fun h0 => .auto 3 <| .tot O214 (F214_ok d) fun j => .auto 2 <| .testB (!j) (fun h1 => .auto 5 <| .ret (.e0 (.mk true a d f))) (fun h1 => .auto 7 <| .ret (.e0 (.mk (decide (a ≥ d)) a d f))))
noncomputable def J157_r4 (y : T157_r4s0) : Option N157_r4 := (D157_r4 y).ev some
theorem J157_r4_ok (y : T157_r4s0) : ∀ b, J157_r4 y = some b → regP Tryz.prog X CC 157 0 B157 4 y.st = some (E157_r4.out b) := by
  cases y; exact reg_ok (E := E157_r4) (fun x => by kernel_rfl)
inductive T157_r2s0 where
  | mk (a : Bool) (d f : Int) (i : LV)
abbrev T157_r2s0.st : T157_r2s0 → S
  | .mk a d f i => S.mk (U :: pT 0 :: U :: vb a :: un 49 []) [oF 3 [[i64 d, i64 f, lS 1 i]]]
inductive T157_r2e0 where
  | mk (a : Bool) (d f : Int) (i : LV)
inductive N157_r2 where
  | e0 (x : T157_r2e0)
abbrev N157_r2.out : N157_r2 → VX × S
  | .e0 (.mk a d f i) => (vN, S.mk (U :: pT 0 :: un 6 (vb a :: un 44 [])) [oF 3 [[i64 d, i64 f, lS 1 i]]])
abbrev E157_r2 := Ent.o1 N157_r2.out .e0 fun ⟨x⟩ => ⟨x, rfl⟩
noncomputable def D157_r2 : T157_r2s0 → PT N157_r2 | .mk i d f a => .auto 1 <| .test ((a.length : Int) < 1) (fun h0 => .auto 6 <| .ret (.e0 (.mk true d f a))) (fun h0 => .auto 5 <| .test ((a.length : Int) > 8) (fun h1 => .auto 1 <| .ret (.e0 (.mk true d f a))) (fun h1 => .auto 1 <| .ret (.e0 (.mk i d f a))))
noncomputable def J157_r2 (y : T157_r2s0) : Option N157_r2 := (D157_r2 y).ev some
theorem J157_r2_ok (y : T157_r2s0) : ∀ b, J157_r2 y = some b → regP Tryz.prog X CC 157 0 B157 2 y.st = some (E157_r2.out b) := by
  cases y; exact reg_ok (E := E157_r2) (fun x => by kernel_rfl)
noncomputable def D157 (l m : Int) (i : LV) : PT A157 := .auto 1 <| .ask E212 (F212_ok i) fun ⟨o⟩ => .cut E157_r2 (J157_r2_ok (.mk o l m i)) fun | .e0 (.mk p q s t) => .testB p (fun h0 => .ret (.a0 23)) (fun h0 => .cut E157_r4 (J157_r4_ok (.mk q s t)) fun | .e0 (.mk u a d f) => .testB u (fun h1 => .ret (.a0 1)) (fun h1 => .auto 1 <| .ask E215 (F215_ok a d f) fun ⟨j⟩ => .testB (j != 0) (fun h2 => .ret (.a0 j)) (fun h2 => .auto 1 <| .ask E216 (F216_ok a d f 0) fun ⟨v⟩ => .test (v > 4) (fun h3 => .auto 4 <| .ret (.a0 24)) (fun h3 => .auto 2 <| .ask E217 (F217_ok a d f 0) fun ⟨w⟩ => .auto 2 <| .test (w > 256) (fun h4 => .ret (.a0 24)) (fun h4 => .ret (.a0 0))))))
noncomputable def F157 (a d : Int) (f : LV) : Option A157 := (D157 a d f).ev some
theorem F157_ok (a d : Int) (f : LV) : FU E157 (F157 a d f) 157 [V.agg [i64 a, i64 d, lS 1 f]] := fu rfl rfl fun x => by kernel_rfl
/-! ## F74 -/
noncomputable def D74 (a d f : Int) : PT Int := .test (a < d) (fun h0 => .ret d) (fun h0 => .test (a > f) (fun h1 => .ret f) (fun h1 => .ret a))
abbrev O74 (a : Int) : V × Store := (i64 a, [])
noncomputable def F74 (a d f : Int) : Int := (D74 a d f).evT
theorem F74_ok (a d f : Int) : UU 74 ([i64 a, i64 d, i64 f]) ([]) = some (O74 (F74 a d f)) :=
  fnT_ok (out := O74) (L := notIn []) rfl rfl (fun x => by kernel_rfl) (by simp [D74, PT.isT])
/-! ## F132 -/
noncomputable def D132 (a : Int) : PT Int := .tot O74 (F74_ok a (-1099511627776) 1099511627776) fun d => .ret d
abbrev O132 (a : Int) : V × Store := (i64 a, [])
noncomputable def F132 (a : Int) : Int := (D132 a).evT
theorem F132_ok (a : Int) : UU 132 ([i64 a]) ([]) = some (O132 (F132 a)) :=
  fnT_ok (out := O132) (L := notIn []) rfl rfl (fun x => by kernel_rfl) (by simp [D132, PT.isT])
/-! ## F131 -/
noncomputable def D131 (a d : Int) : PT Int := .tot O132 (F132_ok a) fun f => .tot O132 (F132_ok d) fun i => .tot O132 (F132_ok (w64 (f + i))) fun j => .ret j
abbrev O131 (a : Int) : V × Store := (i64 a, [])
noncomputable def F131 (a d : Int) : Int := (D131 a d).evT
theorem F131_ok (a d : Int) : UU 131 ([i64 a, i64 d]) ([]) = some (O131 (F131 a d)) :=
  fnT_ok (out := O131) (L := notIn []) rfl rfl (fun x => by kernel_rfl) (by simp [D131, PT.isT])
/-! ## F70 -/
noncomputable def D70 (a : W57) (d : Int) : PT Int := .auto 1 <| .tot O132 (F132_ok a.c6) fun f => .tot O131 (F131_ok d (w64 (0 - f))) fun i => .ret i
abbrev O70 (a : Int) : V × Store := (i64 a, [])
noncomputable def F70 (a : W57) (d : Int) : Int := (D70 a d).evT
theorem F70_ok (a : W57) (d : Int) : UU 70 ([V.agg (W57.cells a), i64 d]) ([]) = some (O70 (F70 a d)) :=
  fnT_ok (out := O70) (L := notIn []) rfl rfl (fun x => by kernel_rfl) (by simp [D70, PT.isT])
/-! ## F133 -/
noncomputable abbrev B133 : Code := (Tryz.f133.body).getD .skip
inductive T133_0s0 where
  | mk (a : LV) (d f : Int)
inductive T133_0e0 where
  | mk (a : Int)
inductive N133_0 where
  | s0 (x : T133_0s0)
  | e0 (x : T133_0e0)
  | e1
abbrev N133_0.out : N133_0 → VX × S
  | .s0 (.mk a d f) => (vN, S.mk (lS 7 a :: i64 d :: U :: U :: U :: i64 f :: un 15 []) [])
  | .e0 (.mk i) => (VX.ret, S.mk (un 4 (i64 i :: un 16 [])) [])
  | .e1 => (vX 0, S.mk (un 21 []) [])
abbrev E133_0 := Ent.o3 N133_0.out .s0 .e0 (fun (_ : Unit) => .e1) (fun b => by cases b <;> simp)
noncomputable def D133_0 : T133_0s0 → PT N133_0 | .mk d f a => .test (a ≥ 0) (fun h0 => .test (0 ≤ a) (fun h1 => .look RW74 (d[Int.toNat a]?) fun i => .test (i.c0 ≤ f) (fun h2 => .ret (.e0 (.mk a))) (fun h2 => .ret (.s0 (.mk d f (w64 (a - 1)))))) (fun _ => .fail)) (fun h0 => .ret .e1)
noncomputable def L133_0 := E133_0.loop fun | .s0 x => D133_0 x | _ => .fail
theorem L133_0_ok : LU 133 0 B133 0 E133_0 L133_0 :=
  lk (L := notIn []) (fun b hb => by cases b <;> first | (cases hb; done) | (rename_i x; cases x; intro x; kernel_rfl) | (intro x; kernel_rfl))
noncomputable def N133_0.nx (n : Nat) : N133_0 → Option N133_0 | .s0 x => L133_0 n (.s0 x) | .e0 x => some (.e0 x) | .e1 => some .e1
theorem L133_0_s0 (n : Nat) (x : T133_0s0) : L133_0 (n + 1) (.s0 x) = (D133_0 x).ev (N133_0.nx n) := Ent.loop_eq fun c => by cases c <;> rfl
noncomputable def D133 (a : LV) (d : Int) : PT A133 := .cut E133_0 (L133_0_ok (.s0 (.mk a d (w64 ((a.length : Int) - 1)))) rfl) fun | .e0 (.mk f) => .ret (.a0 f) | .e1 => .ret (.a0 (-1)) | _ => .fail
noncomputable def F133 (a : LV) (d : Int) : Option A133 := (D133 a d).ev some
theorem F133_ok (a : LV) (d : Int) : FU E133 (F133 a d) 133 [lS 7 a, i64 d] := fu rfl rfl fun x => by kernel_rfl
/-! ## F136 -/
noncomputable def D136 (i j l : Int) : PT A136 := .tot O132 (F132_ok i) fun a => .tot O132 (F132_ok j) fun d => .tot O132 (F132_ok l) fun f => .test (f ≤ a) (fun h0 => .ret (.a0 0)) (fun h0 => .test (f ≥ d) (fun h1 => .ret (.a0 65536)) (fun h1 => .test (w64 (d - a) = 0) (fun _ => .fail) (fun h2 => .ret (.a0 (w64 (Int.tdiv (w64 (w64 (f - a) * 65536)) (w64 (d - a))))))))
noncomputable def F136 (a d f : Int) : Option A136 := (D136 a d f).ev some
theorem F136_ok (a d f : Int) : FU E136 (F136 a d f) 136 [i64 a, i64 d, i64 f] := fu rfl rfl fun x => by kernel_rfl
/-! ## F187 -/
noncomputable def D187 (a d : Int) : PT A187 := .auto 5 <| .ret (.a0 (IntKind.wrap IntKind.u64 (IntKind.wrap IntKind.u64 (IntKind.wrap IntKind.u64 (Int.fdiv a 4294967296 * Int.fdiv d 4294967296) + Int.fdiv (IntKind.wrap IntKind.u64 (IntKind.wrap IntKind.u64 (Int.fdiv a 4294967296 * IntKind.wrap IntKind.u64 (↑(BitVec.toNat (BitVec.ofInt (IntKind.bits IntKind.u64) d &&& BitVec.ofInt (IntKind.bits IntKind.u64) 4294967295)) : Int)) + Int.fdiv (IntKind.wrap IntKind.u64 (IntKind.wrap IntKind.u64 (↑(BitVec.toNat (BitVec.ofInt (IntKind.bits IntKind.u64) a &&& BitVec.ofInt (IntKind.bits IntKind.u64) 4294967295)) : Int) * IntKind.wrap IntKind.u64 (↑(BitVec.toNat (BitVec.ofInt (IntKind.bits IntKind.u64) d &&& BitVec.ofInt (IntKind.bits IntKind.u64) 4294967295)) : Int))) 4294967296)) 4294967296) + Int.fdiv (IntKind.wrap IntKind.u64 (IntKind.wrap IntKind.u64 (↑(BitVec.toNat (BitVec.ofInt (IntKind.bits IntKind.u64) (IntKind.wrap IntKind.u64 (IntKind.wrap IntKind.u64 (Int.fdiv a 4294967296 * IntKind.wrap IntKind.u64 (↑(BitVec.toNat (BitVec.ofInt (IntKind.bits IntKind.u64) d &&& BitVec.ofInt (IntKind.bits IntKind.u64) 4294967295)) : Int)) + Int.fdiv (IntKind.wrap IntKind.u64 (IntKind.wrap IntKind.u64 (↑(BitVec.toNat (BitVec.ofInt (IntKind.bits IntKind.u64) a &&& BitVec.ofInt (IntKind.bits IntKind.u64) 4294967295)) : Int) * IntKind.wrap IntKind.u64 (↑(BitVec.toNat (BitVec.ofInt (IntKind.bits IntKind.u64) d &&& BitVec.ofInt (IntKind.bits IntKind.u64) 4294967295)) : Int))) 4294967296)) &&& BitVec.ofInt (IntKind.bits IntKind.u64) 4294967295)) : Int) + IntKind.wrap IntKind.u64 (IntKind.wrap IntKind.u64 (↑(BitVec.toNat (BitVec.ofInt (IntKind.bits IntKind.u64) a &&& BitVec.ofInt (IntKind.bits IntKind.u64) 4294967295)) : Int) * Int.fdiv d 4294967296))) 4294967296)) (IntKind.wrap IntKind.u64 (a * d)))
noncomputable def F187 (a d : Int) : Option A187 := (D187 a d).ev some
theorem F187_ok (a d : Int) : FU E187 (F187 a d) 187 [V.int IntKind.u64 a, V.int IntKind.u64 d] := fu rfl rfl fun x => by kernel_rfl
/-! ## F184 -/
noncomputable def D184 (d a : Int) : PT A184 := .ask E187 (F187_ok (IntKind.wrap IntKind.u64 d) (IntKind.wrap IntKind.u64 a)) fun ⟨f, i⟩ => .test (d < 0) (fun h0 => .test (a < 0) (fun h1 => .ret (.a0 (IntKind.wrap IntKind.u64 (IntKind.wrap IntKind.u64 (f - IntKind.wrap IntKind.u64 a) - IntKind.wrap IntKind.u64 d)) i)) (fun h1 => .ret (.a0 (IntKind.wrap IntKind.u64 (f - IntKind.wrap IntKind.u64 a)) i))) (fun h0 => .test (a < 0) (fun h1 => .ret (.a0 (IntKind.wrap IntKind.u64 (f - IntKind.wrap IntKind.u64 d)) i)) (fun h1 => .ret (.a0 f i)))
noncomputable def F184 (a d : Int) : Option A184 := (D184 a d).ev some
theorem F184_ok (a d : Int) : FU E184 (F184 a d) 184 [i64 a, i64 d] := fu rfl rfl fun x => by kernel_rfl
/-! ## F183 -/
noncomputable abbrev B183 : Code := (Tryz.f183.body).getD .skip
inductive T183_r3s0 where
  | mk (a d : Int)
abbrev T183_r3s0.st : T183_r3s0 → S
  | .mk a d => S.mk (un 5 (i64 a :: V.int IntKind.u64 d :: un 34 [])) []
inductive T183_r3e0 where
  | mk (a d : Int) (f : Bool)
inductive N183_r3 where
  | e0 (x : T183_r3e0)
abbrev N183_r3.out : N183_r3 → VX × S
  | .e0 (.mk a d f) => (vN, S.mk (un 5 (i64 a :: V.int IntKind.u64 d :: un 8 (vb f :: un 25 []))) [])
abbrev E183_r3 := Ent.o1 N183_r3.out .e0 fun ⟨x⟩ => ⟨x, rfl⟩
noncomputable def D183_r3 : T183_r3s0 → PT N183_r3 | .mk a d => .test (a < -1) (fun h0 => .auto 4 <| .ret (.e0 (.mk a d true))) (fun h0 => .auto 2 <| .testB (a == -1) (fun h1 => .auto 6 <| .ret (.e0 (.mk a d (Int.fdiv d 9223372036854775808 == 0)))) (fun h1 => .auto 5 <| .ret (.e0 (.mk a d false))))
noncomputable def J183_r3 (y : T183_r3s0) : Option N183_r3 := (D183_r3 y).ev some
theorem J183_r3_ok (y : T183_r3s0) : ∀ b, J183_r3 y = some b → regP Tryz.prog X CC 183 0 B183 3 y.st = some (E183_r3.out b) := by
  cases y; exact reg_ok (E := E183_r3) (fun x => by kernel_rfl)
noncomputable def D183 (d i : Int) : PT A183 := .auto 3 <| .cut E183_r3 (J183_r3_ok (.mk (Int.fdiv (w64 d) 65536) (IntKind.wrap IntKind.u64 (↑(BitVec.toNat (BitVec.ofInt (IntKind.bits IntKind.u64) (IntKind.wrap IntKind.u64 (d * 2 ^ min (Int.toNat 48) (IntKind.bits IntKind.u64))) ||| BitVec.ofInt (IntKind.bits IntKind.u64) (Int.fdiv i (2 ^ min (Int.toNat 16) (IntKind.bits IntKind.u64))))) : Int)))) fun | .e0 (.mk f a j) => .testB j (fun h0 => .ret (.a0 (-9223372036854775808))) (fun h0 => .test (f > 0) (fun h1 => .auto 5 <| .ret (.a0 9223372036854775807)) (fun h1 => .auto 2 <| .testB (f == 0) (fun h2 => .auto 6 <| .testB (Int.fdiv a 9223372036854775808 != 0) (fun h3 => .ret (.a0 9223372036854775807)) (fun h3 => .ret (.a0 (w64 a)))) (fun h2 => .auto 6 <| .ret (.a0 (w64 a)))))
noncomputable def F183 (a d : Int) : Option A183 := (D183 a d).ev some
theorem F183_ok (a d : Int) : FU E183 (F183 a d) 183 [V.int IntKind.u64 a, V.int IntKind.u64 d] := fu rfl rfl fun x => by kernel_rfl
/-! ## F125 -/
noncomputable def D125 (a d : Int) : PT A125 := .tot O132 (F132_ok a) fun f => .tot O132 (F132_ok d) fun i => .ask E184 (F184_ok f i) fun ⟨j, l⟩ => .ask E183 (F183_ok j l) fun ⟨m⟩ => .tot O132 (F132_ok m) fun o => .ret (.a0 o)
noncomputable def F125 (a d : Int) : Option A125 := (D125 a d).ev some
theorem F125_ok (a d : Int) : FU E125 (F125 a d) 125 [i64 a, i64 d] := fu rfl rfl fun x => by kernel_rfl
/-! ## F231 -/
noncomputable def D231 (d f i : Int) : PT A231 := .tot O74 (F74_ok i 0 65536) fun a => .ask E125 (F125_ok (w64 (65536 - a)) (w64 (65536 - a))) fun ⟨j⟩ => .ask E125 (F125_ok j a) fun ⟨l⟩ => .ask E125 (F125_ok (w64 (3 * l)) d) fun ⟨m⟩ => .ask E125 (F125_ok (w64 (65536 - a)) a) fun ⟨o⟩ => .ask E125 (F125_ok o a) fun ⟨p⟩ => .ask E125 (F125_ok (w64 (3 * p)) f) fun ⟨q⟩ => .tot O131 (F131_ok m q) fun s => .ask E125 (F125_ok a a) fun ⟨t⟩ => .ask E125 (F125_ok t a) fun ⟨u⟩ => .tot O131 (F131_ok s u) fun v => .ret (.a0 v)
noncomputable def F231 (a d f : Int) : Option A231 := (D231 a d f).ev some
theorem F231_ok (a d f : Int) : FU E231 (F231 a d f) 231 [i64 a, i64 d, i64 f] := fu rfl rfl fun x => by kernel_rfl
/-! ## F191 -/
noncomputable abbrev B191 : Code := (Tryz.f191.body).getD .skip
inductive T191_1s0 where
  | mk (a d f i j l m o : Int)
inductive T191_1e0 where
  | mk (a d f i j : Int)
inductive N191_1 where
  | s0 (x : T191_1s0)
  | e0 (x : T191_1e0)
abbrev N191_1.out : N191_1 → VX × S
  | .s0 (.mk a d f i j l m o) => (vN, S.mk (U :: i64 a :: pT 0 :: U :: U :: i64 d :: i64 f :: un 7 (i64 i :: un 22 [])) [oF 4 [[i64 j, i64 l, i64 m, i64 o]]])
  | .e0 (.mk p q s t u) => (vX 1, S.mk (U :: U :: pT 0 :: U :: U :: i64 p :: un 31 []) [oF 4 [[i64 q, i64 s, i64 t, i64 u]]])
abbrev E191_1 := Ent.o2 N191_1.out .s0 .e0 (fun b => by cases b <;> simp)
noncomputable def D191_1 : T191_1s0 → PT N191_1 | .mk j a d l f m i o => .test (l < 16) (fun h0 => .auto 3 <| .ask E231 (F231_ok f i (Int.fdiv (w64 (a + d)) 2)) fun ⟨p⟩ => .test (p ≤ j) (fun h1 => .ret (.s0 (.mk j (Int.fdiv (w64 (a + d)) 2) d (w64 (l + 1)) f m i o))) (fun h1 => .ret (.s0 (.mk j a (Int.fdiv (w64 (a + d)) 2) (w64 (l + 1)) f m i o)))) (fun h0 => .ret (.e0 (.mk a f m i o)))
noncomputable def L191_1 := E191_1.loop fun | .s0 x => D191_1 x | _ => .fail
theorem L191_1_ok : LU 191 0 B191 1 E191_1 L191_1 :=
  lk (L := notIn []) (fun b hb => by cases b <;> first | (cases hb; done) | (rename_i x; cases x; intro x; kernel_rfl) | (intro x; kernel_rfl))
noncomputable def N191_1.nx (n : Nat) : N191_1 → Option N191_1 | .s0 x => L191_1 n (.s0 x) | .e0 x => some (.e0 x)
theorem L191_1_s0 (n : Nat) (x : T191_1s0) : L191_1 (n + 1) (.s0 x) = (D191_1 x).ev (N191_1.nx n) := Ent.loop_eq fun c => by cases c <;> rfl
noncomputable def D191 (d f i j a : Int) : PT A191 := .test (a ≤ 0) (fun h0 => .ret (.a0 0)) (fun h0 => .test (a ≥ 65536) (fun h1 => .ret (.a0 65536)) (fun h1 => .cut E191_1 (L191_1_ok (.s0 (.mk a 0 65536 0 d f i j)) rfl) fun | .e0 (.mk l q m s o) => (.auto 2 <| .ask E231 (F231_ok m o l) fun ⟨p⟩ => .ret (.a0 p)) | _ => .fail))
noncomputable def F191 (a d f i j : Int) : Option A191 := (D191 a d f i j).ev some
theorem F191_ok (a d f i j : Int) : FU E191 (F191 a d f i j) 191 [V.agg [i64 a, i64 d, i64 f, i64 i], i64 j] := fu rfl rfl fun x => by kernel_rfl
/-! ## F135 -/
noncomputable def D135 (a f i j l d : Int) : PT A135 := .testB (a == 0) (fun h0 => .auto 2 <| .test (d ≥ 65536) (fun h1 => .ret (.a0 65536)) (fun h1 => .testB (a == 1) (fun h2 => .ret (.a0 d)) (fun h2 => .testB (a == 2) (fun h3 => .auto 1 <| .ask E191 (F191_ok f i j l d) fun ⟨m⟩ => .ret (.a0 m)) (fun h3 => .ret (.a0 0))))) (fun h0 => .auto 3 <| .testB (a == 1) (fun h1 => .ret (.a0 d)) (fun h1 => .testB (a == 2) (fun h2 => .auto 1 <| .ask E191 (F191_ok f i j l d) fun ⟨o⟩ => .ret (.a0 o)) (fun h2 => .ret (.a0 0))))
noncomputable def F135 (a d f i j l : Int) : Option A135 := (D135 a d f i j l).ev some
theorem F135_ok (a d f i j l : Int) : FU E135 (F135 a d f i j l) 135 [i64 a, V.agg [i64 d, i64 f, i64 i, i64 j], i64 l] := fu rfl rfl fun x => by kernel_rfl
end Go.Proofs.YtifalphladcdcaaGreat.H
