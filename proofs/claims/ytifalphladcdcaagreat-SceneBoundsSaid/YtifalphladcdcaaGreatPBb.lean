/- What the functions compute, and that they do so over the machine of plain values (printed by this session's program wip/vm/Walk.lean). No condition beyond those stated. -/
import Derived.Test.YtifalphladcdcaaGreatWk
import Derived.Test.YtifalphladcdcaaGreatHB
import Derived.Test.YtifalphladcdcaaGreatPBa
set_option linter.unusedVariables false
set_option linter.unusedSimpArgs false
namespace Go.Proofs.YtifalphladcdcaaGreat.H
open Go Go.VM
set_option maxRecDepth 100000
/-! ## F20 -/
noncomputable abbrev B20 : Code := (Tryz.f20.body).getD .skip
inductive T20_2s0 where
  | mk (a d f : Int) (i : Bool) (j : Int) (l : LV) (m o p : Int) (q s : Nat) (t u : LV)
inductive T20_2e0 where
  | mk (a d : Int) (f : LV) (i j l : Int) (m o : Nat) (p q : LV)
inductive N20_2 where
  | s0 (x : T20_2s0)
  | e0 (x : T20_2e0)
abbrev N20_2.out : N20_2 → VX × S
  | .s0 (.mk a d f i j l m o p q s t u) => (vN, S.mk (U :: U :: pT 0 :: pT 1 :: pT 2 :: i64 a :: i64 d :: pT 3 :: i64 f :: vb i :: i64 j :: un 54 []) [oF 3 [[i64 0, i64 0, hS 4 0]], oF 2 [[lS 1 l, i64 m]], oF 3 [[i64 o, i64 p, hS 5 q]], oF 1 [[hS 6 s]], oT 1 [], oT 1 t, oT 50 u])
  | .e0 (.mk v w y z d0 d1 d2 d3 d4 d5) => (vX 2, S.mk (U :: U :: pT 0 :: pT 1 :: pT 2 :: i64 v :: i64 w :: pT 3 :: un 57 []) [oF 3 [[i64 0, i64 0, hS 4 0]], oF 2 [[lS 1 y, i64 z]], oF 3 [[i64 d0, i64 d1, hS 5 d2]], oF 1 [[hS 6 d3]], oT 1 [], oT 1 d4, oT 50 d5])
abbrev E20_2 := Ent.o2 N20_2.out .s0 .e0 (fun b => by cases b <;> simp)
noncomputable def D20_2 : T20_2s0 → PT N20_2 | .mk d f i l2 j m o p q s a t l => .test (j < i) (fun h0 => .ask E69 (F69_ok j i f d l2 m o) fun ⟨l3, l4, l5, u, l6, l7, l8, v, w, y, z, d0, d1, d2, d3, d4, l9, d5, m0, m1, d6, d7, d8, m2, m3, m4, m5, m6, m7, m8, m9, o0, o1, o2, o3, o4, o5, o6, o7, d9, o8, f0, o9, p0, p1, p2, p3, f1, f2, f3, p4, p5, f4, f5, f6, f7, f8, f9, j0, j1, j2, j3, j4, j5, j6, j7, j8, j9, l0, l1⟩ => .auto 4 <| .test (0 + v ≤ List.length f4) (fun h1 => .test (0 + w ≤ List.length f5) (fun h2 => .test (0 + y ≤ List.length f6) (fun h3 => .test (0 + z ≤ List.length f7) (fun h4 => .test (0 + d0 ≤ List.length f8) (fun h5 => .test (0 + d1 ≤ List.length f9) (fun h6 => .test (0 + d2 ≤ List.length j0) (fun h7 => .test (0 + d3 ≤ List.length j1) (fun h8 => .test (0 + d4 ≤ List.length j2) (fun h9 => .test (0 + d5 ≤ List.length j3) (fun h10 => .test (0 + d6 ≤ List.length j4) (fun h11 => .test (0 + d7 ≤ List.length j5) (fun h12 => .test (0 + d8 ≤ List.length j6) (fun h13 => .test (0 + d9 ≤ List.length j7) (fun h14 => .test (0 + f0 ≤ List.length j8) (fun h15 => .test (0 + f1 ≤ List.length j9) (fun h16 => .test (0 + f2 ≤ List.length l0) (fun h17 => .test (0 + f3 ≤ List.length l1) (fun h18 => .auto 1 <| .test (0 + a ≤ List.length l ∧ (a + 1) * 608 ≤ 140737488355328 ∧ a + 1 ≤ 140737488355328) (fun h19 => .auto 1 <| .ret (.s0 (.mk d f i (u != 0) (w64 (j + 1)) p4 p5 p q s (a + 1) t (List.take a l ++ [[i64 l3, i64 l4, i64 l5, i64 u, i64 l6, i64 l7, i64 l8, lS 7 (List.take v f4), lS 7 (List.take w f5), lS 7 (List.take y f6), lS 7 (List.take z f7), lS 7 (List.take d0 f8), lS 7 (List.take d1 f9), lS 7 (List.take d2 j0), lS 7 (List.take d3 j1), lS 7 (List.take d4 j2), vb l9, lS 2 (List.take d5 j3), i64 m0, i64 m1, lS 7 (List.take d6 j4), lS 7 (List.take d7 j5), lS 8 (List.take d8 j6), vb m2, i64 m3, i64 m4, u8 m5, u8 m6, u8 m7, u8 m8, u8 m9, u8 o0, u8 o1, u8 o2, i64 o3, i64 o4, i64 o5, i64 o6, i64 o7, lS 10 (List.take d9 j7), vb o8, lS 7 (List.take f0 j8), u8 o9, u8 p0, u8 p1, u8 p2, i64 p3, lS 1 (List.take f1 j9), lS 7 (List.take f2 l0), lS 7 (List.take f3 l1)]])))) (fun _ => .fail)) (fun _ => .fail)) (fun _ => .fail)) (fun _ => .fail)) (fun _ => .fail)) (fun _ => .fail)) (fun _ => .fail)) (fun _ => .fail)) (fun _ => .fail)) (fun _ => .fail)) (fun _ => .fail)) (fun _ => .fail)) (fun _ => .fail)) (fun _ => .fail)) (fun _ => .fail)) (fun _ => .fail)) (fun _ => .fail)) (fun _ => .fail)) (fun _ => .fail)) (fun h0 => .ret (.e0 (.mk d f m o p q s a t l)))
noncomputable def L20_2 := E20_2.loop fun | .s0 x => D20_2 x | _ => .fail
theorem L20_2_ok : LU 20 0 B20 2 E20_2 L20_2 :=
  lk (L := notIn []) (fun b hb => by cases b <;> first | (cases hb; done) | (rename_i x; cases x; intro x; kernel_rfl) | (intro x; kernel_rfl))
noncomputable def N20_2.nx (n : Nat) : N20_2 → Option N20_2 | .s0 x => L20_2 n (.s0 x) | .e0 x => some (.e0 x)
theorem L20_2_s0 (n : Nat) (x : T20_2s0) : L20_2 (n + 1) (.s0 x) = (D20_2 x).ev (N20_2.nx n) := Ent.loop_eq fun c => by cases c <;> rfl
inductive T20_0s0 where
  | mk (a d : Int) (f : LV) (i j l : Int) (m : Nat) (o : LV)
inductive T20_0e0 where
  | mk (a d : Int) (f : Nat) (i : LV)
inductive N20_0 where
  | s0 (x : T20_0s0)
  | e0 (x : T20_0e0)
abbrev N20_0.out : N20_0 → VX × S
  | .s0 (.mk a d f i j l m o) => (vN, S.mk (U :: U :: pT 0 :: pT 1 :: pT 2 :: i64 a :: i64 d :: un 58 []) [oF 3 [[i64 0, i64 0, hS 3 0]], oF 2 [[lS 1 f, i64 i]], oF 3 [[i64 j, i64 l, hS 4 m]], oT 1 [], oT 1 o])
  | .e0 (.mk p q s t) => (vX 0, S.mk (U :: U :: pT 0 :: U :: pT 1 :: un 60 []) [oF 3 [[i64 0, i64 0, hS 2 0]], oF 3 [[i64 p, i64 q, hS 3 s]], oT 1 [], oT 1 t])
abbrev E20_0 := Ent.o2 N20_0.out .s0 .e0 (fun b => by cases b <;> simp)
noncomputable def D20_0 : T20_0s0 → PT N20_0 | .mk d f s t i j l m => .test (f < d) (fun h0 => .ask E43 (F43_ok 4 s t) fun ⟨u, v, w⟩ => .cut E20_2 (L20_2_ok (.s0 (.mk d f (w64 (1 + u)) true 0 v w i j l 0 m ([]))) rfl) fun | .e0 (.mk y z d0 d1 d2 d3 a o p q) => (.auto 2 <| .test (0 + o ≤ List.length q) (fun h1 => .auto 1 <| .test (0 + a ≤ List.length p ∧ (a + 1) * 24 ≤ 140737488355328 ∧ a + 1 ≤ 140737488355328) (fun h2 => .auto 1 <| .ret (.s0 (.mk y (w64 (z + 1)) d0 d1 d2 d3 (a + 1) (List.take a p ++ [[lS 50 (List.take o q)]])))) (fun _ => .fail)) (fun _ => .fail)) | _ => .fail) (fun h0 => .ret (.e0 (.mk i j l m)))
noncomputable def L20_0 := E20_0.loop fun | .s0 x => D20_0 x | _ => .fail
theorem L20_0_ok : LU 20 0 B20 0 E20_0 L20_0 :=
  lk (L := notIn []) (fun b hb => by cases b <;> first | (cases hb; done) | (rename_i x; cases x; intro x; kernel_rfl) | (intro x; kernel_rfl))
noncomputable def N20_0.nx (n : Nat) : N20_0 → Option N20_0 | .s0 x => L20_0 n (.s0 x) | .e0 x => some (.e0 x)
theorem L20_0_s0 (n : Nat) (x : T20_0s0) : L20_0 (n + 1) (.s0 x) = (D20_0 x).ev (N20_0.nx n) := Ent.loop_eq fun c => by cases c <;> rfl
noncomputable def D20 (d : LV) : PT A20 := .ask E43 (F43_ok 4 d 0) fun ⟨a, f, i⟩ => .auto 2 <| .ask E43 (F43_ok 20 f i) fun ⟨j, l, m⟩ => .auto 1 <| .ask E43 (F43_ok 3 l m) fun ⟨o, p, q⟩ => .cut E20_0 (L20_0_ok (.s0 (.mk (w64 (1 + o)) 0 p q (w64 (a - 1)) (w64 (w64 (w64 (a - 1) + 1) + j)) 0 ([]))) rfl) fun | .e0 (.mk s t u v) => (.auto 2 <| .ret (.a0 s t u v)) | _ => .fail
noncomputable def F20 (a : LV) : Option A20 := (D20 a).ev some
theorem F20_ok (a : LV) : FU E20 (F20 a) 20 [lS 1 a] := fu rfl rfl fun x => by kernel_rfl
/-! ## F95 -/
noncomputable def D95 (a : Int) : PT Bool := .test (a ≥ -1073741824) (fun h0 => .auto 2 <| .ret (decide (a ≤ 1073741824))) (fun h0 => .auto 2 <| .ret false)
abbrev O95 (a : Bool) : V × Store := (vb a, [])
noncomputable def F95 (a : Int) : Bool := (D95 a).evT
theorem F95_ok (a : Int) : UU 95 ([i64 a]) ([]) = some (O95 (F95 a)) :=
  fnT_ok (out := O95) (L := notIn []) rfl rfl (fun x => by kernel_rfl) (by simp [D95, PT.isT])
/-! ## F163 -/
noncomputable def D163 (a : W57) : PT A163 := .auto 9 <| .ret (.a0 9 ([[lS 7 a.c7], [lS 7 a.c8], [lS 7 a.c9], [lS 7 a.c10], [lS 7 a.c11], [lS 7 a.c12], [lS 7 a.c13], [lS 7 a.c14], [lS 7 a.c15]]))
noncomputable def F163 (a : W57) : Option A163 := (D163 a).ev some
theorem F163_ok (a : W57) : FU E163 (F163 a) 163 [V.agg (W57.cells a)] := fu rfl rfl fun x => by kernel_rfl
/-! ## F118 -/
noncomputable def D118 (a d f : Int) : PT Bool := .test (a ≥ d) (fun h0 => .auto 3 <| .ret (decide (a ≤ f))) (fun h0 => .auto 3 <| .ret false)
abbrev O118 (a : Bool) : V × Store := (vb a, [])
noncomputable def F118 (a d f : Int) : Bool := (D118 a d f).evT
theorem F118_ok (a d f : Int) : UU 118 ([i64 a, i64 d, i64 f]) ([]) = some (O118 (F118 a d f)) :=
  fnT_ok (out := O118) (L := notIn []) rfl rfl (fun x => by kernel_rfl) (by simp [D118, PT.isT])
/-! ## F181 -/
noncomputable def D181 (a d f i : Int) : PT Bool := .auto 1 <| .tot O118 (F118_ok a 0 65536) fun j => .testB j (fun h0 => .auto 3 <| .tot O118 (F118_ok f 0 65536) fun l => .auto 1 <| .testB l (fun h1 => .auto 3 <| .tot O118 (F118_ok d (-131072) 196608) fun m => .auto 1 <| .testB m (fun h2 => .auto 3 <| .tot O118 (F118_ok i (-131072) 196608) fun o => .auto 1 <| .ret o) (fun h2 => .auto 3 <| .ret false)) (fun h1 => .auto 7 <| .ret false)) (fun h0 => .auto 11 <| .ret false)
abbrev O181 (a : Bool) : V × Store := (vb a, [])
noncomputable def F181 (a d f i : Int) : Bool := (D181 a d f i).evT
theorem F181_ok (a d f i : Int) : UU 181 ([V.agg [i64 a, i64 d, i64 f, i64 i]]) ([]) = some (O181 (F181 a d f i)) :=
  fnT_ok (out := O181) (L := notIn []) rfl rfl (fun x => by kernel_rfl) (by simp [D181, PT.isT])
/-! ## F117 -/
noncomputable def D117 (l a d f i j : Int) : PT Bool := .tot O118 (F118_ok l (-1073741824) 1073741824) fun m => .testB (!m) (fun h0 => .ret false) (fun h0 => .testB (a == 2) (fun h1 => .auto 1 <| .tot O181 (F181_ok d f i j) fun o => .ret o) (fun h1 => .testB (a == 0) (fun h2 => .auto 7 <| .ret (d == 0 && (f == 0 && (i == 0 && (j == 0 && true))))) (fun h2 => .auto 2 <| .testB (a == 1) (fun h3 => .auto 4 <| .ret (d == 0 && (f == 0 && (i == 0 && (j == 0 && true))))) (fun h3 => .auto 3 <| .ret false))))
abbrev O117 (a : Bool) : V × Store := (vb a, [])
noncomputable def F117 (a d f i j l : Int) : Bool := (D117 a d f i j l).evT
theorem F117_ok (a d f i j l : Int) : UU 117 ([i64 a, i64 d, V.agg [i64 f, i64 i, i64 j, i64 l]]) ([]) = some (O117 (F117 a d f i j l)) :=
  fnT_ok (out := O117) (L := notIn []) rfl rfl (fun x => by kernel_rfl) (by simp [D117, PT.isT])
/-! ## F58 -/
noncomputable abbrev B58 : Code := (Tryz.f58.body).getD .skip
inductive T58_0s0 where
  | mk (a : LV) (d : Int)
inductive T58_0e1 where
  | mk (a : LV)
inductive N58_0 where
  | s0 (x : T58_0s0)
  | e0
  | e1 (x : T58_0e1)
abbrev N58_0.out : N58_0 → VX × S
  | .s0 (.mk a d) => (vN, S.mk (lS 7 a :: U :: U :: i64 d :: un 53 []) [])
  | .e0 => (VX.ret, S.mk (U :: U :: vb false :: un 54 []) [])
  | .e1 (.mk f) => (vX 0, S.mk (lS 7 f :: un 56 []) [])
abbrev E58_0 := Ent.o3 N58_0.out .s0 (fun (_ : Unit) => .e0) .e1 (fun b => by cases b <;> simp)
noncomputable def D58_0 : T58_0s0 → PT N58_0 | .mk d a => .test (a < (d.length : Int)) (fun h0 => .test (0 ≤ a) (fun h1 => .look RW74 (d[Int.toNat a]?) fun i => .known (decide_eq_true h1) <| .look RW74 (d[Int.toNat a]?) fun j => .known (decide_eq_true h1) <| .look RW74 (d[Int.toNat a]?) fun f => .tot O117 (F117_ok i.c0 j.c2 f.c3 f.c4 f.c5 f.c6) fun l => .testB (!l) (fun h2 => .auto 13 <| .ret .e0) (fun h2 => .auto 2 <| .known (decide_eq_true h1) <| .look RW74 (d[Int.toNat a]?) fun m => .auto 3 <| .tot O118 (F118_ok m.c1 (-67108864) 67108864) fun o => .auto 2 <| .testB (!o) (fun h3 => .auto 5 <| .ret .e0) (fun h3 => .auto 2 <| .test (a > 0) (fun h4 => .auto 3 <| .test (0 ≤ w64 (a - 1)) (fun h5 => .look RW74 (d[Int.toNat (w64 (a - (1 : Int)))]?) fun p => .auto 5 <| .known (decide_eq_true h1) <| .look RW74 (d[Int.toNat a]?) fun q => .auto 6 <| .test (p.c0 ≥ q.c0) (fun h6 => .ret .e0) (fun h6 => .ret (.s0 (.mk d (w64 (a + 1)))))) (fun _ => .fail)) (fun h4 => .auto 15 <| .ret (.s0 (.mk d (w64 (a + 1)))))))) (fun _ => .fail)) (fun h0 => .ret (.e1 (.mk d)))
noncomputable def L58_0 := E58_0.loop fun | .s0 x => D58_0 x | _ => .fail
theorem L58_0_ok : LU 58 0 B58 0 E58_0 L58_0 :=
  lk (L := notIn []) (fun b hb => by cases b <;> first | (cases hb; done) | (rename_i x; cases x; intro x; kernel_rfl) | (intro x; kernel_rfl))
noncomputable def N58_0.nx (n : Nat) : N58_0 → Option N58_0 | .s0 x => L58_0 n (.s0 x) | .e0 => some .e0 | .e1 x => some (.e1 x)
theorem L58_0_s0 (n : Nat) (x : T58_0s0) : L58_0 (n + 1) (.s0 x) = (D58_0 x).ev (N58_0.nx n) := Ent.loop_eq fun c => by cases c <;> rfl
noncomputable def D58 (a : LV) : PT A58 := .cut E58_0 (L58_0_ok (.s0 (.mk a 0)) rfl) fun | .e0 => .ret (.a0 false) | .e1 (.mk d) => .ret (.a0 (decide ((d.length : Int) ≤ 32))) | _ => .fail
noncomputable def F58 (a : LV) : Option A58 := (D58 a).ev some
theorem F58_ok (a : LV) : FU E58 (F58 a) 58 [lS 7 a] := fu rfl rfl fun x => by kernel_rfl
/-! ## F182 -/
noncomputable def D182 (a d : Int) : PT Bool := .auto 1 <| .test (a ≥ -67108864) (fun h0 => .auto 4 <| .test (a ≤ 67108864) (fun h1 => .auto 4 <| .test (d ≥ -67108864) (fun h2 => .auto 4 <| .ret (decide (d ≤ 67108864))) (fun h2 => .auto 3 <| .ret false)) (fun h1 => .auto 7 <| .ret false)) (fun h0 => .auto 11 <| .ret false)
abbrev O182 (a : Bool) : V × Store := (vb a, [])
noncomputable def F182 (a d : Int) : Bool := (D182 a d).evT
theorem F182_ok (a d : Int) : UU 182 ([V.agg [i64 a, i64 d]]) ([]) = some (O182 (F182 a d)) :=
  fnT_ok (out := O182) (L := notIn []) rfl rfl (fun x => by kernel_rfl) (by simp [D182, PT.isT])
/-! ## F119 -/
noncomputable abbrev B119 : Code := (Tryz.f119.body).getD .skip
inductive T119_0s0 where
  | mk (a d : Int) (f : Bool) (i : LV)
inductive T119_0e1 where
  | mk (a : Int)
inductive N119_0 where
  | s0 (x : T119_0s0)
  | e0
  | e1 (x : T119_0e1)
abbrev N119_0.out : N119_0 → VX × S
  | .s0 (.mk a d f i) => (vN, S.mk (U :: pT 0 :: U :: i64 a :: i64 d :: un 31 []) [oF 2 [[vb f, lS 2 i]]])
  | .e0 => (VX.ret, S.mk (U :: U :: vb false :: un 33 []) [])
  | .e1 (.mk j) => (vX 0, S.mk (U :: U :: U :: i64 j :: un 32 []) [])
abbrev E119_0 := Ent.o3 N119_0.out .s0 (fun (_ : Unit) => .e0) .e1 (fun b => by cases b <;> simp)
noncomputable def D119_0 : T119_0s0 → PT N119_0 | .mk d a j f => .test (a < d) (fun h0 => .auto 1 <| .test (0 ≤ a) (fun h1 => .look RW28 (f[Int.toNat a]?) fun i => .tot O182 (F182_ok i.c0 i.c1) fun l => .testB (!l) (fun h2 => .ret .e0) (fun h2 => .ret (.s0 (.mk d (w64 (a + 1)) j f)))) (fun _ => .fail)) (fun h0 => .ret (.e1 (.mk d)))
noncomputable def L119_0 := E119_0.loop fun | .s0 x => D119_0 x | _ => .fail
theorem L119_0_ok : LU 119 0 B119 0 E119_0 L119_0 :=
  lk (L := notIn []) (fun b hb => by cases b <;> first | (cases hb; done) | (rename_i x; cases x; intro x; kernel_rfl) | (intro x; kernel_rfl))
noncomputable def N119_0.nx (n : Nat) : N119_0 → Option N119_0 | .s0 x => L119_0 n (.s0 x) | .e0 => some .e0 | .e1 x => some (.e1 x)
theorem L119_0_s0 (n : Nat) (x : T119_0s0) : L119_0 (n + 1) (.s0 x) = (D119_0 x).ev (N119_0.nx n) := Ent.loop_eq fun c => by cases c <;> rfl
noncomputable def D119 (f : Bool) (a : LV) : PT A119 := .auto 1 <| .testB ((a.length : Int) == 0) (fun h0 => .auto 1 <| .ret (.a0 (!f))) (fun h0 => .cut E119_0 (L119_0_ok (.s0 (.mk ((a.length : Int)) 0 f a)) rfl) fun | .e0 => .ret (.a0 false) | .e1 (.mk d) => (.test (d ≥ 4) (fun h1 => .auto 2 <| .test (d ≤ 97) (fun h2 => .auto 4 <| .ret (.a0 (Int.tmod d 3 == 1))) (fun h2 => .auto 3 <| .ret (.a0 false))) (fun h1 => .auto 6 <| .ret (.a0 false))) | _ => .fail)
noncomputable def F119 (a : Bool) (d : LV) : Option A119 := (D119 a d).ev some
theorem F119_ok (a : Bool) (d : LV) : FU E119 (F119 a d) 119 [V.agg [vb a, lS 2 d]] := fu rfl rfl fun x => by kernel_rfl
/-! ## F164 -/
noncomputable def D164 (a : W34) : PT Bool := .auto 1 <| .testB (a.c0 == 0) (fun h0 => .auto 4 <| .testB (a.c1 == 0) (fun h1 => .auto 40 <| .testB (w64 (w64 (w64 (w64 (w64 (w64 (w64 (((List.length a.c2) : Int) + ((List.length a.c3) : Int)) + ((List.length a.c4) : Int)) + ((List.length a.c21) : Int)) + ((List.length a.c23) : Int)) + ((List.length a.c29) : Int)) + ((List.length a.c30) : Int)) + ((List.length a.c31) : Int)) == 0) (fun h2 => .auto 4 <| .testB (!a.c5) (fun h3 => .auto 4 <| .testB (a.c6 == 0) (fun h4 => .auto 5 <| .testB (a.c7 == 0 && (a.c8 == 0 && (a.c9 == 0 && (a.c10 == 0 && (a.c11 == 0 && true))) && (a.c12 == 0 && (a.c13 == 0 && (a.c14 == 0 && (a.c15 == 0 && true))) && (a.c16 == 0 && (a.c17 == 0 && true) && (a.c18 == 0 && (a.c19 == 0 && true) && (a.c20 == 0 && true)))))) (fun h5 => .auto 4 <| .testB (!a.c22) (fun h6 => .auto 5 <| .testB (a.c24 == 0 && (a.c25 == 0 && (a.c26 == 0 && (a.c27 == 0 && true)))) (fun h7 => .auto 4 <| .ret (a.c28 == 0)) (fun h7 => .auto 3 <| .ret false)) (fun h6 => .auto 8 <| .ret false)) (fun h5 => .auto 12 <| .ret false)) (fun h4 => .auto 17 <| .ret false)) (fun h3 => .auto 21 <| .ret false)) (fun h2 => .auto 25 <| .ret false)) (fun h1 => .auto 58 <| .ret false)) (fun h0 => .auto 62 <| .ret false)
abbrev O164 (a : Bool) : V × Store := (vb a, [])
noncomputable def F164 (a : W34) : Bool := (D164 a).evT
theorem F164_ok (a : W34) : UU 164 ([V.agg (W34.cells a)]) ([]) = some (O164 (F164 a)) :=
  fnT_ok (out := O164) (L := notIn []) rfl rfl (fun x => by kernel_rfl) (by simp [D164, PT.isT])
/-! ## F120 -/
noncomputable def D120 (a : Bool) (d : LV) (f : Bool) (i : LV) : PT Bool := .auto 2 <| .testB ((d.length : Int) == (i.length : Int)) (fun h0 => .auto 7 <| .ret (a == f)) (fun h0 => .auto 5 <| .ret false)
abbrev O120 (a : Bool) : V × Store := (vb a, [])
noncomputable def F120 (a : Bool) (d : LV) (f : Bool) (i : LV) : Bool := (D120 a d f i).evT
theorem F120_ok (a : Bool) (d : LV) (f : Bool) (i : LV) : UU 120 ([V.agg [vb a, lS 2 d], V.agg [vb f, lS 2 i]]) ([]) = some (O120 (F120 a d f i)) :=
  fnT_ok (out := O120) (L := notIn []) rfl rfl (fun x => by kernel_rfl) (by simp [D120, PT.isT])
/-! ## F59 -/
noncomputable abbrev B59 : Code := (Tryz.f59.body).getD .skip
inductive T59_0s0 where
  | mk (a : LV) (d : Int)
inductive T59_0e1 where
  | mk (a : LV)
inductive N59_0 where
  | s0 (x : T59_0s0)
  | e0
  | e1 (x : T59_0e1)
abbrev N59_0.out : N59_0 → VX × S
  | .s0 (.mk a d) => (vN, S.mk (lS 8 a :: U :: U :: i64 d :: un 76 []) [])
  | .e0 => (VX.ret, S.mk (U :: U :: vb false :: un 77 []) [])
  | .e1 (.mk f) => (vX 0, S.mk (lS 8 f :: un 79 []) [])
abbrev E59_0 := Ent.o3 N59_0.out .s0 (fun (_ : Unit) => .e0) .e1 (fun b => by cases b <;> simp)
noncomputable def D59_0 : T59_0s0 → PT N59_0 | .mk a d => .test (d < (a.length : Int)) (fun h0 => .test (0 ≤ d) (fun h1 => .look RW100 (a[Int.toNat d]?) fun q => .known (decide_eq_true h1) <| .look RW100 (a[Int.toNat d]?) fun s => .known (decide_eq_true h1) <| .look RW100 (a[Int.toNat d]?) fun f => .tot O117 (F117_ok q.c0 s.c3 f.c4 f.c5 f.c6 f.c7) fun t => .testB (!t) (fun h2 => .auto 34 <| .ret .e0) (fun h2 => .auto 2 <| .test (d > 0) (fun h3 => .auto 3 <| .test (0 ≤ w64 (d - 1)) (fun h4 => .look RW100 (a[Int.toNat (w64 (d - (1 : Int)))]?) fun u => .auto 5 <| .known (decide_eq_true h1) <| .look RW100 (a[Int.toNat d]?) fun v => .auto 6 <| .test (u.c0 ≥ v.c0) (fun h5 => .auto 29 <| .ret .e0) (fun h5 => .auto 2 <| .known (decide_eq_true h1) <| .look RW100 (a[Int.toNat d]?) fun i => .auto 3 <| .ask E119 (F119_ok i.c1 i.c2) fun ⟨w⟩ => .auto 2 <| .testB (!w) (fun h6 => .auto 21 <| .ret .e0) (fun h6 => .auto 2 <| .known (decide_eq_true h1) <| .look RW100 (a[Int.toNat d]?) fun y => .auto 6 <| .testB (((List.length y.c2) : Int) == 0) (fun h7 => .auto 12 <| .ret .e0) (fun h7 => .auto 2 <| .known (decide_eq_true h1) <| .look RW100 (a[Int.toNat d]?) fun j => .auto 5 <| .look RW100 (a[(0 : Nat)]?) fun l => .auto 3 <| .tot O120 (F120_ok j.c1 j.c2 l.c1 l.c2) fun z => .auto 2 <| .testB (!z) (fun h8 => .ret .e0) (fun h8 => .ret (.s0 (.mk a (w64 (d + 1))))))))) (fun _ => .fail)) (fun h3 => .auto 17 <| .known (decide_eq_true h1) <| .look RW100 (a[Int.toNat d]?) fun m => .auto 3 <| .ask E119 (F119_ok m.c1 m.c2) fun ⟨d0⟩ => .auto 2 <| .testB (!d0) (fun h4 => .auto 21 <| .ret .e0) (fun h4 => .auto 2 <| .known (decide_eq_true h1) <| .look RW100 (a[Int.toNat d]?) fun d1 => .auto 6 <| .testB (((List.length d1.c2) : Int) == 0) (fun h5 => .auto 12 <| .ret .e0) (fun h5 => .auto 2 <| .known (decide_eq_true h1) <| .look RW100 (a[Int.toNat d]?) fun o => .auto 5 <| .look RW100 (a[(0 : Nat)]?) fun p => .auto 3 <| .tot O120 (F120_ok o.c1 o.c2 p.c1 p.c2) fun d2 => .auto 2 <| .testB (!d2) (fun h6 => .ret .e0) (fun h6 => .ret (.s0 (.mk a (w64 (d + 1)))))))))) (fun _ => .fail)) (fun h0 => .ret (.e1 (.mk a)))
noncomputable def L59_0 := E59_0.loop fun | .s0 x => D59_0 x | _ => .fail
theorem L59_0_ok : LU 59 0 B59 0 E59_0 L59_0 :=
  lk (L := notIn []) (fun b hb => by cases b <;> first | (cases hb; done) | (rename_i x; cases x; intro x; kernel_rfl) | (intro x; kernel_rfl))
noncomputable def N59_0.nx (n : Nat) : N59_0 → Option N59_0 | .s0 x => L59_0 n (.s0 x) | .e0 => some .e0 | .e1 x => some (.e1 x)
theorem L59_0_s0 (n : Nat) (x : T59_0s0) : L59_0 (n + 1) (.s0 x) = (D59_0 x).ev (N59_0.nx n) := Ent.loop_eq fun c => by cases c <;> rfl
noncomputable def D59 (a : LV) : PT A59 := .cut E59_0 (L59_0_ok (.s0 (.mk a 0)) rfl) fun | .e0 => .ret (.a0 false) | .e1 (.mk d) => .ret (.a0 (decide ((d.length : Int) ≤ 32))) | _ => .fail
noncomputable def F59 (a : LV) : Option A59 := (D59 a).ev some
theorem F59_ok (a : LV) : FU E59 (F59 a) 59 [lS 8 a] := fu rfl rfl fun x => by kernel_rfl
/-! ## F121 -/
noncomputable def D121 (a : Int) : PT Bool := .test (a ≥ -67108864) (fun h0 => .auto 2 <| .ret (decide (a ≤ 67108864))) (fun h0 => .auto 2 <| .ret false)
abbrev O121 (a : Bool) : V × Store := (vb a, [])
noncomputable def F121 (a : Int) : Bool := (D121 a).evT
theorem F121_ok (a : Int) : UU 121 ([i64 a]) ([]) = some (O121 (F121 a)) :=
  fnT_ok (out := O121) (L := notIn []) rfl rfl (fun x => by kernel_rfl) (by simp [D121, PT.isT])
/-! ## F60 -/
noncomputable def D60 (a t u v w y z d0 d1 d f i j l : Int) : PT Bool := .auto 1 <| .test (a ≥ 0) (fun h0 => .auto 4 <| .test (a ≤ 2) (fun h1 => .auto 4 <| .tot O121 (F121_ok d) fun m => .auto 1 <| .testB m (fun h2 => .auto 4 <| .tot O121 (F121_ok f) fun o => .auto 1 <| .testB o (fun h3 => .auto 4 <| .tot O121 (F121_ok i) fun p => .auto 1 <| .testB p (fun h4 => .auto 4 <| .tot O121 (F121_ok j) fun q => .auto 1 <| .testB q (fun h5 => .auto 3 <| .tot O121 (F121_ok l) fun s => .auto 1 <| .ret s) (fun h5 => .auto 3 <| .ret false)) (fun h4 => .auto 8 <| .ret false)) (fun h3 => .auto 13 <| .ret false)) (fun h2 => .auto 18 <| .ret false)) (fun h1 => .auto 23 <| .ret false)) (fun h0 => .auto 27 <| .ret false)
abbrev O60 (a : Bool) : V × Store := (vb a, [])
noncomputable def F60 (a d f i j l m o p q s t u v : Int) : Bool := (D60 a d f i j l m o p q s t u v).evT
theorem F60_ok (a d f i j l m o p q s t u v : Int) : UU 60 ([V.agg [i64 a, u8 d, u8 f, u8 i, u8 j, u8 l, u8 m, u8 o, u8 p, i64 q, i64 s, i64 t, i64 u, i64 v]]) ([]) = some (O60 (F60 a d f i j l m o p q s t u v)) :=
  fnT_ok (out := O60) (L := notIn []) rfl rfl (fun x => by kernel_rfl) (by simp [D60, PT.isT])
/-! ## F61 -/
noncomputable abbrev B61 : Code := (Tryz.f61.body).getD .skip
inductive T61_0s0 where
  | mk (a : LV) (d : Int)
inductive T61_0e1 where
  | mk (a : LV)
inductive N61_0 where
  | s0 (x : T61_0s0)
  | e0
  | e1 (x : T61_0e1)
abbrev N61_0.out : N61_0 → VX × S
  | .s0 (.mk a d) => (vN, S.mk (lS 10 a :: U :: U :: i64 d :: un 44 []) [])
  | .e0 => (VX.ret, S.mk (U :: U :: vb false :: un 45 []) [])
  | .e1 (.mk f) => (vX 0, S.mk (lS 10 f :: un 47 []) [])
abbrev E61_0 := Ent.o3 N61_0.out .s0 (fun (_ : Unit) => .e0) .e1 (fun b => by cases b <;> simp)
noncomputable def D61_0 : T61_0s0 → PT N61_0 | .mk d a => .test (a < (d.length : Int)) (fun h0 => .test (0 ≤ a) (fun h1 => .look RW108 (d[Int.toNat a]?) fun i => .known (decide_eq_true h1) <| .look RW108 (d[Int.toNat a]?) fun j => .known (decide_eq_true h1) <| .look RW108 (d[Int.toNat a]?) fun f => .tot O117 (F117_ok i.c0 j.c5 f.c6 f.c7 f.c8 f.c9) fun l => .testB (!l) (fun h2 => .auto 5 <| .ret .e0) (fun h2 => .auto 2 <| .test (a > 0) (fun h3 => .auto 3 <| .test (0 ≤ w64 (a - 1)) (fun h4 => .look RW108 (d[Int.toNat (w64 (a - (1 : Int)))]?) fun m => .auto 5 <| .known (decide_eq_true h1) <| .look RW108 (d[Int.toNat a]?) fun o => .auto 6 <| .test (m.c0 ≥ o.c0) (fun h5 => .ret .e0) (fun h5 => .ret (.s0 (.mk d (w64 (a + 1)))))) (fun _ => .fail)) (fun h3 => .auto 15 <| .ret (.s0 (.mk d (w64 (a + 1))))))) (fun _ => .fail)) (fun h0 => .ret (.e1 (.mk d)))
noncomputable def L61_0 := E61_0.loop fun | .s0 x => D61_0 x | _ => .fail
theorem L61_0_ok : LU 61 0 B61 0 E61_0 L61_0 :=
  lk (L := notIn []) (fun b hb => by cases b <;> first | (cases hb; done) | (rename_i x; cases x; intro x; kernel_rfl) | (intro x; kernel_rfl))
noncomputable def N61_0.nx (n : Nat) : N61_0 → Option N61_0 | .s0 x => L61_0 n (.s0 x) | .e0 => some .e0 | .e1 x => some (.e1 x)
theorem L61_0_s0 (n : Nat) (x : T61_0s0) : L61_0 (n + 1) (.s0 x) = (D61_0 x).ev (N61_0.nx n) := Ent.loop_eq fun c => by cases c <;> rfl
noncomputable def D61 (a : LV) : PT A61 := .cut E61_0 (L61_0_ok (.s0 (.mk a 0)) rfl) fun | .e0 => .ret (.a0 false) | .e1 (.mk d) => .ret (.a0 (decide ((d.length : Int) ≤ 32))) | _ => .fail
noncomputable def F61 (a : LV) : Option A61 := (D61 a).ev some
theorem F61_ok (a : LV) : FU E61 (F61 a) 61 [lS 10 a] := fu rfl rfl fun x => by kernel_rfl
/-! ## F62 -/
noncomputable abbrev B62 : Code := (Tryz.f62.body).getD .skip
inductive T62_0s0 where
  | mk (a : LV) (d : Int)
inductive T62_0e1 where
  | mk (a : LV)
inductive N62_0 where
  | s0 (x : T62_0s0)
  | e0
  | e1 (x : T62_0e1)
abbrev N62_0.out : N62_0 → VX × S
  | .s0 (.mk a d) => (vN, S.mk (lS 1 a :: U :: U :: i64 d :: un 21 []) [])
  | .e0 => (VX.ret, S.mk (U :: U :: vb false :: un 22 []) [])
  | .e1 (.mk f) => (vX 0, S.mk (lS 1 f :: un 24 []) [])
abbrev E62_0 := Ent.o3 N62_0.out .s0 (fun (_ : Unit) => .e0) .e1 (fun b => by cases b <;> simp)
noncomputable def D62_0 : T62_0s0 → PT N62_0 | .mk a d => .test (d < (a.length : Int)) (fun h0 => .test (0 ≤ d) (fun h1 => .look RW2 (a[Int.toNat d]?) fun f => .test (f.c0 < 65536) (fun h2 => .auto 6 <| .ret .e0) (fun h2 => .auto 2 <| .known (decide_eq_true h1) <| .look RW2 (a[Int.toNat d]?) fun i => .auto 3 <| .test (i.c0 > 67108864) (fun h3 => .ret .e0) (fun h3 => .ret (.s0 (.mk a (w64 (d + 1))))))) (fun _ => .fail)) (fun h0 => .ret (.e1 (.mk a)))
noncomputable def L62_0 := E62_0.loop fun | .s0 x => D62_0 x | _ => .fail
theorem L62_0_ok : LU 62 0 B62 0 E62_0 L62_0 :=
  lk (L := notIn []) (fun b hb => by cases b <;> first | (cases hb; done) | (rename_i x; cases x; intro x; kernel_rfl) | (intro x; kernel_rfl))
noncomputable def N62_0.nx (n : Nat) : N62_0 → Option N62_0 | .s0 x => L62_0 n (.s0 x) | .e0 => some .e0 | .e1 x => some (.e1 x)
theorem L62_0_s0 (n : Nat) (x : T62_0s0) : L62_0 (n + 1) (.s0 x) = (D62_0 x).ev (N62_0.nx n) := Ent.loop_eq fun c => by cases c <;> rfl
noncomputable def D62 (a : LV) : PT A62 := .cut E62_0 (L62_0_ok (.s0 (.mk a 0)) rfl) fun | .e0 => .ret (.a0 false) | .e1 (.mk d) => .ret (.a0 (decide ((d.length : Int) ≤ 8))) | _ => .fail
noncomputable def F62 (a : LV) : Option A62 := (D62 a).ev some
theorem F62_ok (a : LV) : FU E62 (F62 a) 62 [lS 1 a] := fu rfl rfl fun x => by kernel_rfl
/-! ## F16 -/
noncomputable abbrev B16 : Code := (Tryz.f16.body).getD .skip
inductive T16_r3s0 where
  | mk (a : W34)
abbrev T16_r3s0.st : T16_r3s0 → S
  | .mk a => S.mk (U :: pT 0 :: un 124 []) [oF 32 [W34.cells a]]
inductive T16_r3e0 where
  | mk (a : Bool) (d : W34)
inductive N16_r3 where
  | e0 (x : T16_r3e0)
abbrev N16_r3.out : N16_r3 → VX × S
  | .e0 (.mk a d) => (vN, S.mk (U :: pT 0 :: un 75 (vb a :: un 48 [])) [oF 32 [W34.cells d]])
abbrev E16_r3 := Ent.o1 N16_r3.out .e0 fun ⟨x⟩ => ⟨x, rfl⟩
noncomputable def D16_r3 : T16_r3s0 → PT N16_r3 | .mk a => .auto 1 <| .ask E58 (F58_ok a.c2) fun ⟨d⟩ => .testB (!d) (fun h0 => .auto 21 <| .ret (.e0 (.mk true a))) (fun h0 => .auto 3 <| .ask E58 (F58_ok a.c3) fun ⟨f⟩ => .auto 2 <| .testB (!f) (fun h1 => .auto 16 <| .ret (.e0 (.mk true a))) (fun h1 => .auto 3 <| .ask E59 (F59_ok a.c4) fun ⟨i⟩ => .auto 2 <| .testB (!i) (fun h2 => .auto 11 <| .ret (.e0 (.mk true a))) (fun h2 => .auto 4 <| .testB (a.c0 == 3) (fun h3 => .auto 12 <| .test (w64 (((List.length a.c2) : Int) + ((List.length a.c3) : Int)) > 0) (fun h4 => .auto 5 <| .ret (.e0 (.mk true a))) (fun h4 => .auto 4 <| .testB (a.c0 != 3) (fun h5 => .auto 7 <| .ret (.e0 (.mk (decide (((List.length a.c4) : Int) > 0)) a))) (fun h5 => .auto 6 <| .ret (.e0 (.mk false a))))) (fun h3 => .auto 15 <| .testB (a.c0 != 3) (fun h4 => .auto 7 <| .ret (.e0 (.mk (decide (((List.length a.c4) : Int) > 0)) a))) (fun h4 => .auto 6 <| .ret (.e0 (.mk false a)))))))
noncomputable def J16_r3 (y : T16_r3s0) : Option N16_r3 := (D16_r3 y).ev some
theorem J16_r3_ok (y : T16_r3s0) : ∀ b, J16_r3 y = some b → regP Tryz.prog X CC 16 0 B16 3 y.st = some (E16_r3.out b) := by
  cases y; exact reg_ok (E := E16_r3) (fun x => by kernel_rfl)
inductive T16_r1s0 where
  | mk (a : W34)
abbrev T16_r1s0.st : T16_r1s0 → S
  | .mk a => S.mk (U :: pT 0 :: un 124 []) [oF 32 [W34.cells a]]
inductive T16_r1e0 where
  | mk (a : Bool) (d : W34)
inductive N16_r1 where
  | e0 (x : T16_r1e0)
abbrev N16_r1.out : N16_r1 → VX × S
  | .e0 (.mk a d) => (vN, S.mk (U :: pT 0 :: un 33 (vb a :: un 90 [])) [oF 32 [W34.cells d]])
abbrev E16_r1 := Ent.o1 N16_r1.out .e0 fun ⟨x⟩ => ⟨x, rfl⟩
noncomputable def D16_r1 : T16_r1s0 → PT N16_r1 | .mk a => .auto 1 <| .test (a.c0 < 0) (fun h0 => .auto 15 <| .ret (.e0 (.mk true a))) (fun h0 => .auto 4 <| .test (a.c0 > 3) (fun h1 => .auto 11 <| .ret (.e0 (.mk true a))) (fun h1 => .auto 4 <| .testB (a.c0 == 2) (fun h2 => .auto 4 <| .test (a.c1 < 2) (fun h3 => .auto 13 <| .ret (.e0 (.mk true a))) (fun h3 => .auto 8 <| .test (a.c1 > 16) (fun h4 => .auto 5 <| .ret (.e0 (.mk true a))) (fun h4 => .auto 4 <| .testB (a.c0 != 2) (fun h5 => .auto 6 <| .ret (.e0 (.mk (a.c1 != 0) a))) (fun h5 => .auto 5 <| .ret (.e0 (.mk false a)))))) (fun h2 => .auto 12 <| .testB (a.c0 != 2) (fun h3 => .auto 6 <| .ret (.e0 (.mk (a.c1 != 0) a))) (fun h3 => .auto 5 <| .ret (.e0 (.mk false a))))))
noncomputable def J16_r1 (y : T16_r1s0) : Option N16_r1 := (D16_r1 y).ev some
theorem J16_r1_ok (y : T16_r1s0) : ∀ b, J16_r1 y = some b → regP Tryz.prog X CC 16 0 B16 1 y.st = some (E16_r1.out b) := by
  cases y; exact reg_ok (E := E16_r1) (fun x => by kernel_rfl)
noncomputable def D16 (d : W34) : PT A16 := .cut E16_r1 (J16_r1_ok (.mk d)) fun | .e0 (.mk f i) => .testB f (fun h0 => .ret (.a0 false)) (fun h0 => .cut E16_r3 (J16_r3_ok (.mk i)) fun | .e0 (.mk j a) => .testB j (fun h1 => .ret (.a0 false)) (fun h1 => .auto 1 <| .testB (a.c6 == 0) (fun h2 => .auto 7 <| .tot O60 (F60_ok a.c7 a.c8 a.c9 a.c10 a.c11 a.c12 a.c13 a.c14 a.c15 a.c16 a.c17 a.c18 a.c19 a.c20) fun l => .auto 1 <| .testB l (fun h3 => .auto 3 <| .ask E61 (F61_ok a.c21) fun ⟨m⟩ => .auto 1 <| .testB m (fun h4 => .auto 3 <| .ask E58 (F58_ok a.c23) fun ⟨o⟩ => .auto 1 <| .testB o (fun h5 => .auto 3 <| .ask E58 (F58_ok a.c30) fun ⟨p⟩ => .auto 1 <| .testB p (fun h6 => .auto 3 <| .ask E58 (F58_ok a.c31) fun ⟨q⟩ => .auto 1 <| .testB q (fun h7 => .auto 4 <| .testB (a.c28 == 0) (fun h8 => .auto 9 <| .ask E62 (F62_ok a.c29) fun ⟨s⟩ => .auto 1 <| .ret (.a0 s)) (fun h8 => .auto 6 <| .testB (a.c28 == 1) (fun h9 => .auto 3 <| .ask E62 (F62_ok a.c29) fun ⟨t⟩ => .auto 1 <| .ret (.a0 t)) (fun h9 => .auto 3 <| .ret (.a0 false)))) (fun h7 => .auto 9 <| .ret (.a0 false))) (fun h6 => .auto 13 <| .ret (.a0 false))) (fun h5 => .auto 17 <| .ret (.a0 false))) (fun h4 => .auto 21 <| .ret (.a0 false))) (fun h3 => .auto 25 <| .ret (.a0 false))) (fun h2 => .auto 4 <| .testB (a.c6 == 1) (fun h3 => .auto 3 <| .tot O60 (F60_ok a.c7 a.c8 a.c9 a.c10 a.c11 a.c12 a.c13 a.c14 a.c15 a.c16 a.c17 a.c18 a.c19 a.c20) fun u => .auto 1 <| .testB u (fun h4 => .auto 3 <| .ask E61 (F61_ok a.c21) fun ⟨v⟩ => .auto 1 <| .testB v (fun h5 => .auto 3 <| .ask E58 (F58_ok a.c23) fun ⟨w⟩ => .auto 1 <| .testB w (fun h6 => .auto 3 <| .ask E58 (F58_ok a.c30) fun ⟨y⟩ => .auto 1 <| .testB y (fun h7 => .auto 3 <| .ask E58 (F58_ok a.c31) fun ⟨z⟩ => .auto 1 <| .testB z (fun h8 => .auto 4 <| .testB (a.c28 == 0) (fun h9 => .auto 9 <| .ask E62 (F62_ok a.c29) fun ⟨d0⟩ => .auto 1 <| .ret (.a0 d0)) (fun h9 => .auto 6 <| .testB (a.c28 == 1) (fun h10 => .auto 3 <| .ask E62 (F62_ok a.c29) fun ⟨d1⟩ => .auto 1 <| .ret (.a0 d1)) (fun h10 => .auto 3 <| .ret (.a0 false)))) (fun h8 => .auto 9 <| .ret (.a0 false))) (fun h7 => .auto 13 <| .ret (.a0 false))) (fun h6 => .auto 17 <| .ret (.a0 false))) (fun h5 => .auto 21 <| .ret (.a0 false))) (fun h4 => .auto 25 <| .ret (.a0 false))) (fun h3 => .auto 29 <| .ret (.a0 false)))))
noncomputable def F16 (a : W34) : Option A16 := (D16 a).ev some
theorem F16_ok (a : W34) : FU E16 (F16 a) 16 [V.agg (W34.cells a)] := fu rfl rfl fun x => by kernel_rfl
/-! ## F96 -/
noncomputable abbrev B96 : Code := (Tryz.f96.body).getD .skip
inductive T96_r9s0 where
  | mk (a : W57)
abbrev T96_r9s0.st : T96_r9s0 → S
  | .mk a => S.mk (U :: pT 0 :: un 94 []) [oF 50 [W57.cells a]]
inductive T96_r9e0 where
  | mk (a : Bool) (d : W57)
inductive N96_r9 where
  | e0 (x : T96_r9e0)
abbrev N96_r9.out : N96_r9 → VX × S
  | .e0 (.mk a d) => (vN, S.mk (U :: pT 0 :: un 73 (vb a :: un 20 [])) [oF 50 [W57.cells d]])
abbrev E96_r9 := Ent.o1 N96_r9.out .e0 fun ⟨x⟩ => ⟨x, rfl⟩
noncomputable def D96_r9 : T96_r9s0 → PT N96_r9 | .mk a => .auto 1 <| .ask E119 (F119_ok a.c16 a.c17) fun ⟨d⟩ => .testB (!d) (fun h0 => .auto 7 <| .ret (.e0 (.mk true a))) (fun h0 => .auto 6 <| .test (((List.length a.c17) : Int) > 0) (fun h1 => .auto 7 <| .ret (.e0 (.mk (!a.c16) a))) (fun h1 => .auto 6 <| .ret (.e0 (.mk false a))))
noncomputable def J96_r9 (y : T96_r9s0) : Option N96_r9 := (D96_r9 y).ev some
theorem J96_r9_ok (y : T96_r9s0) : ∀ b, J96_r9 y = some b → regP Tryz.prog X CC 96 0 B96 9 y.st = some (E96_r9.out b) := by
  cases y; exact reg_ok (E := E96_r9) (fun x => by kernel_rfl)
inductive T96_0s0 where
  | mk (a : Nat) (d f : Int) (i : W57) (j : LV)
inductive T96_0e1 where
  | mk (a : W57)
inductive N96_0 where
  | s0 (x : T96_0s0)
  | e0
  | e1 (x : T96_0e1)
abbrev N96_0.out : N96_0 → VX × S
  | .s0 (.mk a d f i j) => (vN, S.mk (U :: pT 0 :: un 47 (hS 1 a :: i64 d :: i64 f :: un 44 [])) [oF 50 [W57.cells i], oT 1 j])
  | .e0 => (VX.ret, S.mk (U :: U :: vb false :: un 93 []) [])
  | .e1 (.mk l) => (vX 0, S.mk (U :: pT 0 :: un 94 []) [oF 50 [W57.cells l]])
abbrev E96_0 := Ent.o3 N96_0.out .s0 (fun (_ : Unit) => .e0) .e1 (fun b => by cases b <;> simp)
noncomputable def D96_0 : T96_0s0 → PT N96_0 | .mk d f a i j => .test (a < f) (fun h0 => .test (0 ≤ a ∧ a < (↑d : Int)) (fun h1 => .look RW23 (j[(0 : Nat) + Int.toNat a]?) fun l => .ask E58 (F58_ok l.c0) fun ⟨m⟩ => .testB (!m) (fun h2 => .ret .e0) (fun h2 => .ret (.s0 (.mk d f (w64 (a + 1)) i j)))) (fun _ => .fail)) (fun h0 => .ret (.e1 (.mk i)))
noncomputable def L96_0 := E96_0.loop fun | .s0 x => D96_0 x | _ => .fail
theorem L96_0_ok : LU 96 0 B96 0 E96_0 L96_0 :=
  lk (L := notIn []) (fun b hb => by cases b <;> first | (cases hb; done) | (rename_i x; cases x; intro x; kernel_rfl) | (intro x; kernel_rfl))
noncomputable def N96_0.nx (n : Nat) : N96_0 → Option N96_0 | .s0 x => L96_0 n (.s0 x) | .e0 => some .e0 | .e1 x => some (.e1 x)
theorem L96_0_s0 (n : Nat) (x : T96_0s0) : L96_0 (n + 1) (.s0 x) = (D96_0 x).ev (N96_0.nx n) := Ent.loop_eq fun c => by cases c <;> rfl
inductive T96_r1s0 where
  | mk (a : W57)
abbrev T96_r1s0.st : T96_r1s0 → S
  | .mk a => S.mk (U :: pT 0 :: un 94 []) [oF 50 [W57.cells a]]
inductive T96_r1e0 where
  | mk (a : Bool) (d : W57)
inductive N96_r1 where
  | e0 (x : T96_r1e0)
abbrev N96_r1.out : N96_r1 → VX × S
  | .e0 (.mk a d) => (vN, S.mk (U :: pT 0 :: un 45 (vb a :: un 48 [])) [oF 50 [W57.cells d]])
abbrev E96_r1 := Ent.o1 N96_r1.out .e0 fun ⟨x⟩ => ⟨x, rfl⟩
noncomputable def D96_r1 : T96_r1s0 → PT N96_r1 | .mk a => .auto 1 <| .testB (a.c0 != 0) (fun h0 => .auto 4 <| .testB (a.c0 != 1) (fun h1 => .auto 28 <| .ret (.e0 (.mk true a))) (fun h1 => .auto 4 <| .test (a.c3 < 0) (fun h2 => .auto 24 <| .ret (.e0 (.mk true a))) (fun h2 => .auto 4 <| .test (a.c3 > 2) (fun h3 => .auto 20 <| .ret (.e0 (.mk true a))) (fun h3 => .auto 3 <| .tot O95 (F95_ok a.c4) fun d => .auto 2 <| .testB (!d) (fun h4 => .auto 15 <| .ret (.e0 (.mk true a))) (fun h4 => .auto 3 <| .tot O95 (F95_ok a.c5) fun f => .auto 2 <| .testB (!f) (fun h5 => .auto 10 <| .ret (.e0 (.mk true a))) (fun h5 => .auto 3 <| .tot O95 (F95_ok a.c6) fun i => .auto 2 <| .testB (!i) (fun h6 => .auto 5 <| .ret (.e0 (.mk true a))) (fun h6 => .auto 7 <| .ret (.e0 (.mk (decide (a.c4 ≥ a.c5)) a))))))))) (fun h0 => .auto 8 <| .test (a.c3 < 0) (fun h1 => .auto 24 <| .ret (.e0 (.mk true a))) (fun h1 => .auto 4 <| .test (a.c3 > 2) (fun h2 => .auto 20 <| .ret (.e0 (.mk true a))) (fun h2 => .auto 3 <| .tot O95 (F95_ok a.c4) fun j => .auto 2 <| .testB (!j) (fun h3 => .auto 15 <| .ret (.e0 (.mk true a))) (fun h3 => .auto 3 <| .tot O95 (F95_ok a.c5) fun l => .auto 2 <| .testB (!l) (fun h4 => .auto 10 <| .ret (.e0 (.mk true a))) (fun h4 => .auto 3 <| .tot O95 (F95_ok a.c6) fun m => .auto 2 <| .testB (!m) (fun h5 => .auto 5 <| .ret (.e0 (.mk true a))) (fun h5 => .auto 7 <| .ret (.e0 (.mk (decide (a.c4 ≥ a.c5)) a))))))))
noncomputable def J96_r1 (y : T96_r1s0) : Option N96_r1 := (D96_r1 y).ev some
theorem J96_r1_ok (y : T96_r1s0) : ∀ b, J96_r1 y = some b → regP Tryz.prog X CC 96 0 B96 1 y.st = some (E96_r1.out b) := by
  cases y; exact reg_ok (E := E96_r1) (fun x => by kernel_rfl)
noncomputable def D96 (i : W57) : PT A96 := .cut E96_r1 (J96_r1_ok (.mk i)) fun | .e0 (.mk j d) => .testB j (fun h0 => .ret (.a0 false)) (fun h0 => .auto 1 <| .ask E163 (F163_ok d) fun ⟨f, l⟩ => .cut E96_0 (L96_0_ok (.s0 (.mk f ((↑f : Int)) 0 d l)) rfl) fun | .e0 => .ret (.a0 false) | .e1 (.mk m) => (.cut E96_r9 (J96_r9_ok (.mk m)) fun | .e0 (.mk o a) => .testB o (fun h1 => .ret (.a0 false)) (fun h1 => .auto 1 <| .testB (a.c0 == 1) (fun h2 => .auto 1 <| .tot O164 (F164_ok (W34.mk a.c18 a.c19 a.c20 a.c21 a.c22 a.c23 a.c24 a.c25 a.c26 a.c27 a.c28 a.c29 a.c30 a.c31 a.c32 a.c33 a.c34 a.c35 a.c36 a.c37 a.c38 a.c39 a.c40 a.c41 a.c42 a.c43 a.c44 a.c45 a.c46 a.c47 a.c48 a.c49)) fun p => .ret (.a0 p)) (fun h2 => .auto 1 <| .testB (a.c2 == 0) (fun h3 => .auto 5 <| .testB (((List.length a.c15) : Int) == 0) (fun h4 => .auto 3 <| .ask E16 (F16_ok (W34.mk a.c18 a.c19 a.c20 a.c21 a.c22 a.c23 a.c24 a.c25 a.c26 a.c27 a.c28 a.c29 a.c30 a.c31 a.c32 a.c33 a.c34 a.c35 a.c36 a.c37 a.c38 a.c39 a.c40 a.c41 a.c42 a.c43 a.c44 a.c45 a.c46 a.c47 a.c48 a.c49)) fun ⟨q⟩ => .auto 1 <| .ret (.a0 q)) (fun h4 => .auto 3 <| .ret (.a0 false))) (fun h3 => .auto 8 <| .ret (.a0 false))))) | _ => .fail)
noncomputable def F96 (a : W57) : Option A96 := (D96 a).ev some
theorem F96_ok (a : W57) : FU E96 (F96 a) 96 [V.agg (W57.cells a)] := fu rfl rfl fun x => by kernel_rfl
/-! ## F97 -/
noncomputable abbrev B97 : Code := (Tryz.f97.body).getD .skip
inductive T97_r14s0 where
  | mk (a d : Int) (f : LV) (i j : Int) (l : LV) (m : W57)
abbrev T97_r14s0.st : T97_r14s0 → S
  | .mk a d f i j l m => S.mk (U :: i64 a :: i64 d :: pT 0 :: U :: U :: U :: lS 50 f :: U :: pT 1 :: un 83 []) [oF 3 [[i64 i, i64 j, lS 1 l]], oF 50 [W57.cells m]]
inductive T97_r14e0 where
  | mk (a : Int) (d : Bool) (f i : Int) (j : LV) (l : W57)
inductive N97_r14 where
  | e0 (x : T97_r14e0)
abbrev N97_r14.out : N97_r14 → VX × S
  | .e0 (.mk a d f i j l) => (vN, S.mk (U :: i64 a :: U :: pT 0 :: un 5 (pT 1 :: un 65 (vb d :: un 17 []))) [oF 3 [[i64 f, i64 i, lS 1 j]], oF 50 [W57.cells l]])
abbrev E97_r14 := Ent.o1 N97_r14.out .e0 fun ⟨x⟩ => ⟨x, rfl⟩
noncomputable def D97_r14 : T97_r14s0 → PT N97_r14 | .mk d f m i j l a => .auto 1 <| .testB (a.c3 != 0) (fun h0 => .auto 2 <| .testB (f == 0) (fun h1 => .auto 9 <| .ret (.e0 (.mk d true i j l a))) (fun h1 => .auto 3 <| .test (0 ≤ w64 (f - 1)) (fun h2 => .look RW57 (m[Int.toNat (w64 (f - (1 : Int)))]?) fun o => .auto 6 <| .ret (.e0 (.mk d (o.c3 != 0) i j l a))) (fun _ => .fail))) (fun h0 => .auto 4 <| .ret (.e0 (.mk d false i j l a)))
noncomputable def J97_r14 (y : T97_r14s0) : Option N97_r14 := (D97_r14 y).ev some
theorem J97_r14_ok (y : T97_r14s0) : ∀ b, J97_r14 y = some b → regP Tryz.prog X CC 97 0 B97 14 y.st = some (E97_r14.out b) := by
  cases y; exact reg_ok (E := E97_r14) (fun x => by kernel_rfl)
inductive T97_0s0 where
  | mk (a d : Int) (f : LV) (i j l m o : Int) (p : LV) (q : W57)
inductive T97_0e0 where
  | mk (a d : Int) (f : LV) (i j : Int) (l : LV) (m : W57)
inductive N97_0 where
  | s0 (x : T97_0s0)
  | e0 (x : T97_0e0)
  | e1
abbrev N97_0.out : N97_0 → VX × S
  | .s0 (.mk a d f i j l m o p q) => (vN, S.mk (U :: i64 a :: i64 d :: pT 0 :: U :: U :: U :: lS 50 f :: i64 i :: pT 1 :: i64 j :: i64 l :: un 81 []) [oF 3 [[i64 m, i64 o, lS 1 p]], oF 50 [W57.cells q]])
  | .e0 (.mk s t u v w y z) => (vX 0, S.mk (U :: i64 s :: i64 t :: pT 0 :: U :: U :: U :: lS 50 u :: U :: pT 1 :: un 83 []) [oF 3 [[i64 v, i64 w, lS 1 y]], oF 50 [W57.cells z]])
  | .e1 => (VX.ret, S.mk (un 6 (vb false :: un 86 [])) [])
abbrev E97_0 := Ent.o3 N97_0.out .s0 .e0 (fun (_ : Unit) => .e1) (fun b => by cases b <;> simp)
noncomputable def D97_0 : T97_0s0 → PT N97_0 | .mk f a d p q s i j l m => .test (s < p) (fun h0 => .test (0 ≤ q) (fun h1 => .look RW57 (d[Int.toNat q]?) fun o => .test (o.c1 < 0) (fun h2 => .auto 4 <| .ret (.e0 (.mk f a d i j l m))) (fun h2 => .auto 3 <| .test (o.c1 ≥ p) (fun h3 => .ret (.e0 (.mk f a d i j l m))) (fun h3 => .testB (o.c1 == a) (fun h4 => .ret .e1) (fun h4 => .ret (.s0 (.mk f a d p o.c1 (w64 (s + 1)) i j l m)))))) (fun _ => .fail)) (fun h0 => .ret (.e0 (.mk f a d i j l m)))
noncomputable def L97_0 := E97_0.loop fun | .s0 x => D97_0 x | _ => .fail
theorem L97_0_ok : LU 97 0 B97 0 E97_0 L97_0 :=
  lk (L := notIn []) (fun b hb => by cases b <;> first | (cases hb; done) | (rename_i x; cases x; intro x; kernel_rfl) | (intro x; kernel_rfl))
noncomputable def N97_0.nx (n : Nat) : N97_0 → Option N97_0 | .s0 x => L97_0 n (.s0 x) | .e0 x => some (.e0 x) | .e1 => some .e1
theorem L97_0_s0 (n : Nat) (x : T97_0s0) : L97_0 (n + 1) (.s0 x) = (D97_0 x).ev (N97_0.nx n) := Ent.loop_eq fun c => by cases c <;> rfl
inductive T97_r4s0 where
  | mk (a d : Int) (f : LV) (i j l : Int) (m : LV) (o : W57)
abbrev T97_r4s0.st : T97_r4s0 → S
  | .mk a d f i j l m o => S.mk (U :: i64 a :: i64 d :: pT 0 :: U :: U :: U :: lS 50 f :: i64 i :: pT 1 :: un 83 []) [oF 3 [[i64 j, i64 l, lS 1 m]], oF 50 [W57.cells o]]
inductive T97_r4e0 where
  | mk (a d : Int) (f : LV) (i : Int) (j : Bool) (l m : Int) (o : LV) (p : W57)
inductive N97_r4 where
  | e0 (x : T97_r4e0)
abbrev N97_r4.out : N97_r4 → VX × S
  | .e0 (.mk a d f i j l m o p) => (vN, S.mk (U :: i64 a :: i64 d :: pT 0 :: U :: U :: U :: lS 50 f :: i64 i :: pT 1 :: un 28 (vb j :: un 54 [])) [oF 3 [[i64 l, i64 m, lS 1 o]], oF 50 [W57.cells p]])
abbrev E97_r4 := Ent.o1 N97_r4.out .e0 fun ⟨x⟩ => ⟨x, rfl⟩
noncomputable def D97_r4 : T97_r4s0 → PT N97_r4 | .mk i d j f l m o a => .auto 1 <| .test (a.c1 < -1) (fun h0 => .auto 9 <| .ret (.e0 (.mk i d j f true l m o a))) (fun h0 => .auto 5 <| .test (a.c1 ≥ f) (fun h1 => .auto 4 <| .ret (.e0 (.mk i d j f true l m o a))) (fun h1 => .auto 5 <| .ret (.e0 (.mk i d j f (a.c1 == d) l m o a))))
noncomputable def J97_r4 (y : T97_r4s0) : Option N97_r4 := (D97_r4 y).ev some
theorem J97_r4_ok (y : T97_r4s0) : ∀ b, J97_r4 y = some b → regP Tryz.prog X CC 97 0 B97 4 y.st = some (E97_r4.out b) := by
  cases y; exact reg_ok (E := E97_r4) (fun x => by kernel_rfl)
noncomputable def D97 (m o : Int) (j : LV) (a d : Int) : PT A97 := .auto 1 <| .test (0 ≤ a) (fun h0 => .look RW52 (j[Int.toNat a]?) fun f => .test (0 ≤ d) (fun h1 => .look RW57 (f.c0[Int.toNat d]?) fun p => .auto 1 <| .cut E97_r4 (J97_r4_ok (.mk a d f.c0 (((List.length f.c0) : Int)) m o j p)) fun | .e0 (.mk q l s t u v w y z) => .testB u (fun h2 => .ret (.a0 false)) (fun h2 => .cut E97_0 (L97_0_ok (.s0 (.mk q l s t l 0 v w y z)) rfl) fun | .e0 (.mk d0 d1 d2 d3 d4 d5 d6) => (.cut E97_r14 (J97_r14_ok (.mk d0 d1 d2 d3 d4 d5 d6)) fun | .e0 (.mk d7 d8 f0 f1 d9 i) => .testB d8 (fun h3 => .ret (.a0 false)) (fun h3 => .auto 1 <| .testB (i.c0 != 1) (fun h4 => .auto 6 <| .ret (.a0 true)) (fun h4 => .auto 5 <| .test (i.c2 > d7) (fun h5 => .auto 10 <| .ret (.a0 (decide (i.c2 < (d9.length : Int))))) (fun h5 => .auto 8 <| .ret (.a0 false))))) | .e1 => .ret (.a0 false) | _ => .fail)) (fun _ => .fail)) (fun _ => .fail)
noncomputable def F97 (a d : Int) (f : LV) (i j : Int) : Option A97 := (D97 a d f i j).ev some
theorem F97_ok (a d : Int) (f : LV) (i j : Int) : FU E97 (F97 a d f i j) 97 [V.agg [i64 a, i64 d, lS 1 f], i64 i, i64 j] := fu rfl rfl fun x => by kernel_rfl
/-! ## F165 -/
noncomputable abbrev B165 : Code := (Tryz.f165.body).getD .skip
inductive T165_c65s0 where
  | mk (a : Nat) (d : Int) (f : Bool) (i : LV) (j l : Int) (m : Bool) (o p : Int) (q s t : LV) (u : W57)
abbrev T165_c65s0.st : T165_c65s0 → S
  | .mk a d f i j l m o p q s t u => S.mk (U :: pT 0 :: U :: U :: hS 1 a :: hS 2 a :: i64 d :: U :: pT 3 :: vb f :: un 21 (lS 50 i :: i64 j :: i64 l :: un 31 (vb m :: un 52 []))) [oF 3 [[i64 o, i64 p, lS 1 q]], oT 1 s, oT 1 t, oF 50 [W57.cells u]]
inductive T165_c65e0 where
  | mk (a : Nat) (d : Int) (f : Bool) (i : LV) (j l m o : Int) (p q s : LV) (t : W57)
inductive N165_c65 where
  | e0 (x : T165_c65e0)
abbrev N165_c65.out : N165_c65 → VX × S
  | .e0 (.mk a d f i j l m o p q s t) => (vN, S.mk (U :: pT 0 :: U :: U :: hS 1 a :: hS 2 a :: i64 d :: U :: pT 3 :: vb f :: un 21 (lS 50 i :: i64 j :: i64 l :: un 84 [])) [oF 3 [[i64 m, i64 o, lS 1 p]], oT 1 q, oT 1 s, oF 50 [W57.cells t]])
abbrev E165_c65 := Ent.o1 N165_c65.out .e0 fun ⟨x⟩ => ⟨x, rfl⟩
noncomputable def D165_c65 : T165_c65s0 → PT N165_c65 | .mk f a i j l m u o p q d s t => .testB u (fun h0 => .test (0 ≤ a ∧ a < (↑f : Int)) (fun h1 => .look RW3 (d[(0 : Nat) + Int.toNat a]?) fun v => .known (decide_eq_true h1) <| .look RW3 (d[(0 : Nat) + Int.toNat a]?) fun w => .ret (.e0 (.mk f a i j l m o p q (List.set d (0 + Int.toNat a) [i64 (w64 (v.c0 + 2))]) s t))) (fun _ => .fail)) (fun h0 => .ret (.e0 (.mk f a i j l m o p q d s t)))
noncomputable def J165_c65 (y : T165_c65s0) : Option N165_c65 := (D165_c65 y).ev some
theorem J165_c65_ok (y : T165_c65s0) : CU 165 0 B165 65 E165_c65 (J165_c65 y) y.st := by
  cases y; exact cond_ok (L := notIn []) fun x => by kernel_rfl
inductive T165_c56s0 where
  | mk (a : Nat) (d : Int) (f : Bool) (i : LV) (j l : Int) (m : Bool) (o p : Int) (q s t : LV) (u : W57)
abbrev T165_c56s0.st : T165_c56s0 → S
  | .mk a d f i j l m o p q s t u => S.mk (U :: pT 0 :: U :: U :: hS 1 a :: hS 2 a :: i64 d :: U :: pT 3 :: vb f :: un 21 (lS 50 i :: i64 j :: i64 l :: un 22 (vb m :: un 61 []))) [oF 3 [[i64 o, i64 p, lS 1 q]], oT 1 s, oT 1 t, oF 50 [W57.cells u]]
inductive T165_c56e0 where
  | mk (a : Nat) (d : Int) (f : Bool) (i : LV) (j l m o : Int) (p q s : LV) (t : W57)
inductive N165_c56 where
  | e0 (x : T165_c56e0)
abbrev N165_c56.out : N165_c56 → VX × S
  | .e0 (.mk a d f i j l m o p q s t) => (vN, S.mk (U :: pT 0 :: U :: U :: hS 1 a :: hS 2 a :: i64 d :: U :: pT 3 :: vb f :: un 21 (lS 50 i :: i64 j :: i64 l :: un 84 [])) [oF 3 [[i64 m, i64 o, lS 1 p]], oT 1 q, oT 1 s, oF 50 [W57.cells t]])
abbrev E165_c56 := Ent.o1 N165_c56.out .e0 fun ⟨x⟩ => ⟨x, rfl⟩
noncomputable def D165_c56 : T165_c56s0 → PT N165_c56 | .mk f a j l m o u p q s d t i => .testB u (fun h0 => .test (0 ≤ a ∧ a < (↑f : Int)) (fun h1 => .look RW3 (d[(0 : Nat) + Int.toNat a]?) fun v => .known (decide_eq_true h1) <| .look RW3 (d[(0 : Nat) + Int.toNat a]?) fun d9 => .ret (.e0 (.mk f a j l m o p q s (List.set d (0 + Int.toNat a) [i64 (w64 (v.c0 + 1))]) t i))) (fun _ => .fail)) (fun h0 => .auto 1 <| .cut E165_c65 (J165_c65_ok (.mk f a j l m o (i.c0 == 0) p q s d t i)) fun | .e0 (.mk w y z d0 d1 d2 d3 d4 d5 d6 d7 d8) => .ret (.e0 (.mk w y z d0 d1 d2 d3 d4 d5 d6 d7 d8)))
noncomputable def J165_c56 (y : T165_c56s0) : Option N165_c56 := (D165_c56 y).ev some
theorem J165_c56_ok (y : T165_c56s0) : CU 165 0 B165 56 E165_c56 (J165_c56 y) y.st := by
  cases y; exact cond_ok (L := notIn []) fun x => by kernel_rfl
inductive T165_r8s0 where
  | mk (a : Nat) (d : Int) (f : LV) (i j l m : Int) (o p q : LV) (s : W57)
abbrev T165_r8s0.st : T165_r8s0 → S
  | .mk a d f i j l m o p q s => S.mk (U :: pT 0 :: U :: U :: hS 1 a :: hS 2 a :: i64 d :: U :: pT 3 :: un 22 (lS 50 f :: i64 i :: i64 j :: un 84 [])) [oF 3 [[i64 l, i64 m, lS 1 o]], oT 1 p, oT 1 q, oF 50 [W57.cells s]]
inductive T165_r8e0 where
  | mk (a : Nat) (d : Int) (f : Bool) (i : LV) (j l m o : Int) (p q s : LV) (t : W57)
inductive N165_r8 where
  | e0 (x : T165_r8e0)
abbrev N165_r8.out : N165_r8 → VX × S
  | .e0 (.mk a d f i j l m o p q s t) => (vN, S.mk (U :: pT 0 :: U :: U :: hS 1 a :: hS 2 a :: i64 d :: U :: pT 3 :: vb f :: un 21 (lS 50 i :: i64 j :: i64 l :: un 84 [])) [oF 3 [[i64 m, i64 o, lS 1 p]], oT 1 q, oT 1 s, oF 50 [W57.cells t]])
abbrev E165_r8 := Ent.o1 N165_r8.out .e0 fun ⟨x⟩ => ⟨x, rfl⟩
noncomputable def D165_r8 : T165_r8s0 → PT N165_r8 | .mk i d j l m o p f q s a => .auto 1 <| .testB (a.c0 == 1) (fun h0 => .auto 5 <| .test (a.c2 > d) (fun h1 => .auto 8 <| .ret (.e0 (.mk i d (decide (a.c2 < (f.length : Int))) j l m o p f q s a))) (fun h1 => .auto 6 <| .ret (.e0 (.mk i d false j l m o p f q s a)))) (fun h0 => .auto 11 <| .ret (.e0 (.mk i d false j l m o p f q s a)))
noncomputable def J165_r8 (y : T165_r8s0) : Option N165_r8 := (D165_r8 y).ev some
theorem J165_r8_ok (y : T165_r8s0) : ∀ b, J165_r8 y = some b → regP Tryz.prog X CC 165 0 B165 8 y.st = some (E165_r8.out b) := by
  cases y; exact reg_ok (E := E165_r8) (fun x => by kernel_rfl)
inductive T165_2s0 where
  | mk (a : Nat) (d : Int) (f : LV) (i j l m : Int) (o p q : LV)
inductive T165_2e0 where
  | mk (a : Nat) (d f i : Int) (j l m : LV)
inductive N165_2 where
  | s0 (x : T165_2s0)
  | e0 (x : T165_2e0)
abbrev N165_2.out : N165_2 → VX × S
  | .s0 (.mk a f i j l m o p q s) => (vN, S.mk (U :: pT 0 :: U :: U :: hS 1 a :: hS 2 a :: i64 f :: un 24 (lS 50 i :: i64 j :: i64 l :: un 84 [])) [oF 3 [[i64 m, i64 o, lS 1 p]], oT 1 q, oT 1 s])
  | .e0 (.mk d t u v w y z) => (vX 2, S.mk (U :: pT 0 :: U :: U :: hS 1 d :: hS 2 d :: i64 t :: un 111 []) [oF 3 [[i64 u, i64 v, lS 1 w]], oT 1 y, oT 1 z])
abbrev E165_2 := Ent.o2 N165_2.out .s0 .e0 (fun b => by cases b <;> simp)
noncomputable def D165_2 : T165_2s0 → PT N165_2 | .mk p q s t j u v w y z => .test (j < t) (fun h0 => .test (0 ≤ j) (fun h1 => .look RW57 (s[Int.toNat j]?) fun f1 => .auto 1 <| .cut E165_r8 (J165_r8_ok (.mk p q s t j u v w y z f1)) fun | .e0 (.mk f2 f3 f4 f5 f6 f7 f8 f9 j0 j1 j2 d0) => .auto 1 <| .cut E165_c56 (J165_c56_ok (.mk f2 f3 f4 f5 f6 f7 (d0.c0 == 1) f8 f9 j0 j1 j2 d0)) fun | .e0 (.mk f a j3 d1 d2 d3 d4 d5 d6 d i l) => .testB j3 (fun h2 => .test (0 ≤ a ∧ a < (↑f : Int)) (fun h3 => .look RW3 (d[(0 : Nat) + Int.toNat a]?) fun m => .auto 1 <| .test (0 ≤ l.c2 ∧ l.c2 < (↑f : Int)) (fun h4 => .look RW3 (d[(0 : Nat) + Int.toNat l.c2]?) fun o => .known (decide_eq_true h3) <| .look RW3 (d[(0 : Nat) + Int.toNat a]?) fun j4 => .known (decide_eq_true h3) <| .look RW3 (i[(0 : Nat) + Int.toNat a]?) fun d7 => .auto 1 <| .known (decide_eq_true h4) <| .look RW3 (i[(0 : Nat) + Int.toNat l.c2]?) fun d8 => .known (decide_eq_true h3) <| .look RW3 (i[(0 : Nat) + Int.toNat a]?) fun j5 => .known (decide_eq_true h3) <| .look RW3 ((List.set d ((0 : Nat) + Int.toNat a) [i64 (w64 (m.c0 + o.c0))])[(0 : Nat) + Int.toNat a]?) fun d9 => .known (decide_eq_true h3) <| .look RW3 ((List.set d ((0 : Nat) + Int.toNat a) [i64 (w64 (m.c0 + o.c0))])[(0 : Nat) + Int.toNat a]?) fun j6 => .ret (.s0 (.mk f a d1 d2 (w64 (d3 + 1)) d4 d5 d6 (List.set (List.set d (0 + Int.toNat a) [i64 (w64 (m.c0 + o.c0))]) (0 + Int.toNat a) [i64 (if 257 < d9.c0 then 257 else d9.c0)]) (List.set i (0 + Int.toNat a) [i64 (if d8.c0 > d7.c0 then d8.c0 else d7.c0)])))) (fun _ => .fail)) (fun _ => .fail)) (fun h2 => .test (0 ≤ a ∧ a < (↑f : Int)) (fun h3 => .look RW3 (d[(0 : Nat) + Int.toNat a]?) fun f0 => .known (decide_eq_true h3) <| .look RW3 (d[(0 : Nat) + Int.toNat a]?) fun j7 => .ret (.s0 (.mk f a d1 d2 (w64 (d3 + 1)) d4 d5 d6 (List.set d (0 + Int.toNat a) [i64 (if 257 < f0.c0 then 257 else f0.c0)]) i))) (fun _ => .fail))) (fun _ => .fail)) (fun h0 => .ret (.e0 (.mk p q u v w y z)))
noncomputable def L165_2 := E165_2.loop fun | .s0 x => D165_2 x | _ => .fail
theorem L165_2_ok : LU 165 0 B165 2 E165_2 L165_2 :=
  lk (L := notIn []) (fun b hb => by cases b <;> first | (cases hb; done) | (rename_i x; cases x; intro x; kernel_rfl) | (intro x; kernel_rfl))
noncomputable def N165_2.nx (n : Nat) : N165_2 → Option N165_2 | .s0 x => L165_2 n (.s0 x) | .e0 x => some (.e0 x)
theorem L165_2_s0 (n : Nat) (x : T165_2s0) : L165_2 (n + 1) (.s0 x) = (D165_2 x).ev (N165_2.nx n) := Ent.loop_eq fun c => by cases c <;> rfl
inductive T165_0s0 where
  | mk (a : Nat) (d f i : Int) (j l m : LV)
inductive T165_0e0 where
  | mk (a : Nat) (d f : LV)
inductive N165_0 where
  | s0 (x : T165_0s0)
  | e0 (x : T165_0e0)
abbrev N165_0.out : N165_0 → VX × S
  | .s0 (.mk a f i j l m o) => (vN, S.mk (U :: pT 0 :: U :: U :: hS 1 a :: hS 2 a :: i64 f :: un 111 []) [oF 3 [[i64 i, i64 j, lS 1 l]], oT 1 m, oT 1 o])
  | .e0 (.mk d p q) => (vX 0, S.mk (un 4 (hS 0 d :: hS 1 d :: un 112 [])) [oT 1 p, oT 1 q])
abbrev E165_0 := Ent.o2 N165_0.out .s0 .e0 (fun b => by cases b <;> simp)
noncomputable def D165_0 : T165_0s0 → PT N165_0 | .mk i d q s j l m => .test (d ≥ 0) (fun h0 => .auto 1 <| .test (0 ≤ d) (fun h1 => .look RW52 (j[Int.toNat d]?) fun o => .cut E165_2 (L165_2_ok (.s0 (.mk i d o.c0 (((List.length o.c0) : Int)) 0 q s j l m)) rfl) fun | .e0 (.mk p a t u v w f) => (.test (0 ≤ a ∧ a < (↑p : Int)) (fun h2 => .look RW3 (f[(0 : Nat) + Int.toNat a]?) fun y => .known (decide_eq_true h2) <| .look RW3 (f[(0 : Nat) + Int.toNat a]?) fun z => .ret (.s0 (.mk p (w64 (a - 1)) t u v w (List.set f (0 + Int.toNat a) [i64 (w64 (y.c0 + 1))])))) (fun _ => .fail)) | _ => .fail) (fun _ => .fail)) (fun h0 => .ret (.e0 (.mk i l m)))
noncomputable def L165_0 := E165_0.loop fun | .s0 x => D165_0 x | _ => .fail
theorem L165_0_ok : LU 165 0 B165 0 E165_0 L165_0 :=
  lk (L := notIn []) (fun b hb => by cases b <;> first | (cases hb; done) | (rename_i x; cases x; intro x; kernel_rfl) | (intro x; kernel_rfl))
noncomputable def N165_0.nx (n : Nat) : N165_0 → Option N165_0 | .s0 x => L165_0 n (.s0 x) | .e0 x => some (.e0 x)
theorem L165_0_s0 (n : Nat) (x : T165_0s0) : L165_0 (n + 1) (.s0 x) = (D165_0 x).ev (N165_0.nx n) := Ent.loop_eq fun c => by cases c <;> rfl
noncomputable def D165 (f i : Int) (a : LV) : PT A165 := .auto 1 <| .test (0 ≤ (a.length : Int) ∧ (a.length : Int) ≤ (a.length : Int) ∧ (a.length : Int) ≤ 140737488355328 ∧ (a.length : Int) * 8 ≤ 140737488355328) (fun h0 => .auto 1 <| .known (decide_eq_true h0) <| .auto 1 <| .cut E165_0 (L165_0_ok (.s0 (.mk (Int.toNat (a.length : Int)) (w64 ((a.length : Int) - 1)) f i a (List.replicate (Int.toNat (a.length : Int)) [i64 0]) (List.replicate (Int.toNat (a.length : Int)) [i64 0]))) rfl) fun | .e0 (.mk d j l) => .ret (.a0 d d j l) | _ => .fail) (fun _ => .fail)
noncomputable def F165 (a d : Int) (f : LV) : Option A165 := (D165 a d f).ev some
theorem F165_ok (a d : Int) (f : LV) : FU E165 (F165 a d f) 165 [V.agg [i64 a, i64 d, lS 1 f]] := fu rfl rfl fun x => by kernel_rfl
/-! ## F98 -/
noncomputable def D98 (f i : Int) (d : LV) (a : Int) : PT A98 := .test (a < 0) (fun h0 => .auto 6 <| .ret (.a0 0)) (fun h0 => .auto 6 <| .test (a ≥ (d.length : Int)) (fun h1 => .ret (.a0 0)) (fun h1 => .auto 1 <| .ask E165 (F165_ok f i d) fun ⟨o, j, p, l⟩ => .test (0 ≤ a ∧ a < (↑j : Int)) (fun h2 => .look RW3 (l[(0 : Nat) + Int.toNat a]?) fun m => .ret (.a0 m.c0)) (fun _ => .fail)))
noncomputable def F98 (a d : Int) (f : LV) (i : Int) : Option A98 := (D98 a d f i).ev some
theorem F98_ok (a d : Int) (f : LV) (i : Int) : FU E98 (F98 a d f i) 98 [V.agg [i64 a, i64 d, lS 1 f], i64 i] := fu rfl rfl fun x => by kernel_rfl
/-! ## F99 -/
noncomputable def D99 (f i : Int) (d : LV) (a : Int) : PT A99 := .test (a < 0) (fun h0 => .auto 6 <| .ret (.a0 0)) (fun h0 => .auto 6 <| .test (a ≥ (d.length : Int)) (fun h1 => .ret (.a0 0)) (fun h1 => .auto 1 <| .ask E165 (F165_ok f i d) fun ⟨j, o, l, p⟩ => .test (0 ≤ a ∧ a < (↑j : Int)) (fun h2 => .look RW3 (l[(0 : Nat) + Int.toNat a]?) fun m => .ret (.a0 m.c0)) (fun _ => .fail)))
noncomputable def F99 (a d : Int) (f : LV) (i : Int) : Option A99 := (D99 a d f i).ev some
theorem F99_ok (a d : Int) (f : LV) (i : Int) : FU E99 (F99 a d f i) 99 [V.agg [i64 a, i64 d, lS 1 f], i64 i] := fu rfl rfl fun x => by kernel_rfl
/-! ## F36 -/
noncomputable abbrev B36 : Code := (Tryz.f36.body).getD .skip
inductive T36_4s0 where
  | mk (a : Int) (d : LV) (f : Int) (i : LV) (j l m o : Int)
inductive T36_4e0 where
  | mk (a : Int)
inductive T36_4e1 where
  | mk (a : LV) (d f i j : Int)
inductive N36_4 where
  | s0 (x : T36_4s0)
  | e0 (x : T36_4e0)
  | e1 (x : T36_4e1)
abbrev N36_4.out : N36_4 → VX × S
  | .s0 (.mk a d i j l m o p) => (vN, S.mk (U :: pT 0 :: U :: U :: U :: i64 a :: un 43 (lS 1 d :: i64 i :: i64 a :: un 5 (lS 50 j :: i64 l :: i64 m :: un 22 []))) [oF 3 [[i64 o, i64 p, lS 1 d]]])
  | .e0 (.mk q) => (VX.ret, S.mk (U :: U :: i64 q :: un 79 []) [])
  | .e1 (.mk f s t u v) => (vX 4, S.mk (U :: pT 0 :: un 47 (lS 1 f :: i64 s :: i64 t :: un 30 [])) [oF 3 [[i64 u, i64 v, lS 1 f]]])
abbrev E36_4 := Ent.o3 N36_4.out .s0 .e0 .e1 (fun b => by cases b <;> simp)
noncomputable def D36_4 : T36_4s0 → PT N36_4 | .mk d f l m o a i j => .test (a < o) (fun h0 => .test (0 ≤ a) (fun h1 => .look RW57 (m[Int.toNat a]?) fun p => .auto 2 <| .ask E96 (F96_ok p) fun ⟨q⟩ => .testB (!q) (fun h2 => .ret (.e0 (.mk 14))) (fun h2 => .auto 1 <| .ask E97 (F97_ok i j f d a) fun ⟨s⟩ => .testB (!s) (fun h3 => .ret (.e0 (.mk 15))) (fun h3 => .ret (.s0 (.mk d f l m o (w64 (a + 1)) i j))))) (fun _ => .fail)) (fun h0 => .ret (.e1 (.mk f l d i j)))
noncomputable def L36_4 := E36_4.loop fun | .s0 x => D36_4 x | _ => .fail
theorem L36_4_ok : LU 36 0 B36 4 E36_4 L36_4 :=
  lk (L := notIn []) (fun b hb => by cases b <;> first | (cases hb; done) | (rename_i x; cases x; intro x; kernel_rfl) | (intro x; kernel_rfl))
noncomputable def N36_4.nx (n : Nat) : N36_4 → Option N36_4 | .s0 x => L36_4 n (.s0 x) | .e0 x => some (.e0 x) | .e1 x => some (.e1 x)
theorem L36_4_s0 (n : Nat) (x : T36_4s0) : L36_4 (n + 1) (.s0 x) = (D36_4 x).ev (N36_4.nx n) := Ent.loop_eq fun c => by cases c <;> rfl
inductive T36_2s0 where
  | mk (a : LV) (d f i j : Int)
inductive T36_2e0 where
  | mk (a : Int)
inductive T36_2e1 where
  | mk (a d : Int) (f : LV)
inductive N36_2 where
  | s0 (x : T36_2s0)
  | e0 (x : T36_2e0)
  | e1 (x : T36_2e1)
abbrev N36_2.out : N36_2 → VX × S
  | .s0 (.mk a d f i j) => (vN, S.mk (U :: pT 0 :: un 47 (lS 1 a :: i64 d :: i64 f :: un 30 [])) [oF 3 [[i64 i, i64 j, lS 1 a]]])
  | .e0 (.mk l) => (VX.ret, S.mk (U :: U :: i64 l :: un 79 []) [])
  | .e1 (.mk m o p) => (vX 2, S.mk (U :: pT 0 :: un 80 []) [oF 3 [[i64 m, i64 o, lS 1 p]]])
abbrev E36_2 := Ent.o3 N36_2.out .s0 .e0 .e1 (fun b => by cases b <;> simp)
noncomputable def D36_2 : T36_2s0 → PT N36_2 | .mk d f a i j => .test (a < f) (fun h0 => .test (0 ≤ a) (fun h1 => .look RW52 (d[Int.toNat a]?) fun l => .auto 2 <| .cut E36_4 (L36_4_ok (.s0 (.mk a d f l.c0 (((List.length l.c0) : Int)) 0 i j)) rfl) fun | .e0 (.mk m) => .ret (.e0 (.mk m)) | .e1 (.mk o p q s t) => .ret (.s0 (.mk o p (w64 (q + 1)) s t)) | _ => .fail) (fun _ => .fail)) (fun h0 => .ret (.e1 (.mk i j d)))
noncomputable def L36_2 := E36_2.loop fun | .s0 x => D36_2 x | _ => .fail
theorem L36_2_ok : LU 36 0 B36 2 E36_2 L36_2 :=
  lk (L := notIn []) (fun b hb => by cases b <;> first | (cases hb; done) | (rename_i x; cases x; intro x; kernel_rfl) | (intro x; kernel_rfl))
noncomputable def N36_2.nx (n : Nat) : N36_2 → Option N36_2 | .s0 x => L36_2 n (.s0 x) | .e0 x => some (.e0 x) | .e1 x => some (.e1 x)
theorem L36_2_s0 (n : Nat) (x : T36_2s0) : L36_2 (n + 1) (.s0 x) = (D36_2 x).ev (N36_2.nx n) := Ent.loop_eq fun c => by cases c <;> rfl
inductive T36_r9s0 where
  | mk (a d : Int) (f : LV)
abbrev T36_r9s0.st : T36_r9s0 → S
  | .mk a d f => S.mk (U :: pT 0 :: un 80 []) [oF 3 [[i64 a, i64 d, lS 1 f]]]
inductive T36_r9e0 where
  | mk (a : Bool) (d f : Int) (i : LV)
inductive N36_r9 where
  | e0 (x : T36_r9e0)
abbrev N36_r9.out : N36_r9 → VX × S
  | .e0 (.mk a d f i) => (vN, S.mk (U :: pT 0 :: un 45 (vb a :: un 34 [])) [oF 3 [[i64 d, i64 f, lS 1 i]]])
abbrev E36_r9 := Ent.o1 N36_r9.out .e0 fun ⟨x⟩ => ⟨x, rfl⟩
noncomputable def D36_r9 : T36_r9s0 → PT N36_r9 | .mk a d f => .auto 1 <| .tot O95 (F95_ok a) fun i => .testB (!i) (fun h0 => .auto 10 <| .ret (.e0 (.mk true a d f))) (fun h0 => .auto 3 <| .tot O95 (F95_ok d) fun j => .auto 2 <| .testB (!j) (fun h1 => .auto 5 <| .ret (.e0 (.mk true a d f))) (fun h1 => .auto 7 <| .ret (.e0 (.mk (decide (a ≥ d)) a d f))))
noncomputable def J36_r9 (y : T36_r9s0) : Option N36_r9 := (D36_r9 y).ev some
theorem J36_r9_ok (y : T36_r9s0) : ∀ b, J36_r9 y = some b → regP Tryz.prog X CC 36 0 B36 9 y.st = some (E36_r9.out b) := by
  cases y; exact reg_ok (E := E36_r9) (fun x => by kernel_rfl)
inductive T36_0s0 where
  | mk (a : LV) (d f i j : Int)
inductive T36_0e1 where
  | mk (a d : Int) (f : LV)
inductive N36_0 where
  | s0 (x : T36_0s0)
  | e0
  | e1 (x : T36_0e1)
abbrev N36_0.out : N36_0 → VX × S
  | .s0 (.mk a d f i j) => (vN, S.mk (U :: pT 0 :: un 18 (lS 1 a :: i64 d :: i64 f :: un 59 [])) [oF 3 [[i64 i, i64 j, lS 1 a]]])
  | .e0 => (VX.ret, S.mk (U :: U :: i64 23 :: un 79 []) [])
  | .e1 (.mk l m o) => (vX 0, S.mk (U :: pT 0 :: un 80 []) [oF 3 [[i64 l, i64 m, lS 1 o]]])
abbrev E36_0 := Ent.o3 N36_0.out .s0 (fun (_ : Unit) => .e0) .e1 (fun b => by cases b <;> simp)
noncomputable def D36_0 : T36_0s0 → PT N36_0 | .mk d f a i j => .test (a < f) (fun h0 => .test (0 ≤ a) (fun h1 => .look RW52 (d[Int.toNat a]?) fun l => .auto 2 <| .test (((List.length l.c0) : Int) > 16) (fun h2 => .ret .e0) (fun h2 => .ret (.s0 (.mk d f (w64 (a + 1)) i j)))) (fun _ => .fail)) (fun h0 => .ret (.e1 (.mk i j d)))
noncomputable def L36_0 := E36_0.loop fun | .s0 x => D36_0 x | _ => .fail
theorem L36_0_ok : LU 36 0 B36 0 E36_0 L36_0 :=
  lk (L := notIn []) (fun b hb => by cases b <;> first | (cases hb; done) | (rename_i x; cases x; intro x; kernel_rfl) | (intro x; kernel_rfl))
noncomputable def N36_0.nx (n : Nat) : N36_0 → Option N36_0 | .s0 x => L36_0 n (.s0 x) | .e0 => some .e0 | .e1 x => some (.e1 x)
theorem L36_0_s0 (n : Nat) (x : T36_0s0) : L36_0 (n + 1) (.s0 x) = (D36_0 x).ev (N36_0.nx n) := Ent.loop_eq fun c => by cases c <;> rfl
inductive T36_r1s0 where
  | mk (a d : Int) (f : LV)
abbrev T36_r1s0.st : T36_r1s0 → S
  | .mk a d f => S.mk (U :: pT 0 :: un 80 []) [oF 3 [[i64 a, i64 d, lS 1 f]]]
inductive T36_r1e0 where
  | mk (a : Bool) (d f : Int) (i : LV)
inductive N36_r1 where
  | e0 (x : T36_r1e0)
abbrev N36_r1.out : N36_r1 → VX × S
  | .e0 (.mk a d f i) => (vN, S.mk (U :: pT 0 :: un 16 (vb a :: un 63 [])) [oF 3 [[i64 d, i64 f, lS 1 i]]])
abbrev E36_r1 := Ent.o1 N36_r1.out .e0 fun ⟨x⟩ => ⟨x, rfl⟩
noncomputable def D36_r1 : T36_r1s0 → PT N36_r1 | .mk d f a => .auto 1 <| .test ((a.length : Int) < 1) (fun h0 => .auto 4 <| .ret (.e0 (.mk true d f a))) (fun h0 => .auto 5 <| .ret (.e0 (.mk (decide ((a.length : Int) > 8)) d f a)))
noncomputable def J36_r1 (y : T36_r1s0) : Option N36_r1 := (D36_r1 y).ev some
theorem J36_r1_ok (y : T36_r1s0) : ∀ b, J36_r1 y = some b → regP Tryz.prog X CC 36 0 B36 1 y.st = some (E36_r1.out b) := by
  cases y; exact reg_ok (E := E36_r1) (fun x => by kernel_rfl)
noncomputable def D36 (l m : Int) (o : LV) : PT A36 := .cut E36_r1 (J36_r1_ok (.mk l m o)) fun | .e0 (.mk p q s a) => .testB p (fun h0 => .ret (.a0 23)) (fun h0 => .auto 1 <| .cut E36_0 (L36_0_ok (.s0 (.mk a ((a.length : Int)) 0 q s)) rfl) fun | .e0 => .ret (.a0 23) | .e1 (.mk t u v) => (.cut E36_r9 (J36_r9_ok (.mk t u v)) fun | .e0 (.mk w y z d) => .testB w (fun h1 => .ret (.a0 1)) (fun h1 => .auto 1 <| .cut E36_2 (L36_2_ok (.s0 (.mk d ((d.length : Int)) 0 y z)) rfl) fun | .e0 (.mk d0) => .ret (.a0 d0) | .e1 (.mk f i j) => (.auto 1 <| .ask E98 (F98_ok f i j 0) fun ⟨d1⟩ => .test (d1 > 4) (fun h2 => .auto 4 <| .ret (.a0 24)) (fun h2 => .auto 2 <| .ask E99 (F99_ok f i j 0) fun ⟨d2⟩ => .auto 2 <| .test (d2 > 256) (fun h3 => .ret (.a0 24)) (fun h3 => .ret (.a0 0)))) | _ => .fail)) | _ => .fail)
noncomputable def F36 (a d : Int) (f : LV) : Option A36 := (D36 a d f).ev some
theorem F36_ok (a d : Int) (f : LV) : FU E36 (F36 a d f) 36 [V.agg [i64 a, i64 d, lS 1 f]] := fu rfl rfl fun x => by kernel_rfl
/-! ## F78 -/
noncomputable def D78 : PT W59 := .auto 1 <| .ret (W59.mk 65536 0 0 65536 0 0)
abbrev O78 (a : W59) : V × Store := (V.agg (W59.cells a), [])
noncomputable def F78 : W59 := (D78).evT
theorem F78_ok : UU 78 ([]) ([]) = some (O78 F78) :=
  fnT_ok (out := O78) (L := notIn []) rfl rfl (fun x => by kernel_rfl) (by simp [D78, PT.isT])
/-! ## F213 -/
noncomputable def D213 (a : LV) : PT Bool := .auto 1 <| .ret (decide ((a.length : Int) > 16))
abbrev O213 (a : Bool) : V × Store := (vb a, [])
noncomputable def F213 (a : LV) : Bool := (D213 a).evT
theorem F213_ok (a : LV) : UU 213 ([V.agg [lS 50 a]]) ([]) = some (O213 (F213 a)) :=
  fnT_ok (out := O213) (L := notIn []) rfl rfl (fun x => by kernel_rfl) (by simp [D213, PT.isT])
/-! ## F252 -/
noncomputable abbrev B252 : Code := (Tryz.f252.body).getD .skip
inductive T252_0s0 where
  | mk (a : LV) (d f : Int)
inductive T252_0e0 where
  | mk (a : Int)
inductive N252_0 where
  | s0 (x : T252_0s0)
  | e0 (x : T252_0e0)
  | e1
abbrev N252_0.out : N252_0 → VX × S
  | .s0 (.mk a d f) => (vN, S.mk (lS 1 a :: V.fn 213 [] :: un 5 (i64 d :: i64 f :: un 10 [])) [])
  | .e0 (.mk i) => (VX.ret, S.mk (un 4 (i64 i :: un 14 [])) [])
  | .e1 => (vX 0, S.mk (un 19 []) [])
abbrev E252_0 := Ent.o3 N252_0.out .s0 .e0 (fun (_ : Unit) => .e1) (fun b => by cases b <;> simp)
noncomputable def D252_0 : T252_0s0 → PT N252_0 | .mk d f a => .test (a < f) (fun h0 => .test (0 ≤ a) (fun h1 => .look RW52 (d[Int.toNat a]?) fun i => .tot O213 (F213_ok i.c0) fun j => .testB j (fun h2 => .ret (.e0 (.mk a))) (fun h2 => .ret (.s0 (.mk d f (w64 (a + 1)))))) (fun _ => .fail)) (fun h0 => .ret .e1)
noncomputable def L252_0 := E252_0.loop fun | .s0 x => D252_0 x | _ => .fail
theorem L252_0_ok : LU 252 0 B252 0 E252_0 L252_0 :=
  lk (L := notIn []) (fun b hb => by cases b <;> first | (cases hb; done) | (rename_i x; cases x; intro x; kernel_rfl) | (intro x; kernel_rfl))
noncomputable def N252_0.nx (n : Nat) : N252_0 → Option N252_0 | .s0 x => L252_0 n (.s0 x) | .e0 x => some (.e0 x) | .e1 => some .e1
theorem L252_0_s0 (n : Nat) (x : T252_0s0) : L252_0 (n + 1) (.s0 x) = (D252_0 x).ev (N252_0.nx n) := Ent.loop_eq fun c => by cases c <;> rfl
noncomputable def D252 (a : LV) : PT A252 := .cut E252_0 (L252_0_ok (.s0 (.mk a ((a.length : Int)) 0)) rfl) fun | .e0 (.mk d) => .ret (.a0 d) | .e1 => .ret (.a0 (-1)) | _ => .fail
noncomputable def F252 (a : LV) : Option A252 := (D252 a).ev some
theorem F252_ok (a : LV) : FU E252 (F252 a) 252 [lS 1 a, V.fn 213 []] := fu rfl rfl fun x => by kernel_rfl
/-! ## F212 -/
noncomputable def D212 (a : LV) : PT A212 := .ask E252 (F252_ok a) fun ⟨d⟩ => .ret (.a0 (decide (d ≥ 0)))
noncomputable def F212 (a : LV) : Option A212 := (D212 a).ev some
theorem F212_ok (a : LV) : FU E212 (F212 a) 212 [lS 1 a, V.fn 213 []] := fu rfl rfl fun x => by kernel_rfl
/-! ## F214 -/
noncomputable def D214 (a : Int) : PT Bool := .test (a ≥ -1073741824) (fun h0 => .auto 2 <| .ret (decide (a ≤ 1073741824))) (fun h0 => .auto 2 <| .ret false)
abbrev O214 (a : Bool) : V × Store := (vb a, [])
noncomputable def F214 (a : Int) : Bool := (D214 a).evT
theorem F214_ok (a : Int) : UU 214 ([i64 a]) ([]) = some (O214 (F214 a)) :=
  fnT_ok (out := O214) (L := notIn []) rfl rfl (fun x => by kernel_rfl) (by simp [D214, PT.isT])
/-! ## F228 -/
noncomputable def D228 (a : Int) : PT Bool := .test (a ≥ -67108864) (fun h0 => .auto 2 <| .ret (decide (a ≤ 67108864))) (fun h0 => .auto 2 <| .ret false)
abbrev O228 (a : Bool) : V × Store := (vb a, [])
noncomputable def F228 (a : Int) : Bool := (D228 a).evT
theorem F228_ok (a : Int) : UU 228 ([i64 a]) ([]) = some (O228 (F228 a)) :=
  fnT_ok (out := O228) (L := notIn []) rfl rfl (fun x => by kernel_rfl) (by simp [D228, PT.isT])
/-! ## F227 -/
noncomputable def D227 (a d : Int) : PT Bool := .auto 1 <| .tot O228 (F228_ok a) fun f => .testB (!f) (fun h0 => .auto 4 <| .ret true) (fun h0 => .auto 3 <| .tot O228 (F228_ok d) fun i => .auto 2 <| .ret (!i))
abbrev O227 (a : Bool) : V × Store := (vb a, [])
noncomputable def F227 (a d : Int) : Bool := (D227 a d).evT
theorem F227_ok (a d : Int) : UU 227 ([V.agg [i64 a, i64 d]]) ([]) = some (O227 (F227 a d)) :=
  fnT_ok (out := O227) (L := notIn []) rfl rfl (fun x => by kernel_rfl) (by simp [D227, PT.isT])
/-! ## F262 -/
noncomputable abbrev B262 : Code := (Tryz.f262.body).getD .skip
inductive T262_0s0 where
  | mk (a : LV) (d f : Int)
inductive T262_0e0 where
  | mk (a : Int)
inductive N262_0 where
  | s0 (x : T262_0s0)
  | e0 (x : T262_0e0)
  | e1
abbrev N262_0.out : N262_0 → VX × S
  | .s0 (.mk a d f) => (vN, S.mk (lS 2 a :: V.fn 227 [] :: un 5 (i64 d :: i64 f :: un 10 [])) [])
  | .e0 (.mk i) => (VX.ret, S.mk (un 4 (i64 i :: un 14 [])) [])
  | .e1 => (vX 0, S.mk (un 19 []) [])
abbrev E262_0 := Ent.o3 N262_0.out .s0 .e0 (fun (_ : Unit) => .e1) (fun b => by cases b <;> simp)
noncomputable def D262_0 : T262_0s0 → PT N262_0 | .mk d f a => .test (a < f) (fun h0 => .test (0 ≤ a) (fun h1 => .look RW28 (d[Int.toNat a]?) fun i => .tot O227 (F227_ok i.c0 i.c1) fun j => .testB j (fun h2 => .ret (.e0 (.mk a))) (fun h2 => .ret (.s0 (.mk d f (w64 (a + 1)))))) (fun _ => .fail)) (fun h0 => .ret .e1)
noncomputable def L262_0 := E262_0.loop fun | .s0 x => D262_0 x | _ => .fail
theorem L262_0_ok : LU 262 0 B262 0 E262_0 L262_0 :=
  lk (L := notIn []) (fun b hb => by cases b <;> first | (cases hb; done) | (rename_i x; cases x; intro x; kernel_rfl) | (intro x; kernel_rfl))
noncomputable def N262_0.nx (n : Nat) : N262_0 → Option N262_0 | .s0 x => L262_0 n (.s0 x) | .e0 x => some (.e0 x) | .e1 => some .e1
theorem L262_0_s0 (n : Nat) (x : T262_0s0) : L262_0 (n + 1) (.s0 x) = (D262_0 x).ev (N262_0.nx n) := Ent.loop_eq fun c => by cases c <;> rfl
noncomputable def D262 (a : LV) : PT A262 := .cut E262_0 (L262_0_ok (.s0 (.mk a ((a.length : Int)) 0)) rfl) fun | .e0 (.mk d) => .ret (.a0 d) | .e1 => .ret (.a0 (-1)) | _ => .fail
noncomputable def F262 (a : LV) : Option A262 := (D262 a).ev some
theorem F262_ok (a : LV) : FU E262 (F262 a) 262 [lS 2 a, V.fn 227 []] := fu rfl rfl fun x => by kernel_rfl
/-! ## F226 -/
noncomputable def D226 (a : LV) : PT A226 := .ask E262 (F262_ok a) fun ⟨d⟩ => .ret (.a0 (decide (d ≥ 0)))
noncomputable def F226 (a : LV) : Option A226 := (D226 a).ev some
theorem F226_ok (a : LV) : FU E226 (F226 a) 226 [lS 2 a, V.fn 227 []] := fu rfl rfl fun x => by kernel_rfl
/-! ## F177 -/
noncomputable def D177 (d : Bool) (a : LV) : PT A177 := .auto 1 <| .testB ((a.length : Int) == 0) (fun h0 => .auto 1 <| .ret (.a0 (!d))) (fun h0 => .test ((a.length : Int) ≥ 4) (fun h1 => .auto 2 <| .test ((a.length : Int) ≤ 97) (fun h2 => .auto 4 <| .testB (Int.tmod (a.length : Int) 3 == 1) (fun h3 => .auto 3 <| .ask E226 (F226_ok a) fun ⟨f⟩ => .auto 2 <| .ret (.a0 (!f))) (fun h3 => .auto 4 <| .ret (.a0 false))) (fun h2 => .auto 8 <| .ret (.a0 false))) (fun h1 => .auto 11 <| .ret (.a0 false)))
noncomputable def F177 (a : Bool) (d : LV) : Option A177 := (D177 a d).ev some
theorem F177_ok (a : Bool) (d : LV) : FU E177 (F177 a d) 177 [V.agg [vb a, lS 2 d]] := fu rfl rfl fun x => by kernel_rfl
/-! ## F146 -/
noncomputable def D146 (d : Bool) (a : LV) : PT Bool := .auto 1 <| .ret ((a.length : Int) == 0)
abbrev O146 (a : Bool) : V × Store := (vb a, [])
noncomputable def F146 (a : Bool) (d : LV) : Bool := (D146 a d).evT
theorem F146_ok (a : Bool) (d : LV) : UU 146 ([V.agg [vb a, lS 2 d]]) ([]) = some (O146 (F146 a d)) :=
  fnT_ok (out := O146) (L := notIn []) rfl rfl (fun x => by kernel_rfl) (by simp [D146, PT.isT])
/-! ## F277 -/
noncomputable def D277 (a : W57) : PT A277 := .auto 9 <| .ret (.a0 9 ([[lS 7 a.c7], [lS 7 a.c8], [lS 7 a.c9], [lS 7 a.c10], [lS 7 a.c11], [lS 7 a.c12], [lS 7 a.c13], [lS 7 a.c14], [lS 7 a.c15]]))
noncomputable def F277 (a : W57) : Option A277 := (D277 a).ev some
theorem F277_ok (a : W57) : FU E277 (F277 a) 277 [V.agg (W57.cells a)] := fu rfl rfl fun x => by kernel_rfl
/-! ## F229 -/
noncomputable def D229 (a d f : Int) : PT Bool := .test (a ≥ d) (fun h0 => .auto 3 <| .ret (decide (a ≤ f))) (fun h0 => .auto 3 <| .ret false)
abbrev O229 (a : Bool) : V × Store := (vb a, [])
noncomputable def F229 (a d f : Int) : Bool := (D229 a d f).evT
theorem F229_ok (a d f : Int) : UU 229 ([i64 a, i64 d, i64 f]) ([]) = some (O229 (F229 a d f)) :=
  fnT_ok (out := O229) (L := notIn []) rfl rfl (fun x => by kernel_rfl) (by simp [D229, PT.isT])
/-! ## F179 -/
noncomputable def D179 (a d f i : Int) : PT Bool := .auto 1 <| .tot O229 (F229_ok a 0 65536) fun j => .testB j (fun h0 => .auto 4 <| .tot O229 (F229_ok f 0 65536) fun l => .auto 1 <| .testB l (fun h1 => .auto 4 <| .tot O229 (F229_ok d (-131072) 196608) fun m => .auto 1 <| .testB m (fun h2 => .auto 4 <| .tot O229 (F229_ok i (-131072) 196608) fun o => .auto 1 <| .ret o) (fun h2 => .auto 4 <| .ret false)) (fun h1 => .auto 9 <| .ret false)) (fun h0 => .auto 14 <| .ret false)
abbrev O179 (a : Bool) : V × Store := (vb a, [])
noncomputable def F179 (a d f i : Int) : Bool := (D179 a d f i).evT
theorem F179_ok (a d f i : Int) : UU 179 ([V.agg [i64 a, i64 d, i64 f, i64 i]]) ([]) = some (O179 (F179 a d f i)) :=
  fnT_ok (out := O179) (L := notIn []) rfl rfl (fun x => by kernel_rfl) (by simp [D179, PT.isT])
/-! ## F114 -/
noncomputable abbrev B114 : Code := (Tryz.f114.body).getD .skip
inductive T114_r1s0 where
  | mk (a d f i j l m o : Int)
abbrev T114_r1s0.st : T114_r1s0 → S
  | .mk a d f i j l m o => S.mk (i64 a :: i64 d :: i64 f :: i64 i :: un 5 (pT 0 :: un 33 [])) [oF 4 [[i64 j, i64 l, i64 m, i64 o]]]
inductive T114_r1e0 where
  | mk (a : Int) (d : Bool) (f i j l : Int)
inductive N114_r1 where
  | e0 (x : T114_r1e0)
abbrev N114_r1.out : N114_r1 → VX × S
  | .e0 (.mk a d f i j l) => (vN, S.mk (U :: U :: U :: i64 a :: un 5 (pT 0 :: U :: vb d :: un 31 [])) [oF 4 [[i64 f, i64 i, i64 j, i64 l]]])
abbrev E114_r1 := Ent.o1 N114_r1.out .e0 fun ⟨x⟩ => ⟨x, rfl⟩
noncomputable def D114_r1 : T114_r1s0 → PT N114_r1 | .mk m o l a d f i j => .test (l < -1073741824) (fun h0 => .auto 7 <| .ret (.e0 (.mk a true d f i j))) (fun h0 => .auto 2 <| .test (l > 1073741824) (fun h1 => .auto 4 <| .ret (.e0 (.mk a true d f i j))) (fun h1 => .auto 2 <| .test (m > 0) (fun h2 => .auto 5 <| .ret (.e0 (.mk a (decide (l ≤ o)) d f i j))) (fun h2 => .auto 5 <| .ret (.e0 (.mk a false d f i j)))))
noncomputable def J114_r1 (y : T114_r1s0) : Option N114_r1 := (D114_r1 y).ev some
theorem J114_r1_ok (y : T114_r1s0) : ∀ b, J114_r1 y = some b → regP Tryz.prog X CC 114 0 B114 1 y.st = some (E114_r1.out b) := by
  cases y; exact reg_ok (E := E114_r1) (fun x => by kernel_rfl)
noncomputable def D114 (l m o p q s t u : Int) : PT A114 := .cut E114_r1 (J114_r1_ok (.mk l m o p q s t u)) fun | .e0 (.mk a v d f i j) => .testB v (fun h0 => .ret (.a0 false)) (fun h0 => .testB (a == 2) (fun h1 => .auto 1 <| .tot O179 (F179_ok d f i j) fun w => .ret (.a0 w)) (fun h1 => .testB (a == 0) (fun h2 => .auto 7 <| .ret (.a0 (d == 0 && (f == 0 && (i == 0 && (j == 0 && true)))))) (fun h2 => .auto 2 <| .testB (a == 1) (fun h3 => .auto 4 <| .ret (.a0 (d == 0 && (f == 0 && (i == 0 && (j == 0 && true)))))) (fun h3 => .auto 3 <| .ret (.a0 false)))))
noncomputable def F114 (a d f i j l m o : Int) : Option A114 := (D114 a d f i j l m o).ev some
theorem F114_ok (a d f i j l m o : Int) : FU E114 (F114 a d f i j l m o) 114 [i64 a, i64 d, i64 f, i64 i, V.agg [i64 j, i64 l, i64 m, i64 o]] := fu rfl rfl fun x => by kernel_rfl
/-! ## F56 -/
noncomputable abbrev B56 : Code := (Tryz.f56.body).getD .skip
inductive T56_0s0 where
  | mk (a : LV) (d f i : Int)
inductive T56_0e1 where
  | mk (a : LV)
inductive N56_0 where
  | s0 (x : T56_0s0)
  | e0
  | e1 (x : T56_0e1)
abbrev N56_0.out : N56_0 → VX × S
  | .s0 (.mk a d f i) => (vN, S.mk (lS 7 a :: U :: U :: i64 d :: U :: U :: lS 7 a :: i64 f :: i64 i :: un 30 []) [])
  | .e0 => (VX.ret, S.mk (U :: U :: vb false :: un 36 []) [])
  | .e1 (.mk j) => (vX 0, S.mk (lS 7 j :: un 38 []) [])
abbrev E56_0 := Ent.o3 N56_0.out .s0 (fun (_ : Unit) => .e0) .e1 (fun b => by cases b <;> simp)
noncomputable def D56_0 : T56_0s0 → PT N56_0 | .mk f j i d => .test (d < i) (fun h0 => .test (0 ≤ d) (fun h1 => .look RW74 (f[Int.toNat d]?) fun a => .auto 4 <| .ask E114 (F114_ok d j a.c0 a.c2 a.c3 a.c4 a.c5 a.c6) fun ⟨l⟩ => .testB (!l) (fun h2 => .auto 8 <| .ret .e0) (fun h2 => .auto 4 <| .test (a.c1 < -67108864) (fun h3 => .auto 4 <| .ret .e0) (fun h3 => .auto 4 <| .test (a.c1 > 67108864) (fun h4 => .ret .e0) (fun h4 => .auto 1 <| .ret (.s0 (.mk f a.c0 i (w64 (d + 1)))))))) (fun _ => .fail)) (fun h0 => .ret (.e1 (.mk f)))
noncomputable def L56_0 := E56_0.loop fun | .s0 x => D56_0 x | _ => .fail
theorem L56_0_ok : LU 56 0 B56 0 E56_0 L56_0 :=
  lk (L := notIn []) (fun b hb => by cases b <;> first | (cases hb; done) | (rename_i x; cases x; intro x; kernel_rfl) | (intro x; kernel_rfl))
noncomputable def N56_0.nx (n : Nat) : N56_0 → Option N56_0 | .s0 x => L56_0 n (.s0 x) | .e0 => some .e0 | .e1 x => some (.e1 x)
theorem L56_0_s0 (n : Nat) (x : T56_0s0) : L56_0 (n + 1) (.s0 x) = (D56_0 x).ev (N56_0.nx n) := Ent.loop_eq fun c => by cases c <;> rfl
noncomputable def D56 (a : LV) : PT A56 := .cut E56_0 (L56_0_ok (.s0 (.mk a 0 ((a.length : Int)) 0)) rfl) fun | .e0 => .ret (.a0 false) | .e1 (.mk d) => .ret (.a0 (decide ((d.length : Int) ≤ 32))) | _ => .fail
noncomputable def F56 (a : LV) : Option A56 := (D56 a).ev some
theorem F56_ok (a : LV) : FU E56 (F56 a) 56 [lS 7 a] := fu rfl rfl fun x => by kernel_rfl
/-! ## F278 -/
noncomputable def D278 (a : LV) : PT A278 := .ask E56 (F56_ok a) fun ⟨d⟩ => .ret (.a0 (!d))
noncomputable def F278 (a : LV) : Option A278 := (D278 a).ev some
theorem F278_ok (a : LV) : FU E278 (F278 a) 278 [lS 7 a] := fu rfl rfl fun x => by kernel_rfl
/-! ## F289 -/
noncomputable abbrev B289 : Code := (Tryz.f289.body).getD .skip
inductive T289_0s0 where
  | mk (a : LV) (d f : Int)
inductive T289_0e0 where
  | mk (a : Int)
inductive N289_0 where
  | s0 (x : T289_0s0)
  | e0 (x : T289_0e0)
  | e1
abbrev N289_0.out : N289_0 → VX × S
  | .s0 (.mk a d f) => (vN, S.mk (lS 1 a :: V.fn 278 [] :: un 5 (i64 d :: i64 f :: un 10 [])) [])
  | .e0 (.mk i) => (VX.ret, S.mk (un 4 (i64 i :: un 14 [])) [])
  | .e1 => (vX 0, S.mk (un 19 []) [])
abbrev E289_0 := Ent.o3 N289_0.out .s0 .e0 (fun (_ : Unit) => .e1) (fun b => by cases b <;> simp)
noncomputable def D289_0 : T289_0s0 → PT N289_0 | .mk d f a => .test (a < f) (fun h0 => .test (0 ≤ a) (fun h1 => .look RW23 (d[Int.toNat a]?) fun i => .ask E278 (F278_ok i.c0) fun ⟨j⟩ => .testB j (fun h2 => .ret (.e0 (.mk a))) (fun h2 => .ret (.s0 (.mk d f (w64 (a + 1)))))) (fun _ => .fail)) (fun h0 => .ret .e1)
noncomputable def L289_0 := E289_0.loop fun | .s0 x => D289_0 x | _ => .fail
theorem L289_0_ok : LU 289 0 B289 0 E289_0 L289_0 :=
  lk (L := notIn []) (fun b hb => by cases b <;> first | (cases hb; done) | (rename_i x; cases x; intro x; kernel_rfl) | (intro x; kernel_rfl))
noncomputable def N289_0.nx (n : Nat) : N289_0 → Option N289_0 | .s0 x => L289_0 n (.s0 x) | .e0 x => some (.e0 x) | .e1 => some .e1
theorem L289_0_s0 (n : Nat) (x : T289_0s0) : L289_0 (n + 1) (.s0 x) = (D289_0 x).ev (N289_0.nx n) := Ent.loop_eq fun c => by cases c <;> rfl
noncomputable def D289 (a : LV) : PT A289 := .cut E289_0 (L289_0_ok (.s0 (.mk a ((a.length : Int)) 0)) rfl) fun | .e0 (.mk d) => .ret (.a0 d) | .e1 => .ret (.a0 (-1)) | _ => .fail
noncomputable def F289 (a : LV) : Option A289 := (D289 a).ev some
theorem F289_ok (a : LV) : FU E289 (F289 a) 289 [lS 1 a, V.fn 278 []] := fu rfl rfl fun x => by kernel_rfl
/-! ## F276 -/
noncomputable def D276 (a : LV) : PT A276 := .ask E289 (F289_ok a) fun ⟨d⟩ => .ret (.a0 (decide (d ≥ 0)))
noncomputable def F276 (a : LV) : Option A276 := (D276 a).ev some
theorem F276_ok (a : LV) : FU E276 (F276 a) 276 [lS 1 a, V.fn 278 []] := fu rfl rfl fun x => by kernel_rfl
/-! ## F290 -/
noncomputable abbrev B290 : Code := (Tryz.f290.body).getD .skip
inductive T290_0s0 where
  | mk (a d : LV) (f i : Int)
inductive N290_0 where
  | s0 (x : T290_0s0)
  | e0
  | e1
abbrev N290_0.out : N290_0 → VX × S
  | .s0 (.mk a d f i) => (vN, S.mk (lS 7 a :: lS 7 d :: un 10 (i64 f :: i64 i :: un 12 [])) [])
  | .e0 => (VX.ret, S.mk (un 4 (vb false :: un 21 [])) [])
  | .e1 => (vX 0, S.mk (un 26 []) [])
abbrev E290_0 := Ent.o3 N290_0.out .s0 (fun (_ : Unit) => .e0) (fun (_ : Unit) => .e1) (fun b => by cases b <;> simp)
noncomputable def D290_0 : T290_0s0 → PT N290_0 | .mk i j l f => .test (f < l) (fun h0 => .test (0 ≤ f) (fun h1 => .look RW74 (i[Int.toNat f]?) fun a => .known (decide_eq_true h1) <| .look RW74 (j[Int.toNat f]?) fun d => .testB (!(a.c0 == d.c0 && (a.c1 == d.c1 && (a.c2 == d.c2 && (a.c3 == d.c3 && (a.c4 == d.c4 && (a.c5 == d.c5 && (a.c6 == d.c6 && true))) && true))))) (fun h2 => .ret .e0) (fun h2 => .ret (.s0 (.mk i j l (w64 (f + 1)))))) (fun _ => .fail)) (fun h0 => .ret .e1)
noncomputable def L290_0 := E290_0.loop fun | .s0 x => D290_0 x | _ => .fail
theorem L290_0_ok : LU 290 0 B290 0 E290_0 L290_0 :=
  lk (L := notIn []) (fun b hb => by cases b <;> first | (cases hb; done) | (rename_i x; cases x; intro x; kernel_rfl) | (intro x; kernel_rfl))
noncomputable def N290_0.nx (n : Nat) : N290_0 → Option N290_0 | .s0 x => L290_0 n (.s0 x) | .e0 => some .e0 | .e1 => some .e1
theorem L290_0_s0 (n : Nat) (x : T290_0s0) : L290_0 (n + 1) (.s0 x) = (D290_0 x).ev (N290_0.nx n) := Ent.loop_eq fun c => by cases c <;> rfl
noncomputable def D290 (a d : LV) : PT A290 := .testB ((a.length : Int) != (d.length : Int)) (fun h0 => .ret (.a0 false)) (fun h0 => .cut E290_0 (L290_0_ok (.s0 (.mk a d ((a.length : Int)) 0)) rfl) fun | .e0 => .ret (.a0 false) | .e1 => .ret (.a0 true) | _ => .fail)
noncomputable def F290 (a d : LV) : Option A290 := (D290 a d).ev some
theorem F290_ok (a d : LV) : FU E290 (F290 a d) 290 [lS 7 a, lS 7 d] := fu rfl rfl fun x => by kernel_rfl
/-! ## F161 -/
noncomputable abbrev B161 : Code := (Tryz.f161.body).getD .skip
inductive T161_0s0 where
  | mk (a d : LV) (f i : Int)
inductive N161_0 where
  | s0 (x : T161_0s0)
  | e0
  | e1
abbrev N161_0.out : N161_0 → VX × S
  | .s0 (.mk a d f i) => (vN, S.mk (lS 2 a :: lS 2 d :: un 10 (i64 f :: i64 i :: un 12 [])) [])
  | .e0 => (VX.ret, S.mk (un 4 (vb false :: un 21 [])) [])
  | .e1 => (vX 0, S.mk (un 26 []) [])
abbrev E161_0 := Ent.o3 N161_0.out .s0 (fun (_ : Unit) => .e0) (fun (_ : Unit) => .e1) (fun b => by cases b <;> simp)
noncomputable def D161_0 : T161_0s0 → PT N161_0 | .mk d f i a => .test (a < i) (fun h0 => .test (0 ≤ a) (fun h1 => .look RW28 (d[Int.toNat a]?) fun j => .known (decide_eq_true h1) <| .look RW28 (f[Int.toNat a]?) fun l => .testB (!(j.c0 == l.c0 && (j.c1 == l.c1 && true))) (fun h2 => .ret .e0) (fun h2 => .ret (.s0 (.mk d f i (w64 (a + 1)))))) (fun _ => .fail)) (fun h0 => .ret .e1)
noncomputable def L161_0 := E161_0.loop fun | .s0 x => D161_0 x | _ => .fail
theorem L161_0_ok : LU 161 0 B161 0 E161_0 L161_0 :=
  lk (L := notIn []) (fun b hb => by cases b <;> first | (cases hb; done) | (rename_i x; cases x; intro x; kernel_rfl) | (intro x; kernel_rfl))
noncomputable def N161_0.nx (n : Nat) : N161_0 → Option N161_0 | .s0 x => L161_0 n (.s0 x) | .e0 => some .e0 | .e1 => some .e1
theorem L161_0_s0 (n : Nat) (x : T161_0s0) : L161_0 (n + 1) (.s0 x) = (D161_0 x).ev (N161_0.nx n) := Ent.loop_eq fun c => by cases c <;> rfl
noncomputable def D161 (a d : LV) : PT A161 := .testB ((a.length : Int) != (d.length : Int)) (fun h0 => .ret (.a0 false)) (fun h0 => .cut E161_0 (L161_0_ok (.s0 (.mk a d ((a.length : Int)) 0)) rfl) fun | .e0 => .ret (.a0 false) | .e1 => .ret (.a0 true) | _ => .fail)
noncomputable def F161 (a d : LV) : Option A161 := (D161 a d).ev some
theorem F161_ok (a d : LV) : FU E161 (F161 a d) 161 [lS 2 a, lS 2 d] := fu rfl rfl fun x => by kernel_rfl
/-! ## F299 -/
noncomputable def D299 (a : Bool) (d : LV) (f : Bool) (i : LV) : PT A299 := .auto 2 <| .testB (a == f) (fun h0 => .auto 6 <| .ask E161 (F161_ok d i) fun ⟨j⟩ => .auto 1 <| .ret (.a0 j)) (fun h0 => .auto 5 <| .ret (.a0 false))
noncomputable def F299 (a : Bool) (d : LV) (f : Bool) (i : LV) : Option A299 := (D299 a d f i).ev some
theorem F299_ok (a : Bool) (d : LV) (f : Bool) (i : LV) : FU E299 (F299 a d f i) 299 [V.agg [vb a, lS 2 d], V.agg [vb f, lS 2 i]] := fu rfl rfl fun x => by kernel_rfl
/-! ## F298 -/
noncomputable def D298 (a : Int) (d : Bool) (f : LV) (i j l m o p : Int) (q : Bool) (s : LV) (t u v w y : Int) : PT A298 := .auto 2 <| .testB (a == p) (fun h0 => .auto 7 <| .testB (i == t) (fun h1 => .auto 7 <| .testB (j == u && (l == v && (m == w && (o == y && true)))) (fun h2 => .auto 6 <| .ask E299 (F299_ok d f q s) fun ⟨z⟩ => .auto 1 <| .ret (.a0 z)) (fun h2 => .auto 5 <| .ret (.a0 false))) (fun h1 => .auto 11 <| .ret (.a0 false))) (fun h0 => .auto 17 <| .ret (.a0 false))
noncomputable def F298 (a : Int) (d : Bool) (f : LV) (i j l m o p : Int) (q : Bool) (s : LV) (t u v w y : Int) : Option A298 := (D298 a d f i j l m o p q s t u v w y).ev some
theorem F298_ok (a : Int) (d : Bool) (f : LV) (i j l m o p : Int) (q : Bool) (s : LV) (t u v w y : Int) : FU E298 (F298 a d f i j l m o p q s t u v w y) 298 [V.agg [i64 a, vb d, lS 2 f, i64 i, i64 j, i64 l, i64 m, i64 o], V.agg [i64 p, vb q, lS 2 s, i64 t, i64 u, i64 v, i64 w, i64 y]] := fu rfl rfl fun x => by kernel_rfl
/-! ## F297 -/
noncomputable abbrev B297 : Code := (Tryz.f297.body).getD .skip
inductive T297_0s0 where
  | mk (a d : LV) (f i : Int)
inductive N297_0 where
  | s0 (x : T297_0s0)
  | e0
  | e1
abbrev N297_0.out : N297_0 → VX × S
  | .s0 (.mk a d f i) => (vN, S.mk (U :: lS 8 a :: V.fn 298 [] :: un 12 (lS 8 d :: i64 f :: i64 i :: un 14 [])) [])
  | .e0 => (VX.ret, S.mk (un 6 (vb false :: un 25 [])) [])
  | .e1 => (vX 0, S.mk (un 32 []) [])
abbrev E297_0 := Ent.o3 N297_0.out .s0 (fun (_ : Unit) => .e0) (fun (_ : Unit) => .e1) (fun b => by cases b <;> simp)
noncomputable def D297_0 : T297_0s0 → PT N297_0 | .mk i j l f => .test (f < l) (fun h0 => .test (0 ≤ f) (fun h1 => .look RW100 (j[Int.toNat f]?) fun a => .auto 1 <| .known (decide_eq_true h1) <| .look RW100 (i[Int.toNat f]?) fun d => .auto 3 <| .ask E298 (F298_ok a.c0 a.c1 a.c2 a.c3 a.c4 a.c5 a.c6 a.c7 d.c0 d.c1 d.c2 d.c3 d.c4 d.c5 d.c6 d.c7) fun ⟨m⟩ => .testB (!m) (fun h2 => .ret .e0) (fun h2 => .ret (.s0 (.mk i j l (w64 (f + 1)))))) (fun _ => .fail)) (fun h0 => .ret .e1)
noncomputable def L297_0 := E297_0.loop fun | .s0 x => D297_0 x | _ => .fail
theorem L297_0_ok : LU 297 0 B297 0 E297_0 L297_0 :=
  lk (L := notIn []) (fun b hb => by cases b <;> first | (cases hb; done) | (rename_i x; cases x; intro x; kernel_rfl) | (intro x; kernel_rfl))
noncomputable def N297_0.nx (n : Nat) : N297_0 → Option N297_0 | .s0 x => L297_0 n (.s0 x) | .e0 => some .e0 | .e1 => some .e1
theorem L297_0_s0 (n : Nat) (x : T297_0s0) : L297_0 (n + 1) (.s0 x) = (D297_0 x).ev (N297_0.nx n) := Ent.loop_eq fun c => by cases c <;> rfl
noncomputable def D297 (a d : LV) : PT A297 := .testB ((a.length : Int) != (d.length : Int)) (fun h0 => .ret (.a0 false)) (fun h0 => .cut E297_0 (L297_0_ok (.s0 (.mk d a ((a.length : Int)) 0)) rfl) fun | .e0 => .ret (.a0 false) | .e1 => .ret (.a0 true) | _ => .fail)
noncomputable def F297 (a d : LV) : Option A297 := (D297 a d).ev some
theorem F297_ok (a d : LV) : FU E297 (F297 a d) 297 [lS 8 a, lS 8 d, V.fn 298 []] := fu rfl rfl fun x => by kernel_rfl
/-! ## F291 -/
noncomputable def D291 (a d : LV) : PT A291 := .ask E297 (F297_ok a d) fun ⟨f⟩ => .ret (.a0 f)
noncomputable def F291 (a d : LV) : Option A291 := (D291 a d).ev some
theorem F291_ok (a d : LV) : FU E291 (F291 a d) 291 [lS 8 a, lS 8 d] := fu rfl rfl fun x => by kernel_rfl
/-! ## F292 -/
noncomputable abbrev B292 : Code := (Tryz.f292.body).getD .skip
inductive T292_0s0 where
  | mk (a d : LV) (f i : Int)
inductive N292_0 where
  | s0 (x : T292_0s0)
  | e0
  | e1
abbrev N292_0.out : N292_0 → VX × S
  | .s0 (.mk a d f i) => (vN, S.mk (lS 10 a :: lS 10 d :: un 10 (i64 f :: i64 i :: un 12 [])) [])
  | .e0 => (VX.ret, S.mk (un 4 (vb false :: un 21 [])) [])
  | .e1 => (vX 0, S.mk (un 26 []) [])
abbrev E292_0 := Ent.o3 N292_0.out .s0 (fun (_ : Unit) => .e0) (fun (_ : Unit) => .e1) (fun b => by cases b <;> simp)
noncomputable def D292_0 : T292_0s0 → PT N292_0 | .mk i j l f => .test (f < l) (fun h0 => .test (0 ≤ f) (fun h1 => .look RW108 (i[Int.toNat f]?) fun a => .known (decide_eq_true h1) <| .look RW108 (j[Int.toNat f]?) fun d => .testB (!(a.c0 == d.c0 && (a.c1 == d.c1 && (a.c2 == d.c2 && (a.c3 == d.c3 && (a.c4 == d.c4 && true))) && (a.c5 == d.c5 && (a.c6 == d.c6 && (a.c7 == d.c7 && (a.c8 == d.c8 && (a.c9 == d.c9 && true))) && true))))) (fun h2 => .ret .e0) (fun h2 => .ret (.s0 (.mk i j l (w64 (f + 1)))))) (fun _ => .fail)) (fun h0 => .ret .e1)
noncomputable def L292_0 := E292_0.loop fun | .s0 x => D292_0 x | _ => .fail
theorem L292_0_ok : LU 292 0 B292 0 E292_0 L292_0 :=
  lk (L := notIn []) (fun b hb => by cases b <;> first | (cases hb; done) | (rename_i x; cases x; intro x; kernel_rfl) | (intro x; kernel_rfl))
noncomputable def N292_0.nx (n : Nat) : N292_0 → Option N292_0 | .s0 x => L292_0 n (.s0 x) | .e0 => some .e0 | .e1 => some .e1
theorem L292_0_s0 (n : Nat) (x : T292_0s0) : L292_0 (n + 1) (.s0 x) = (D292_0 x).ev (N292_0.nx n) := Ent.loop_eq fun c => by cases c <;> rfl
noncomputable def D292 (a d : LV) : PT A292 := .testB ((a.length : Int) != (d.length : Int)) (fun h0 => .ret (.a0 false)) (fun h0 => .cut E292_0 (L292_0_ok (.s0 (.mk a d ((a.length : Int)) 0)) rfl) fun | .e0 => .ret (.a0 false) | .e1 => .ret (.a0 true) | _ => .fail)
noncomputable def F292 (a d : LV) : Option A292 := (D292 a d).ev some
theorem F292_ok (a d : LV) : FU E292 (F292 a d) 292 [lS 10 a, lS 10 d] := fu rfl rfl fun x => by kernel_rfl
/-! ## F293 -/
noncomputable abbrev B293 : Code := (Tryz.f293.body).getD .skip
inductive T293_0s0 where
  | mk (a d : LV) (f i : Int)
inductive N293_0 where
  | s0 (x : T293_0s0)
  | e0
  | e1
abbrev N293_0.out : N293_0 → VX × S
  | .s0 (.mk a d f i) => (vN, S.mk (lS 1 a :: lS 1 d :: un 10 (i64 f :: i64 i :: un 12 [])) [])
  | .e0 => (VX.ret, S.mk (un 4 (vb false :: un 21 [])) [])
  | .e1 => (vX 0, S.mk (un 26 []) [])
abbrev E293_0 := Ent.o3 N293_0.out .s0 (fun (_ : Unit) => .e0) (fun (_ : Unit) => .e1) (fun b => by cases b <;> simp)
noncomputable def D293_0 : T293_0s0 → PT N293_0 | .mk d f i a => .test (a < i) (fun h0 => .test (0 ≤ a) (fun h1 => .look RW2 (d[Int.toNat a]?) fun j => .known (decide_eq_true h1) <| .look RW2 (f[Int.toNat a]?) fun l => .testB (j.c0 != l.c0) (fun h2 => .ret .e0) (fun h2 => .ret (.s0 (.mk d f i (w64 (a + 1)))))) (fun _ => .fail)) (fun h0 => .ret .e1)
noncomputable def L293_0 := E293_0.loop fun | .s0 x => D293_0 x | _ => .fail
theorem L293_0_ok : LU 293 0 B293 0 E293_0 L293_0 :=
  lk (L := notIn []) (fun b hb => by cases b <;> first | (cases hb; done) | (rename_i x; cases x; intro x; kernel_rfl) | (intro x; kernel_rfl))
noncomputable def N293_0.nx (n : Nat) : N293_0 → Option N293_0 | .s0 x => L293_0 n (.s0 x) | .e0 => some .e0 | .e1 => some .e1
theorem L293_0_s0 (n : Nat) (x : T293_0s0) : L293_0 (n + 1) (.s0 x) = (D293_0 x).ev (N293_0.nx n) := Ent.loop_eq fun c => by cases c <;> rfl
noncomputable def D293 (a d : LV) : PT A293 := .testB ((a.length : Int) != (d.length : Int)) (fun h0 => .ret (.a0 false)) (fun h0 => .cut E293_0 (L293_0_ok (.s0 (.mk a d ((a.length : Int)) 0)) rfl) fun | .e0 => .ret (.a0 false) | .e1 => .ret (.a0 true) | _ => .fail)
noncomputable def F293 (a d : LV) : Option A293 := (D293 a d).ev some
theorem F293_ok (a d : LV) : FU E293 (F293 a d) 293 [lS 1 a, lS 1 d] := fu rfl rfl fun x => by kernel_rfl
/-! ## F279 -/
noncomputable abbrev B279 : Code := (Tryz.f279.body).getD .skip
inductive T279_r2s0 where
  | mk (a : Bool) (d : W34) (f : W34)
abbrev T279_r2s0.st : T279_r2s0 → S
  | .mk a d f => S.mk (U :: U :: pT 0 :: pT 1 :: U :: vb a :: un 113 []) [oF 32 [W34.cells d], oF 32 [W34.cells f]]
inductive T279_r2e0 where
  | mk (a d : Bool) (f : W34) (i : W34)
inductive N279_r2 where
  | e0 (x : T279_r2e0)
abbrev N279_r2.out : N279_r2 → VX × S
  | .e0 (.mk a d f i) => (vN, S.mk (U :: U :: pT 0 :: pT 1 :: U :: vb a :: vb d :: un 112 []) [oF 32 [W34.cells f], oF 32 [W34.cells i]])
abbrev E279_r2 := Ent.o1 N279_r2.out .e0 fun ⟨x⟩ => ⟨x, rfl⟩
noncomputable def D279_r2 : T279_r2s0 → PT N279_r2 | .mk f a d => .auto 2 <| .ask E290 (F290_ok a.c2 d.c2) fun ⟨i⟩ => .testB i (fun h0 => .auto 6 <| .ask E290 (F290_ok a.c3 d.c3) fun ⟨j⟩ => .auto 1 <| .testB j (fun h1 => .auto 6 <| .ask E290 (F290_ok a.c23 d.c23) fun ⟨l⟩ => .auto 1 <| .testB l (fun h2 => .auto 6 <| .ask E290 (F290_ok a.c30 d.c30) fun ⟨m⟩ => .auto 1 <| .testB m (fun h3 => .auto 6 <| .ask E290 (F290_ok a.c31 d.c31) fun ⟨o⟩ => .auto 1 <| .ret (.e0 (.mk f o a d))) (fun h3 => .auto 5 <| .ret (.e0 (.mk f false a d)))) (fun h2 => .auto 11 <| .ret (.e0 (.mk f false a d)))) (fun h1 => .auto 17 <| .ret (.e0 (.mk f false a d)))) (fun h0 => .auto 23 <| .ret (.e0 (.mk f false a d)))
noncomputable def J279_r2 (y : T279_r2s0) : Option N279_r2 := (D279_r2 y).ev some
theorem J279_r2_ok (y : T279_r2s0) : ∀ b, J279_r2 y = some b → regP Tryz.prog X CC 279 0 B279 2 y.st = some (E279_r2.out b) := by
  cases y; exact reg_ok (E := E279_r2) (fun x => by kernel_rfl)
inductive T279_r1s0 where
  | mk (a : W34) (d : W34)
abbrev T279_r1s0.st : T279_r1s0 → S
  | .mk a d => S.mk (U :: U :: pT 0 :: pT 1 :: un 115 []) [oF 32 [W34.cells a], oF 32 [W34.cells d]]
inductive T279_r1e0 where
  | mk (a : Bool) (d : W34) (f : W34)
inductive N279_r1 where
  | e0 (x : T279_r1e0)
abbrev N279_r1.out : N279_r1 → VX × S
  | .e0 (.mk a d f) => (vN, S.mk (U :: U :: pT 0 :: pT 1 :: U :: vb a :: un 113 []) [oF 32 [W34.cells d], oF 32 [W34.cells f]])
abbrev E279_r1 := Ent.o1 N279_r1.out .e0 fun ⟨x⟩ => ⟨x, rfl⟩
noncomputable def D279_r1 : T279_r1s0 → PT N279_r1 | .mk a d => .auto 2 <| .testB (a.c0 == d.c0) (fun h0 => .auto 7 <| .testB (a.c1 == d.c1) (fun h1 => .auto 7 <| .testB (a.c5 == d.c5) (fun h2 => .auto 7 <| .testB (a.c6 == d.c6) (fun h3 => .auto 7 <| .testB (a.c7 == d.c7 && (a.c8 == d.c8 && (a.c9 == d.c9 && (a.c10 == d.c10 && (a.c11 == d.c11 && true))) && (a.c12 == d.c12 && (a.c13 == d.c13 && (a.c14 == d.c14 && (a.c15 == d.c15 && true))) && (a.c16 == d.c16 && (a.c17 == d.c17 && true) && (a.c18 == d.c18 && (a.c19 == d.c19 && true) && (a.c20 == d.c20 && true)))))) (fun h4 => .auto 7 <| .testB (a.c22 == d.c22) (fun h5 => .auto 7 <| .testB (a.c24 == d.c24 && (a.c25 == d.c25 && (a.c26 == d.c26 && (a.c27 == d.c27 && true)))) (fun h6 => .auto 7 <| .ret (.e0 (.mk (a.c28 == d.c28) a d))) (fun h6 => .auto 5 <| .ret (.e0 (.mk false a d)))) (fun h5 => .auto 11 <| .ret (.e0 (.mk false a d)))) (fun h4 => .auto 17 <| .ret (.e0 (.mk false a d)))) (fun h3 => .auto 23 <| .ret (.e0 (.mk false a d)))) (fun h2 => .auto 29 <| .ret (.e0 (.mk false a d)))) (fun h1 => .auto 35 <| .ret (.e0 (.mk false a d)))) (fun h0 => .auto 41 <| .ret (.e0 (.mk false a d)))
noncomputable def J279_r1 (y : T279_r1s0) : Option N279_r1 := (D279_r1 y).ev some
theorem J279_r1_ok (y : T279_r1s0) : ∀ b, J279_r1 y = some b → regP Tryz.prog X CC 279 0 B279 1 y.st = some (E279_r1.out b) := by
  cases y; exact reg_ok (E := E279_r1) (fun x => by kernel_rfl)
noncomputable def D279 (f : W34) (i : W34) : PT A279 := .cut E279_r1 (J279_r1_ok (.mk f i)) fun | .e0 (.mk j l m) => .cut E279_r2 (J279_r2_ok (.mk j l m)) fun | .e0 (.mk o p a d) => .testB o (fun h0 => .auto 1 <| .testB p (fun h1 => .auto 6 <| .ask E291 (F291_ok a.c4 d.c4) fun ⟨q⟩ => .auto 1 <| .testB q (fun h2 => .auto 6 <| .ask E292 (F292_ok a.c21 d.c21) fun ⟨s⟩ => .auto 1 <| .testB s (fun h3 => .auto 6 <| .ask E293 (F293_ok a.c29 d.c29) fun ⟨t⟩ => .auto 1 <| .ret (.a0 t)) (fun h3 => .auto 5 <| .ret (.a0 false))) (fun h2 => .auto 11 <| .ret (.a0 false))) (fun h1 => .auto 17 <| .ret (.a0 false))) (fun h0 => .auto 19 <| .ret (.a0 false))
noncomputable def F279 (a : W34) (d : W34) : Option A279 := (D279 a d).ev some
theorem F279_ok (a : W34) (d : W34) : FU E279 (F279 a d) 279 [V.agg (W34.cells a), V.agg (W34.cells d)] := fu rfl rfl fun x => by kernel_rfl
/-! ## F178 -/
noncomputable def D178 (a : Bool) (d : LV) (f : Bool) (i : LV) : PT Bool := .auto 2 <| .testB ((d.length : Int) == (i.length : Int)) (fun h0 => .auto 7 <| .ret (a == f)) (fun h0 => .auto 5 <| .ret false)
abbrev O178 (a : Bool) : V × Store := (vb a, [])
noncomputable def F178 (a : Bool) (d : LV) (f : Bool) (i : LV) : Bool := (D178 a d f i).evT
theorem F178_ok (a : Bool) (d : LV) (f : Bool) (i : LV) : UU 178 ([V.agg [vb a, lS 2 d], V.agg [vb f, lS 2 i]]) ([]) = some (O178 (F178 a d f i)) :=
  fnT_ok (out := O178) (L := notIn []) rfl rfl (fun x => by kernel_rfl) (by simp [D178, PT.isT])
/-! ## F112 -/
noncomputable abbrev B112 : Code := (Tryz.f112.body).getD .skip
inductive T112_0s0 where
  | mk (a : LV) (d f i : Int)
inductive T112_0e1 where
  | mk (a : LV)
inductive N112_0 where
  | s0 (x : T112_0s0)
  | e0
  | e1 (x : T112_0e1)
abbrev N112_0.out : N112_0 → VX × S
  | .s0 (.mk a d f i) => (vN, S.mk (lS 8 a :: U :: U :: i64 d :: U :: U :: lS 8 a :: i64 f :: i64 i :: un 41 []) [])
  | .e0 => (VX.ret, S.mk (U :: U :: vb false :: un 47 []) [])
  | .e1 (.mk j) => (vX 0, S.mk (lS 8 j :: un 49 []) [])
abbrev E112_0 := Ent.o3 N112_0.out .s0 (fun (_ : Unit) => .e0) .e1 (fun b => by cases b <;> simp)
noncomputable def D112_0 : T112_0s0 → PT N112_0 | .mk f l i d => .test (d < i) (fun h0 => .test (0 ≤ d) (fun h1 => .look RW100 (f[Int.toNat d]?) fun a => .auto 4 <| .ask E114 (F114_ok d l a.c0 a.c3 a.c4 a.c5 a.c6 a.c7) fun ⟨m⟩ => .testB (!m) (fun h2 => .auto 18 <| .ret .e0) (fun h2 => .auto 3 <| .tot O146 (F146_ok a.c1 a.c2) fun o => .auto 1 <| .testB o (fun h3 => .auto 14 <| .ret .e0) (fun h3 => .auto 3 <| .ask E177 (F177_ok a.c1 a.c2) fun ⟨p⟩ => .auto 2 <| .testB (!p) (fun h4 => .auto 9 <| .ret .e0) (fun h4 => .auto 5 <| .look RW100 (f[(0 : Nat)]?) fun j => .auto 3 <| .tot O178 (F178_ok a.c1 a.c2 j.c1 j.c2) fun q => .auto 2 <| .testB (!q) (fun h5 => .ret .e0) (fun h5 => .auto 1 <| .ret (.s0 (.mk f a.c0 i (w64 (d + 1))))))))) (fun _ => .fail)) (fun h0 => .ret (.e1 (.mk f)))
noncomputable def L112_0 := E112_0.loop fun | .s0 x => D112_0 x | _ => .fail
theorem L112_0_ok : LU 112 0 B112 0 E112_0 L112_0 :=
  lk (L := notIn []) (fun b hb => by cases b <;> first | (cases hb; done) | (rename_i x; cases x; intro x; kernel_rfl) | (intro x; kernel_rfl))
noncomputable def N112_0.nx (n : Nat) : N112_0 → Option N112_0 | .s0 x => L112_0 n (.s0 x) | .e0 => some .e0 | .e1 x => some (.e1 x)
theorem L112_0_s0 (n : Nat) (x : T112_0s0) : L112_0 (n + 1) (.s0 x) = (D112_0 x).ev (N112_0.nx n) := Ent.loop_eq fun c => by cases c <;> rfl
noncomputable def D112 (a : LV) : PT A112 := .cut E112_0 (L112_0_ok (.s0 (.mk a 0 ((a.length : Int)) 0)) rfl) fun | .e0 => .ret (.a0 false) | .e1 (.mk d) => .ret (.a0 (decide ((d.length : Int) ≤ 32))) | _ => .fail
noncomputable def F112 (a : LV) : Option A112 := (D112 a).ev some
theorem F112_ok (a : LV) : FU E112 (F112 a) 112 [lS 8 a] := fu rfl rfl fun x => by kernel_rfl
/-! ## F53 -/
noncomputable abbrev B53 : Code := (Tryz.f53.body).getD .skip
inductive T53_r7s0 where
  | mk (a : W34)
abbrev T53_r7s0.st : T53_r7s0 → S
  | .mk a => S.mk (U :: pT 0 :: un 65 []) [oF 32 [W34.cells a]]
inductive T53_r7e0 where
  | mk (a : Bool)
inductive N53_r7 where
  | e0 (x : T53_r7e0)
abbrev N53_r7.out : N53_r7 → VX × S
  | .e0 (.mk a) => (vN, S.mk (U :: U :: vb a :: un 64 []) [])
abbrev E53_r7 := Ent.o1 N53_r7.out .e0 fun ⟨x⟩ => ⟨x, rfl⟩
noncomputable def D53_r7 : T53_r7s0 → PT N53_r7 | .mk a => .auto 1 <| .testB (((List.length a.c2) : Int) == 0) (fun h0 => .auto 5 <| .testB (((List.length a.c3) : Int) == 0) (fun h1 => .auto 3 <| .ask E112 (F112_ok a.c4) fun ⟨d⟩ => .auto 1 <| .ret (.e0 (.mk d))) (fun h1 => .auto 3 <| .ret (.e0 (.mk false)))) (fun h0 => .auto 8 <| .ret (.e0 (.mk false)))
noncomputable def J53_r7 (y : T53_r7s0) : Option N53_r7 := (D53_r7 y).ev some
theorem J53_r7_ok (y : T53_r7s0) : ∀ b, J53_r7 y = some b → regP Tryz.prog X CC 53 0 B53 7 y.st = some (E53_r7.out b) := by
  cases y; exact reg_ok (E := E53_r7) (fun x => by kernel_rfl)
inductive T53_r4s0 where
  | mk (a : W34)
abbrev T53_r4s0.st : T53_r4s0 → S
  | .mk a => S.mk (U :: pT 0 :: un 65 []) [oF 32 [W34.cells a]]
inductive T53_r4e0 where
  | mk (a : Bool) (d : W34)
inductive N53_r4 where
  | e0 (x : T53_r4e0)
abbrev N53_r4.out : N53_r4 → VX × S
  | .e0 (.mk a d) => (vN, S.mk (U :: pT 0 :: un 10 (vb a :: un 54 [])) [oF 32 [W34.cells d]])
abbrev E53_r4 := Ent.o1 N53_r4.out .e0 fun ⟨x⟩ => ⟨x, rfl⟩
noncomputable def D53_r4 : T53_r4s0 → PT N53_r4 | .mk a => .auto 1 <| .testB (a.c0 != 2) (fun h0 => .auto 4 <| .ret (.e0 (.mk (a.c1 != 0) a))) (fun h0 => .auto 3 <| .ret (.e0 (.mk false a)))
noncomputable def J53_r4 (y : T53_r4s0) : Option N53_r4 := (D53_r4 y).ev some
theorem J53_r4_ok (y : T53_r4s0) : ∀ b, J53_r4 y = some b → regP Tryz.prog X CC 53 0 B53 4 y.st = some (E53_r4.out b) := by
  cases y; exact reg_ok (E := E53_r4) (fun x => by kernel_rfl)
inductive T53_r3s0 where
  | mk (a : W34)
abbrev T53_r3s0.st : T53_r3s0 → S
  | .mk a => S.mk (U :: pT 0 :: un 65 []) [oF 32 [W34.cells a]]
inductive T53_r3e0 where
  | mk (a : Bool) (d : W34)
inductive N53_r3 where
  | e0 (x : T53_r3e0)
abbrev N53_r3.out : N53_r3 → VX × S
  | .e0 (.mk a d) => (vN, S.mk (U :: pT 0 :: un 10 (vb a :: un 54 [])) [oF 32 [W34.cells d]])
abbrev E53_r3 := Ent.o1 N53_r3.out .e0 fun ⟨x⟩ => ⟨x, rfl⟩
noncomputable def D53_r3 : T53_r3s0 → PT N53_r3 | .mk a => .auto 1 <| .testB (a.c0 == 2) (fun h0 => .auto 4 <| .test (a.c1 < 2) (fun h1 => .auto 5 <| .ret (.e0 (.mk true a))) (fun h1 => .auto 6 <| .ret (.e0 (.mk (decide (a.c1 > 16)) a)))) (fun h0 => .auto 5 <| .ret (.e0 (.mk false a)))
noncomputable def J53_r3 (y : T53_r3s0) : Option N53_r3 := (D53_r3 y).ev some
theorem J53_r3_ok (y : T53_r3s0) : ∀ b, J53_r3 y = some b → regP Tryz.prog X CC 53 0 B53 3 y.st = some (E53_r3.out b) := by
  cases y; exact reg_ok (E := E53_r3) (fun x => by kernel_rfl)
inductive T53_c3s0 where
  | mk (a : Bool) (d : W34)
abbrev T53_c3s0.st : T53_c3s0 → S
  | .mk a d => S.mk (U :: pT 0 :: U :: vb a :: un 63 []) [oF 32 [W34.cells d]]
inductive T53_c3e0 where
  | mk (a : Bool)
inductive T53_c3e1 where
  | mk (a : W34)
inductive N53_c3 where
  | e0 (x : T53_c3e0)
  | e1 (x : T53_c3e1)
abbrev N53_c3.out : N53_c3 → VX × S
  | .e0 (.mk a) => (VX.ret, S.mk (U :: U :: vb a :: un 64 []) [])
  | .e1 (.mk d) => (vN, S.mk (U :: pT 0 :: un 65 []) [oF 32 [W34.cells d]])
abbrev E53_c3 := Ent.o2 N53_c3.out .e0 .e1 (fun b => by cases b <;> simp)
noncomputable def D53_c3 : T53_c3s0 → PT N53_c3 | .mk d f => .testB d (fun h0 => .ret (.e0 (.mk false))) (fun h0 => .cut E53_r3 (J53_r3_ok (.mk f)) fun | .e0 (.mk i j) => .testB i (fun h1 => .known h1 <| .ret (.e0 (.mk false))) (fun h1 => .cut E53_r4 (J53_r4_ok (.mk j)) fun | .e0 (.mk l a) => .testB l (fun h2 => .ret (.e0 (.mk false))) (fun h2 => .auto 1 <| .testB (a.c0 == 3) (fun h3 => .cut E53_r7 (J53_r7_ok (.mk a)) fun | .e0 (.mk m) => .ret (.e0 (.mk m))) (fun h3 => .ret (.e1 (.mk a))))))
noncomputable def J53_c3 (y : T53_c3s0) : Option N53_c3 := (D53_c3 y).ev some
theorem J53_c3_ok (y : T53_c3s0) : CU 53 0 B53 3 E53_c3 (J53_c3 y) y.st := by
  cases y; exact cond_ok (L := notIn []) fun x => by kernel_rfl
inductive T53_r1s0 where
  | mk (a : W34)
abbrev T53_r1s0.st : T53_r1s0 → S
  | .mk a => S.mk (U :: pT 0 :: un 65 []) [oF 32 [W34.cells a]]
inductive T53_r1e0 where
  | mk (a : Bool) (d : W34)
inductive N53_r1 where
  | e0 (x : T53_r1e0)
abbrev N53_r1.out : N53_r1 → VX × S
  | .e0 (.mk a d) => (vN, S.mk (U :: pT 0 :: U :: vb a :: un 63 []) [oF 32 [W34.cells d]])
abbrev E53_r1 := Ent.o1 N53_r1.out .e0 fun ⟨x⟩ => ⟨x, rfl⟩
noncomputable def D53_r1 : T53_r1s0 → PT N53_r1 | .mk a => .auto 1 <| .test (a.c0 < 0) (fun h0 => .auto 3 <| .ret (.e0 (.mk true a))) (fun h0 => .auto 4 <| .ret (.e0 (.mk (decide (a.c0 > 3)) a)))
noncomputable def J53_r1 (y : T53_r1s0) : Option N53_r1 := (D53_r1 y).ev some
theorem J53_r1_ok (y : T53_r1s0) : ∀ b, J53_r1 y = some b → regP Tryz.prog X CC 53 0 B53 1 y.st = some (E53_r1.out b) := by
  cases y; exact reg_ok (E := E53_r1) (fun x => by kernel_rfl)
noncomputable def D53 (d : W34) : PT A53 := .cut E53_r1 (J53_r1_ok (.mk d)) fun | .e0 (.mk f i) => .cut E53_c3 (J53_c3_ok (.mk f i)) fun | .e0 (.mk j) => .ret (.a0 j) | .e1 (.mk a) => .auto 1 <| .testB (((List.length a.c4) : Int) == 0) (fun h0 => .auto 3 <| .ask E56 (F56_ok a.c2) fun ⟨l⟩ => .auto 1 <| .testB l (fun h1 => .auto 3 <| .ask E56 (F56_ok a.c3) fun ⟨m⟩ => .auto 1 <| .ret (.a0 m)) (fun h1 => .auto 3 <| .ret (.a0 false))) (fun h0 => .auto 7 <| .ret (.a0 false))
noncomputable def F53 (a : W34) : Option A53 := (D53 a).ev some
theorem F53_ok (a : W34) : FU E53 (F53 a) 53 [V.agg (W34.cells a)] := fu rfl rfl fun x => by kernel_rfl
/-! ## F113 -/
noncomputable def D113 (a : Int) : PT Bool := .test (a ≥ -67108864) (fun h0 => .auto 2 <| .ret (decide (a ≤ 67108864))) (fun h0 => .auto 2 <| .ret false)
abbrev O113 (a : Bool) : V × Store := (vb a, [])
noncomputable def F113 (a : Int) : Bool := (D113 a).evT
theorem F113_ok (a : Int) : UU 113 ([i64 a]) ([]) = some (O113 (F113 a)) :=
  fnT_ok (out := O113) (L := notIn []) rfl rfl (fun x => by kernel_rfl) (by simp [D113, PT.isT])
/-! ## F54 -/
noncomputable abbrev B54 : Code := (Tryz.f54.body).getD .skip
inductive T54_r1s0 where
  | mk (a d f i j l m o p q s t u v : Int)
abbrev T54_r1s0.st : T54_r1s0 → S
  | .mk a d f i j l m o p q s t u v => S.mk (U :: pT 0 :: un 40 []) [oF 14 [[i64 a, u8 d, u8 f, u8 i, u8 j, u8 l, u8 m, u8 o, u8 p, i64 q, i64 s, i64 t, i64 u, i64 v]]]
inductive T54_r1e0 where
  | mk (a : Bool) (d f i j l m o p q s t u v w : Int)
inductive N54_r1 where
  | e0 (x : T54_r1e0)
abbrev N54_r1.out : N54_r1 → VX × S
  | .e0 (.mk a d f i j l m o p q s t u v w) => (vN, S.mk (U :: pT 0 :: U :: vb a :: un 38 []) [oF 14 [[i64 d, u8 f, u8 i, u8 j, u8 l, u8 m, u8 o, u8 p, u8 q, i64 s, i64 t, i64 u, i64 v, i64 w]]])
abbrev E54_r1 := Ent.o1 N54_r1.out .e0 fun ⟨x⟩ => ⟨x, rfl⟩
noncomputable def D54_r1 : T54_r1s0 → PT N54_r1 | .mk j l m o p q s t u a d f i v => .auto 1 <| .tot O113 (F113_ok a) fun w => .testB w (fun h0 => .auto 4 <| .tot O113 (F113_ok d) fun y => .auto 1 <| .testB y (fun h1 => .auto 4 <| .tot O113 (F113_ok f) fun z => .auto 1 <| .testB z (fun h2 => .auto 4 <| .tot O113 (F113_ok i) fun d0 => .auto 1 <| .ret (.e0 (.mk d0 j l m o p q s t u a d f i v))) (fun h2 => .auto 4 <| .ret (.e0 (.mk false j l m o p q s t u a d f i v)))) (fun h1 => .auto 9 <| .ret (.e0 (.mk false j l m o p q s t u a d f i v)))) (fun h0 => .auto 14 <| .ret (.e0 (.mk false j l m o p q s t u a d f i v)))
noncomputable def J54_r1 (y : T54_r1s0) : Option N54_r1 := (D54_r1 y).ev some
theorem J54_r1_ok (y : T54_r1s0) : ∀ b, J54_r1 y = some b → regP Tryz.prog X CC 54 0 B54 1 y.st = some (E54_r1.out b) := by
  cases y; exact reg_ok (E := E54_r1) (fun x => by kernel_rfl)
noncomputable def D54 (d f i j l m o p q s t u v w : Int) : PT A54 := .cut E54_r1 (J54_r1_ok (.mk d f i j l m o p q s t u v w)) fun | .e0 (.mk y a d1 d2 d3 d4 d5 d6 d7 d8 d9 f0 f1 f2 z) => .auto 1 <| .test (a ≥ 0) (fun h0 => .auto 4 <| .test (a ≤ 2) (fun h1 => .auto 1 <| .testB y (fun h2 => .auto 3 <| .tot O113 (F113_ok z) fun d0 => .auto 1 <| .ret (.a0 d0)) (fun h2 => .auto 3 <| .ret (.a0 false))) (fun h1 => .auto 5 <| .ret (.a0 false))) (fun h0 => .auto 9 <| .ret (.a0 false))
noncomputable def F54 (a d f i j l m o p q s t u v : Int) : Option A54 := (D54 a d f i j l m o p q s t u v).ev some
theorem F54_ok (a d f i j l m o p q s t u v : Int) : FU E54 (F54 a d f i j l m o p q s t u v) 54 [V.agg [i64 a, u8 d, u8 f, u8 i, u8 j, u8 l, u8 m, u8 o, u8 p, i64 q, i64 s, i64 t, i64 u, i64 v]] := fu rfl rfl fun x => by kernel_rfl
/-! ## F55 -/
noncomputable abbrev B55 : Code := (Tryz.f55.body).getD .skip
inductive T55_0s0 where
  | mk (a : LV) (d f i : Int)
inductive T55_0e1 where
  | mk (a : LV)
inductive N55_0 where
  | s0 (x : T55_0s0)
  | e0
  | e1 (x : T55_0e1)
abbrev N55_0.out : N55_0 → VX × S
  | .s0 (.mk a d f i) => (vN, S.mk (lS 10 a :: U :: U :: i64 d :: U :: U :: lS 10 a :: i64 f :: i64 i :: un 20 []) [])
  | .e0 => (VX.ret, S.mk (U :: U :: vb false :: un 26 []) [])
  | .e1 (.mk j) => (vX 0, S.mk (lS 10 j :: un 28 []) [])
abbrev E55_0 := Ent.o3 N55_0.out .s0 (fun (_ : Unit) => .e0) .e1 (fun b => by cases b <;> simp)
noncomputable def D55_0 : T55_0s0 → PT N55_0 | .mk f j i d => .test (d < i) (fun h0 => .test (0 ≤ d) (fun h1 => .look RW108 (f[Int.toNat d]?) fun a => .auto 4 <| .ask E114 (F114_ok d j a.c0 a.c5 a.c6 a.c7 a.c8 a.c9) fun ⟨l⟩ => .testB (!l) (fun h2 => .ret .e0) (fun h2 => .auto 1 <| .ret (.s0 (.mk f a.c0 i (w64 (d + 1)))))) (fun _ => .fail)) (fun h0 => .ret (.e1 (.mk f)))
noncomputable def L55_0 := E55_0.loop fun | .s0 x => D55_0 x | _ => .fail
theorem L55_0_ok : LU 55 0 B55 0 E55_0 L55_0 :=
  lk (L := notIn []) (fun b hb => by cases b <;> first | (cases hb; done) | (rename_i x; cases x; intro x; kernel_rfl) | (intro x; kernel_rfl))
noncomputable def N55_0.nx (n : Nat) : N55_0 → Option N55_0 | .s0 x => L55_0 n (.s0 x) | .e0 => some .e0 | .e1 x => some (.e1 x)
theorem L55_0_s0 (n : Nat) (x : T55_0s0) : L55_0 (n + 1) (.s0 x) = (D55_0 x).ev (N55_0.nx n) := Ent.loop_eq fun c => by cases c <;> rfl
noncomputable def D55 (a : LV) : PT A55 := .cut E55_0 (L55_0_ok (.s0 (.mk a 0 ((a.length : Int)) 0)) rfl) fun | .e0 => .ret (.a0 false) | .e1 (.mk d) => .ret (.a0 (decide ((d.length : Int) ≤ 32))) | _ => .fail
noncomputable def F55 (a : LV) : Option A55 := (D55 a).ev some
theorem F55_ok (a : LV) : FU E55 (F55 a) 55 [lS 10 a] := fu rfl rfl fun x => by kernel_rfl
end Go.Proofs.YtifalphladcdcaaGreat.H
