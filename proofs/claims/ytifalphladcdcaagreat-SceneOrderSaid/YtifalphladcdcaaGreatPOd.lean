/- What the functions compute, and that they do so over the machine of plain values (printed by this session's program wip/vm/Walk.lean). No condition beyond those stated. -/
import Derived.Test.YtifalphladcdcaaGreatWk
import Derived.Test.YtifalphladcdcaaGreatHB
import Derived.Test.YtifalphladcdcaaGreatPOc
set_option linter.unusedVariables false
set_option linter.unusedSimpArgs false
namespace Go.Proofs.YtifalphladcdcaaGreat.H
open Go Go.VM
set_option maxRecDepth 100000
/-! ## F75 -/
noncomputable abbrev B75 : Code := (Tryz.f75.body).getD .skip
inductive T75_c24s0 where
  | mk (a d : Int) (f : Bool) (i : W34) (j : W59) (l : LV)
abbrev T75_c24s0.st : T75_c24s0 → S
  | .mk a d f i j l => S.mk (U :: i64 a :: U :: i64 d :: pT 0 :: U :: pT 1 :: U :: U :: U :: hS 2 0 :: hS 3 1 :: un 12 (vb f :: un 26 [])) [oF 32 [W34.cells i], oF 6 [W59.cells j], oT 17 [], oT 2 l]
inductive T75_c24e0 where
  | mk (a d : Int) (f : W34) (i : W59) (j l : LV)
inductive T75_c24e1 where
  | mk (a d : Int) (f : W34) (i : W59) (j : LV)
inductive N75_c24 where
  | e0 (x : T75_c24e0)
  | e1 (x : T75_c24e1)
abbrev N75_c24.out : N75_c24 → VX × S
  | .e0 (.mk a d f i j l) => (vN, S.mk (U :: i64 a :: U :: i64 d :: pT 0 :: U :: pT 1 :: U :: U :: U :: hS 2 1 :: hS 3 1 :: un 39 []) [oF 32 [W34.cells f], oF 6 [W59.cells i], oT 17 j, Ob.cells false true 2 l])
  | .e1 (.mk m o p q s) => (vN, S.mk (U :: i64 m :: U :: i64 o :: pT 0 :: U :: pT 1 :: U :: U :: U :: hS 2 0 :: hS 3 1 :: un 39 []) [oF 32 [W34.cells p], oF 6 [W59.cells q], oT 17 [], oT 2 s])
abbrev E75_c24 := Ent.o2 N75_c24.out .e0 .e1 (fun b => by cases b <;> simp)
noncomputable def D75_c24 : T75_c24s0 → PT N75_c24 | .mk d f o i j a => .testB o (fun h0 => .auto 2 <| .test (1 ≤ List.length a) (fun h1 => .ask E139 (F139_ok i d j f (List.take 1 a)) fun ⟨l, p, q, s, t, u, v, w, y, z, d0, d1, d2, d3, d4, d5, d6, m⟩ => .test (0 + l ≤ List.length m) (fun h2 => .auto 2 <| .ret (.e0 (.mk d f i j ([[lS 2 (List.take l m), i64 p, i64 q, u8 s, u8 t, u8 u, u8 v, u8 w, u8 y, u8 z, u8 d0, i64 d1, i64 d2, i64 d3, i64 d4, i64 d5, i64 d6]]) a))) (fun _ => .fail)) (fun _ => .fail)) (fun h0 => .ret (.e1 (.mk d f i j a)))
noncomputable def J75_c24 (y : T75_c24s0) : Option N75_c24 := (D75_c24 y).ev some
theorem J75_c24_ok (y : T75_c24s0) : CU 75 0 B75 24 E75_c24 (J75_c24 y) y.st := by
  cases y; exact cond_ok (L := notIn []) fun x => by kernel_rfl
noncomputable def D75 (d : W34) (l : Int) (y : W59) (z : Int) : PT A75 := .auto 1 <| .ask E51 (F51_ok d l) fun ⟨d0, m, o⟩ => .test (0 + m ≤ List.length o) (fun h0 => .ask E138 (F138_ok d0 (List.take m o)) fun ⟨d1, f, p⟩ => .auto 2 <| .testB ((↑f : Int) == 0) (fun h1 => .ret (.a0 0 ([]))) (fun h1 => .auto 1 <| .test (0 + f ≤ List.length p) (fun h2 => .auto 1 <| .cut E75_c24 (J75_c24_ok (.mk l z d.c5 d y ([[vb d1, lS 2 (List.take f p)]]))) fun | .e0 (.mk d2 d3 q d4 a s) => (.auto 1 <| .testB q.c22 (fun h3 => .auto 2 <| .test (1 ≤ List.length s) (fun h4 => .ask E140 (F140_ok q d2 d4 d3 (List.take 1 s)) fun ⟨i, d5, d6, d7, d8, d9, f0, f1, f2, f3, f4, f5, f6, f7, f8, f9, j0, t⟩ => .auto 2 <| .test ((↑i : Int) > 0) (fun h5 => .auto 1 <| .test (0 + i ≤ List.length t) (fun h6 => .auto 1 <| .test ((1 : Nat) ≤ List.length a ∧ (192 : Nat) ≤ (140737488355328 : Nat) ∧ (2 : Nat) ≤ (140737488355328 : Nat)) (fun h7 => .ret (.a0 2 (List.take 1 a ++ [[lS 2 (List.take i t), i64 d5, i64 d6, u8 d7, u8 d8, u8 d9, u8 f0, u8 f1, u8 f2, u8 f3, u8 f4, i64 f5, i64 f6, i64 f7, i64 f8, i64 f9, i64 j0]]))) (fun _ => .fail)) (fun _ => .fail)) (fun h5 => .ret (.a0 1 a))) (fun _ => .fail)) (fun h3 => .ret (.a0 1 a))) | .e1 (.mk j1 j2 u j3 v) => .auto 1 <| .testB u.c22 (fun h3 => .auto 2 <| .test (1 ≤ List.length v) (fun h4 => .ask E140 (F140_ok u j1 j3 j2 (List.take 1 v)) fun ⟨j, j4, j5, j6, j7, j8, j9, l0, l1, l2, l3, l4, l5, l6, l7, l8, l9, w⟩ => .auto 2 <| .test ((↑j : Int) > 0) (fun h5 => .auto 1 <| .test (0 + j ≤ List.length w) (fun h6 => .auto 2 <| .ret (.a0 1 ([[lS 2 (List.take j w), i64 j4, i64 j5, u8 j6, u8 j7, u8 j8, u8 j9, u8 l0, u8 l1, u8 l2, u8 l3, i64 l4, i64 l5, i64 l6, i64 l7, i64 l8, i64 l9]]))) (fun _ => .fail)) (fun h5 => .ret (.a0 0 ([])))) (fun _ => .fail)) (fun h3 => .ret (.a0 0 ([])))) (fun _ => .fail))) (fun _ => .fail)
noncomputable def F75 (a : W34) (d : Int) (f : W59) (i : Int) : Option A75 := (D75 a d f i).ev some
theorem F75_ok (a : W34) (d : Int) (f : W59) (i : Int) : FU E75 (F75 a d f i) 75 [V.agg (W34.cells a), i64 d, V.agg (W59.cells f), i64 i] := fu rfl rfl fun x => by kernel_rfl
/-! ## F86 -/
noncomputable def D86 (a : W57) (i : W59) : PT A86 := .auto 1 <| .tot O146 (F146_ok a.c16 a.c17) fun j => .testB j (fun h0 => .ret (.a0 0 ([]))) (fun h0 => .auto 2 <| .ask E138 (F138_ok a.c16 a.c17) fun ⟨l, d, f⟩ => .test (0 + d ≤ List.length f) (fun h1 => .auto 1 <| .ask E147 (F147_ok i ([[vb l, lS 2 (List.take d f)]])) fun ⟨m, o⟩ => .ret (.a0 m o)) (fun _ => .fail))
noncomputable def F86 (a : W57) (d : W59) : Option A86 := (D86 a d).ev some
theorem F86_ok (a : W57) (d : W59) : FU E86 (F86 a d) 86 [V.agg (W57.cells a), V.agg (W59.cells d)] := fu rfl rfl fun x => by kernel_rfl
/-! ## F259 -/
abbrev K158 := Int → Int → LV → Int → Int → W59 → Int → Option A158
abbrev H158 (r : K158) : Prop := ∀ (j l : Int) (m : LV) (o p : Int) (q : W59) (s : Int) (b : A158), r j l m o p q s = some b → UU 158 ([V.agg [i64 j, i64 l, lS 1 m], i64 o, i64 p, V.agg (W59.cells q), i64 s]) ([]) = some (A158.out b)
noncomputable abbrev B259 : Code := (Tryz.f259.body).getD .skip
inductive T259_0s0 where
  | mk (a d : Nat) (f i : Int) (j l : LV)
inductive T259_0e0 where
  | mk (a : Nat) (d : LV)
inductive N259_0 where
  | s0 (x : T259_0s0)
  | e0 (x : T259_0e0)
abbrev N259_0.out : N259_0 → VX × S
  | .s0 (.mk a d f i j l) => (vN, S.mk (un 13 (hS 0 a :: un 22 (hS 1 d :: i64 f :: i64 i :: un 10 []))) [oT 23 j, oT 17 l])
  | .e0 (.mk m o) => (vX 0, S.mk (un 13 (hS 0 m :: un 35 [])) [oT 23 o])
abbrev E259_0 := Ent.o2 N259_0.out .s0 .e0 (fun b => by cases b <;> simp)
noncomputable def D259_0 (rF158 : K158) (hF158 : H158 rF158) : T259_0s0 → PT N259_0
  | .mk d t u f i v =>
   .test (f < u)
    (fun h0 =>
    .test (0 ≤ f ∧ f < (↑t : Int))
     (fun h1 =>
     .look RW85 (v[(0 : Nat) + Int.toNat f]?) fun a =>
     .auto 3 <|
     .test (0 + d ≤ List.length i ∧ (d + 1) * 192 ≤ 140737488355328 ∧ d + 1 ≤ 140737488355328)
      (fun h2 =>
      .ret (.s0 (.mk (d + 1) t u (w64 (f + 1)) (List.take d i ++ [[vb false, lS 2 a.c0, i64 a.c1, i64 a.c2, u8 a.c3, u8 a.c4, u8 a.c5, u8 a.c6, u8 a.c7, u8 a.c8, u8 a.c9, u8 a.c10, i64 a.c11, i64 a.c12, i64 a.c13, i64 a.c14, i64 a.c15, i64 a.c16, lS 23 [], lS 2 [], i64 0, lS 23 [], i64 0]]) v))
     )
      (fun _ => .fail)
    )
     (fun _ => .fail)
   )
    (fun h0 =>
    .ret (.e0 (.mk d i))
   )
noncomputable def L259_0 (rF158 : K158) (hF158 : H158 rF158) := E259_0.loop fun | .s0 x => D259_0 rF158 hF158 x | _ => .fail
theorem L259_0_ok (rF158 : K158) (hF158 : H158 rF158) : LU 259 0 B259 0 E259_0 (L259_0 rF158 hF158) :=
  lk (L := notIn []) (fun b hb => by cases b <;> first | (cases hb; done) | (rename_i x; cases x; intro x; kernel_rfl) | (intro x; kernel_rfl))
noncomputable def N259_0.nx (rF158 : K158) (hF158 : H158 rF158) (n : Nat) : N259_0 → Option N259_0 | .s0 x => L259_0 rF158 hF158 n (.s0 x) | .e0 x => some (.e0 x)
theorem L259_0_s0 (rF158 : K158) (hF158 : H158 rF158) (n : Nat) (x : T259_0s0) : L259_0 rF158 hF158 (n + 1) (.s0 x) = (D259_0 rF158 hF158 x).ev (N259_0.nx rF158 hF158 n) := Ent.loop_eq fun c => by cases c <;> rfl
noncomputable def D259 (rF158 : K158) (hF158 : H158 rF158) (t u : Int) (v : LV) (a : W57) (p : Int) (q : W59) (w y : Int) : PT A259 := .auto 1 <| .testB (a.c0 == 1) (fun h0 => .auto 3 <| .ask E24 (F24_ok a p) fun ⟨z⟩ => .auto 1 <| .ask E158 (hF158 t u v a.c2 z q (w64 (w + 1))) fun ⟨d0, d1⟩ => .ret (.a0 d0 d1)) (fun h0 => .auto 2 <| .tot O70 (F70_ok a p) fun d2 => .auto 1 <| .ask E75 (F75_ok (W34.mk a.c18 a.c19 a.c20 a.c21 a.c22 a.c23 a.c24 a.c25 a.c26 a.c27 a.c28 a.c29 a.c30 a.c31 a.c32 a.c33 a.c34 a.c35 a.c36 a.c37 a.c38 a.c39 a.c40 a.c41 a.c42 a.c43 a.c44 a.c45 a.c46 a.c47 a.c48 a.c49) d2 q y) fun ⟨s, d3⟩ => .cut E259_0 (L259_0_ok rF158 hF158 (.s0 (.mk 0 s ((↑s : Int)) 0 ([]) d3)) rfl) fun | .e0 (.mk d4 d5) => .ret (.a0 d4 d5) | _ => .fail)
noncomputable def F259 (rF158 : K158) (hF158 : H158 rF158) (o p : Int) (q : LV) (s : W57) (t : Int) (u : W59) (v w : Int) : Option A259 := (D259 rF158 hF158 o p q s t u v w).ev some
theorem F259_ok (rF158 : K158) (hF158 : H158 rF158) (o p : Int) (q : LV) (s : W57) (t : Int) (u : W59) (v w : Int) : FU E259 (F259 rF158 hF158 o p q s t u v w) 259 [V.agg [i64 o, i64 p, lS 1 q], V.agg (W57.cells s), i64 t, V.agg (W59.cells u), i64 v, i64 w] := fu rfl rfl fun x => by kernel_rfl
/-! ## F218 -/
abbrev K218 := Int → Int → LV → LV → Int → Int → W59 → Int → Option A218
abbrev H218 (r : K218) : Prop := ∀ (d1 d2 : Int) (d3 d4 : LV) (d5 d6 : Int) (d7 : W59) (d8 : Int) (b : A218), r d1 d2 d3 d4 d5 d6 d7 d8 = some b → UU 218 ([V.agg [i64 d1, i64 d2, lS 1 d3], V.agg [lS 50 d4], i64 d5, i64 d6, V.agg (W59.cells d7), i64 d8]) ([]) = some (A218.out b)
noncomputable abbrev B218 : Code := (Tryz.f218.body).getD .skip
inductive T218_r6s0 where
  | mk (a d f i j l : Int) (m o : LV) (p : W59) (q : W57) (s : W59)
abbrev T218_r6s0.st : T218_r6s0 → S
  | .mk a d f i j l m o p q s => S.mk (U :: U :: i64 a :: i64 d :: U :: i64 f :: pT 0 :: pT 1 :: U :: U :: pT 2 :: U :: U :: pT 3 :: i64 i :: pT 4 :: un 78 []) [oF 3 [[i64 j, i64 l, lS 1 m]], oF 1 [[lS 50 o]], oF 6 [W59.cells p], oF 50 [W57.cells q], oF 6 [W59.cells s]]
inductive T218_r6e0 where
  | mk (a d f i : Int) (j : Bool) (l m : Int) (o p : LV) (q : W59) (s : W57) (t : W59)
inductive N218_r6 where
  | e0 (x : T218_r6e0)
abbrev N218_r6.out : N218_r6 → VX × S
  | .e0 (.mk a d f i j l m o p q s t) => (vN, S.mk (U :: U :: i64 a :: i64 d :: U :: i64 f :: pT 0 :: pT 1 :: U :: U :: pT 2 :: U :: U :: pT 3 :: i64 i :: pT 4 :: un 39 (vb j :: un 38 [])) [oF 3 [[i64 l, i64 m, lS 1 o]], oF 1 [[lS 50 p]], oF 6 [W59.cells q], oF 50 [W57.cells s], oF 6 [W59.cells t]])
abbrev E218_r6 := Ent.o1 N218_r6.out .e0 fun ⟨x⟩ => ⟨x, rfl⟩
noncomputable def D218_r6 (rF158 : K158) (hF158 : H158 rF158) (rF218 : K218) (hF218 : H218 rF218) : T218_r6s0 → PT N218_r6
  | .mk f i j d l m o p q a s =>
   .auto 1 <|
   .testB (a.c3 == 0)
    (fun h0 =>
    .auto 3 <|
    .tot O146 (F146_ok a.c16 a.c17) fun d9 =>
    .auto 1 <|
    .testB d9
     (fun h1 =>
     .auto 4 <|
     .testB (a.c0 == 0)
      (fun h2 =>
      .auto 4 <|
      .ret (.e0 (.mk f i j d true l m o p q a s))
     )
      (fun h2 =>
      .auto 4 <|
      .ret (.e0 (.mk f i j d (d == 255) l m o p q a s))
     )
    )
     (fun h1 =>
     .auto 5 <|
     .ret (.e0 (.mk f i j d false l m o p q a s))
    )
   )
    (fun h0 =>
    .auto 9 <|
    .ret (.e0 (.mk f i j d false l m o p q a s))
   )
noncomputable def J218_r6 (rF158 : K158) (hF158 : H158 rF158) (rF218 : K218) (hF218 : H218 rF218) (y : T218_r6s0) : Option N218_r6 := (D218_r6 rF158 hF158 rF218 hF218 y).ev some
theorem J218_r6_ok (rF158 : K158) (hF158 : H158 rF158) (rF218 : K218) (hF218 : H218 rF218) (y : T218_r6s0) : ∀ b, J218_r6 rF158 hF158 rF218 hF218 y = some b → regP Tryz.prog X CC 218 0 B218 6 y.st = some (E218_r6.out b) := by
  cases y; exact reg_ok (E := E218_r6) (fun x => by kernel_rfl)
inductive T218_r3s0 where
  | mk (a d f i j l : Int) (m o : LV) (p : W59) (q : W57)
abbrev T218_r3s0.st : T218_r3s0 → S
  | .mk a d f i j l m o p q => S.mk (U :: U :: i64 a :: i64 d :: U :: i64 f :: pT 0 :: pT 1 :: U :: U :: pT 2 :: U :: U :: pT 3 :: i64 i :: un 79 []) [oF 3 [[i64 j, i64 l, lS 1 m]], oF 1 [[lS 50 o]], oF 6 [W59.cells p], oF 50 [W57.cells q]]
inductive T218_r3e0 where
  | mk (a d f i : Int) (j : Bool) (l m : Int) (o p : LV) (q : W59) (s : W57)
inductive N218_r3 where
  | e0 (x : T218_r3e0)
abbrev N218_r3.out : N218_r3 → VX × S
  | .e0 (.mk a d f i j l m o p q s) => (vN, S.mk (U :: U :: i64 a :: i64 d :: U :: i64 f :: pT 0 :: pT 1 :: U :: U :: pT 2 :: U :: U :: pT 3 :: i64 i :: un 17 (vb j :: un 61 [])) [oF 3 [[i64 l, i64 m, lS 1 o]], oF 1 [[lS 50 p]], oF 6 [W59.cells q], oF 50 [W57.cells s]])
abbrev E218_r3 := Ent.o1 N218_r3.out .e0 fun ⟨x⟩ => ⟨x, rfl⟩
noncomputable def D218_r3 (rF158 : K158) (hF158 : H158 rF158) (rF218 : K218) (hF218 : H218 rF218) : T218_r3s0 → PT N218_r3
  | .mk d1 a d2 d d3 d4 d5 d6 d7 f =>
   .auto 1 <|
   .tot O23 (F23_ok f a) fun d8 =>
   .testB (!d8)
    (fun h0 =>
    .auto 2 <|
    .ret (.e0 (.mk d1 a d2 d true d3 d4 d5 d6 d7 f))
   )
    (fun h0 =>
    .auto 2 <|
    .ret (.e0 (.mk d1 a d2 d (d == 0) d3 d4 d5 d6 d7 f))
   )
noncomputable def J218_r3 (rF158 : K158) (hF158 : H158 rF158) (rF218 : K218) (hF218 : H218 rF218) (y : T218_r3s0) : Option N218_r3 := (D218_r3 rF158 hF158 rF218 hF218 y).ev some
theorem J218_r3_ok (rF158 : K158) (hF158 : H158 rF158) (rF218 : K218) (hF218 : H218 rF218) (y : T218_r3s0) : ∀ b, J218_r3 rF158 hF158 rF218 hF218 y = some b → regP Tryz.prog X CC 218 0 B218 3 y.st = some (E218_r3.out b) := by
  cases y; exact reg_ok (E := E218_r3) (fun x => by kernel_rfl)
noncomputable def D218 (rF158 : K158) (hF158 : H158 rF158) (rF218 : K218) (hF218 : H218 rF218) (p q : Int) (s m : LV) (d o : Int) (t : W59) (u : Int) : PT A218 := .auto 1 <| .test (0 ≤ d) (fun h0 => .look RW57 (m[Int.toNat d]?) fun f0 => .auto 2 <| .ask E22 (F22_ok f0 o) fun ⟨f8⟩ => .cut E218_r3 (J218_r3_ok rF158 hF158 rF218 hF218 (.mk d o u f8 p q s m t f0)) fun | .e0 (.mk f1 f2 f9 j0 j1 j2 j3 j4 f3 f4 j5) => .testB j1 (fun h1 => .ret (.a0 0 ([]))) (fun h1 => .auto 2 <| .ask E27 (F27_ok f3 f1 f2) fun ⟨j6⟩ => .ask E79 (F79_ok f4 j6) fun ⟨j7⟩ => .auto 1 <| .cut E218_r6 (J218_r6_ok rF158 hF158 rF218 hF218 (.mk f1 f2 f9 j0 j2 j3 j4 f3 f4 j5 j7)) fun | .e0 (.mk f5 w y v j8 z d0 d1 j9 l0 a d2) => .testB j8 (fun h2 => .auto 3 <| .ask E259 (F259_ok rF158 hF158 z d0 d1 a w d2 y v) fun ⟨l1, l2⟩ => .ret (.a0 l1 l2)) (fun h2 => .auto 3 <| .ask E259 (F259_ok rF158 hF158 z d0 d1 a w d2 y 255) fun ⟨f, i⟩ => .auto 2 <| .ask E86 (F86_ok a d2) fun ⟨j, l⟩ => .auto 3 <| .testB (a.c3 != 0) (fun h3 => .auto 2 <| .test (f5 > 0) (fun h4 => .auto 3 <| .ask E218 (hF218 z d0 d1 j9 (w64 (f5 - 1)) w l0 y) fun ⟨f6, f7⟩ => .auto 2 <| .test (0 + f ≤ List.length i) (fun h5 => .test (0 + j ≤ List.length l) (fun h6 => .test (0 + f6 ≤ List.length f7) (fun h7 => .ret (.a0 1 ([[vb true, lS 2 [], i64 0, i64 0, u8 0, u8 0, u8 0, u8 0, u8 0, u8 0, u8 0, u8 0, i64 0, i64 0, i64 0, i64 0, i64 0, i64 0, lS 23 (List.take f i), lS 2 (List.take j l), i64 a.c3, lS 23 (List.take f6 f7), i64 v]]))) (fun _ => .fail)) (fun _ => .fail)) (fun _ => .fail)) (fun h4 => .auto 1 <| .test (0 + f ≤ List.length i) (fun h5 => .test (0 + j ≤ List.length l) (fun h6 => .ret (.a0 1 ([[vb true, lS 2 [], i64 0, i64 0, u8 0, u8 0, u8 0, u8 0, u8 0, u8 0, u8 0, u8 0, i64 0, i64 0, i64 0, i64 0, i64 0, i64 0, lS 23 (List.take f i), lS 2 (List.take j l), i64 a.c3, lS 23 [], i64 v]]))) (fun _ => .fail)) (fun _ => .fail))) (fun h3 => .auto 4 <| .test (0 + f ≤ List.length i) (fun h4 => .test (0 + j ≤ List.length l) (fun h5 => .ret (.a0 1 ([[vb true, lS 2 [], i64 0, i64 0, u8 0, u8 0, u8 0, u8 0, u8 0, u8 0, u8 0, u8 0, i64 0, i64 0, i64 0, i64 0, i64 0, i64 0, lS 23 (List.take f i), lS 2 (List.take j l), i64 a.c3, lS 23 [], i64 v]]))) (fun _ => .fail)) (fun _ => .fail))))) (fun _ => .fail)
theorem D218_ok (rF158 : K158) (hF158 : H158 rF158) (rF218 : K218) (hF218 : H218 rF218) (a d : Int) (f i : LV) (j l : Int) (m : W59) (o : Int) : ∀ b, (D218 rF158 hF158 rF218 hF218 a d f i j l m o).ev some = some b → UU 218 ([V.agg [i64 a, i64 d, lS 1 f], V.agg [lS 50 i], i64 j, i64 l, V.agg (W59.cells m), i64 o]) ([]) = some (A218.out b) :=
  fn_ok (E := E218) (L := notIn []) rfl rfl (fun x => by kernel_rfl)
noncomputable def G218 (rF158 : K158) (hF158 : H158 rF158) : Nat → { r : Int → Int → LV → LV → Int → Int → W59 → Int → Option A218 // ∀ (a d : Int) (f i : LV) (j l : Int) (m : W59) (o : Int) (b : A218), r a d f i j l m o = some b → UU 218 ([V.agg [i64 a, i64 d, lS 1 f], V.agg [lS 50 i], i64 j, i64 l, V.agg (W59.cells m), i64 o]) ([]) = some (A218.out b) }
  | 0 => ⟨fun _ _ _ _ _ _ _ _ => none, fun _ _ _ _ _ _ _ _ _ h => by cases h⟩
  | n + 1 => ⟨fun a d f i j l m o => (D218 rF158 hF158 (G218 rF158 hF158 n).1 (G218 rF158 hF158 n).2 a d f i j l m o).ev some, fun a d f i j l m o => D218_ok rF158 hF158 (G218 rF158 hF158 n).1 (G218 rF158 hF158 n).2 a d f i j l m o⟩
noncomputable def F218 (rF158 : K158) (hF158 : H158 rF158) (n : Nat) (o p : Int) (q s : LV) (t u : Int) (v : W59) (w : Int) : Option A218 := (G218 rF158 hF158 n).1 o p q s t u v w
theorem F218_ok (rF158 : K158) (hF158 : H158 rF158) (n : Nat) (a d : Int) (f i : LV) (j l : Int) (m : W59) (o : Int) : ∀ b, F218 rF158 hF158 n a d f i j l m o = some b → UU 218 ([V.agg [i64 a, i64 d, lS 1 f], V.agg [lS 50 i], i64 j, i64 l, V.agg (W59.cells m), i64 o]) ([]) = some (A218.out b) := (G218 rF158 hF158 n).2 a d f i j l m o
theorem F218_succ (rF158 : K158) (hF158 : H158 rF158) (n : Nat) (o p : Int) (q s : LV) (t u : Int) (v : W59) (w : Int) : F218 rF158 hF158 (n + 1) o p q s t u v w = (D218 rF158 hF158 (F218 rF158 hF158 n) (F218_ok rF158 hF158 n) o p q s t u v w).ev some := rfl
/-! ## F158 -/
noncomputable abbrev B158 : Code := (Tryz.f158.body).getD .skip
inductive T158_0s0 where
  | mk (a d : Int) (f : Nat) (i j l m : Int) (o : LV) (p : W59) (q s : LV)
inductive T158_0e0 where
  | mk (a : Nat) (d : LV)
inductive N158_0 where
  | s0 (x : T158_0s0)
  | e0 (x : T158_0e0)
abbrev N158_0.out : N158_0 → VX × S
  | .s0 (.mk a d f i j l m o p q s) => (vN, S.mk (U :: U :: i64 a :: U :: i64 d :: pT 0 :: U :: U :: pT 1 :: U :: U :: hS 2 f :: pT 3 :: un 14 (i64 i :: i64 j :: un 29 [])) [oF 3 [[i64 l, i64 m, lS 1 o]], oF 6 [W59.cells p], oT 23 q, oF 1 [[lS 50 s]]])
  | .e0 (.mk t u) => (vX 0, S.mk (un 11 (hS 0 t :: un 46 [])) [oT 23 u])
abbrev E158_0 := Ent.o2 N158_0.out .s0 .e0 (fun b => by cases b <;> simp)
noncomputable def D158_0 (rF158 : K158) (hF158 : H158 rF158) : T158_0s0 → PT N158_0
  | .mk j l a w d m o p q i f =>
   .test (d < w)
    (fun h0 =>
    .auto 1 <|
    .test (w64 (d + 1) < (f.length : Int))
     (fun h1 =>
     .auto 5 <|
     .test (0 ≤ w64 (d + 1))
      (fun h2 =>
      .look RW57 (f[Int.toNat (w64 (d + (1 : Int)))]?) fun d5 =>
      .auto 4 <|
      .testB (d5.c3 != 0)
       (fun h3 =>
       .ret (.s0 (.mk j l a w (w64 (d + 1)) m o p q i f))
      )
       (fun h3 =>
       .auto 3 <|
       .ask E218 (F218_ok rF158 hF158 100000 m o p f d j q l) fun (r : A218) => match r with
       | .a0 s t =>
        .test (0 + s ≤ List.length t)
         (fun h4 =>
         .test (0 + a ≤ List.length i ∧ (a + List.length (List.take s t)) * 192 ≤ 140737488355328 ∧ a + List.length (List.take s t) ≤ 140737488355328)
          (fun h5 =>
          .ret (.s0 (.mk j l (a + List.length (List.take s t)) w (w64 (d + 1)) m o p q (List.take a i ++ List.take s t) f))
         )
          (fun _ => .fail)
        )
         (fun _ => .fail)
      )
     )
      (fun _ => .fail)
    )
     (fun h1 =>
     .auto 12 <|
     .ask E218 (F218_ok rF158 hF158 100000 m o p f d j q l) fun (r : A218) => match r with
     | .a0 u v =>
      .test (0 + u ≤ List.length v)
       (fun h2 =>
       .test (0 + a ≤ List.length i ∧ (a + List.length (List.take u v)) * 192 ≤ 140737488355328 ∧ a + List.length (List.take u v) ≤ 140737488355328)
        (fun h3 =>
        .ret (.s0 (.mk j l (a + List.length (List.take u v)) w (w64 (d + 1)) m o p q (List.take a i ++ List.take u v) f))
       )
        (fun _ => .fail)
      )
       (fun _ => .fail)
    )
   )
    (fun h0 =>
    .ret (.e0 (.mk a i))
   )
noncomputable def L158_0 (rF158 : K158) (hF158 : H158 rF158) := E158_0.loop fun | .s0 x => D158_0 rF158 hF158 x | _ => .fail
theorem L158_0_ok (rF158 : K158) (hF158 : H158 rF158) : LU 158 0 B158 0 E158_0 (L158_0 rF158 hF158) :=
  lk (L := notIn []) (fun b hb => by cases b <;> first | (cases hb; done) | (rename_i x; cases x; intro x; kernel_rfl) | (intro x; kernel_rfl))
noncomputable def N158_0.nx (rF158 : K158) (hF158 : H158 rF158) (n : Nat) : N158_0 → Option N158_0 | .s0 x => L158_0 rF158 hF158 n (.s0 x) | .e0 x => some (.e0 x)
theorem L158_0_s0 (rF158 : K158) (hF158 : H158 rF158) (n : Nat) (x : T158_0s0) : L158_0 rF158 hF158 (n + 1) (.s0 x) = (D158_0 rF158 hF158 x).ev (N158_0.nx rF158 hF158 n) := Ent.loop_eq fun c => by cases c <;> rfl
inductive T158_r1s0 where
  | mk (a d f i j : Int) (l : LV) (m : W59)
abbrev T158_r1s0.st : T158_r1s0 → S
  | .mk a d f i j l m => S.mk (U :: i64 a :: i64 d :: U :: i64 f :: pT 0 :: U :: U :: pT 1 :: un 49 []) [oF 3 [[i64 i, i64 j, lS 1 l]], oF 6 [W59.cells m]]
inductive T158_r1e0 where
  | mk (a d f : Int) (i : Bool) (j l : Int) (m : LV) (o : W59)
inductive N158_r1 where
  | e0 (x : T158_r1e0)
abbrev N158_r1.out : N158_r1 → VX × S
  | .e0 (.mk a d f i j l m o) => (vN, S.mk (U :: i64 a :: i64 d :: U :: i64 f :: pT 0 :: U :: U :: pT 1 :: un 10 (vb i :: un 38 [])) [oF 3 [[i64 j, i64 l, lS 1 m]], oF 6 [W59.cells o]])
abbrev E158_r1 := Ent.o1 N158_r1.out .e0 fun ⟨x⟩ => ⟨x, rfl⟩
noncomputable def D158_r1 (rF158 : K158) (hF158 : H158 rF158) : T158_r1s0 → PT N158_r1
  | .mk p q a s t u v =>
   .test (a < 0)
    (fun h0 =>
    .auto 2 <|
    .ret (.e0 (.mk p q a true s t u v))
   )
    (fun h0 =>
    .auto 2 <|
    .ret (.e0 (.mk p q a (decide (a ≥ 4)) s t u v))
   )
noncomputable def J158_r1 (rF158 : K158) (hF158 : H158 rF158) (y : T158_r1s0) : Option N158_r1 := (D158_r1 rF158 hF158 y).ev some
theorem J158_r1_ok (rF158 : K158) (hF158 : H158 rF158) (y : T158_r1s0) : ∀ b, J158_r1 rF158 hF158 y = some b → regP Tryz.prog X CC 158 0 B158 1 y.st = some (E158_r1.out b) := by
  cases y; exact reg_ok (E := E158_r1) (fun x => by kernel_rfl)
noncomputable def D158 (rF158 : K158) (hF158 : H158 rF158) (a d : Int) (f : LV) (i j : Int) (l : W59) (m : Int) : PT A158 := .cut E158_r1 (J158_r1_ok rF158 hF158 (.mk i j m a d f l)) fun | .e0 (.mk o s t u v w p y) => .testB u (fun h0 => .ret (.a0 0 ([]))) (fun h0 => .auto 1 <| .test (0 ≤ o) (fun h1 => .look RW52 (p[Int.toNat o]?) fun q => .auto 2 <| .cut E158_0 (L158_0_ok rF158 hF158 (.s0 (.mk s t 0 (((List.length q.c0) : Int)) 0 v w p y ([]) q.c0)) rfl) fun | .e0 (.mk z d0) => .ret (.a0 z d0) | _ => .fail) (fun _ => .fail))
theorem D158_ok (rF158 : K158) (hF158 : H158 rF158) (a d : Int) (f : LV) (i j : Int) (l : W59) (m : Int) : ∀ b, (D158 rF158 hF158 a d f i j l m).ev some = some b → UU 158 ([V.agg [i64 a, i64 d, lS 1 f], i64 i, i64 j, V.agg (W59.cells l), i64 m]) ([]) = some (A158.out b) :=
  fn_ok (E := E158) (L := notIn []) rfl rfl (fun x => by kernel_rfl)
noncomputable def G158 : Nat → { r : Int → Int → LV → Int → Int → W59 → Int → Option A158 // ∀ (a d : Int) (f : LV) (i j : Int) (l : W59) (m : Int) (b : A158), r a d f i j l m = some b → UU 158 ([V.agg [i64 a, i64 d, lS 1 f], i64 i, i64 j, V.agg (W59.cells l), i64 m]) ([]) = some (A158.out b) }
  | 0 => ⟨fun _ _ _ _ _ _ _ => none, fun _ _ _ _ _ _ _ _ h => by cases h⟩
  | n + 1 => ⟨fun a d f i j l m => (D158 (G158 n).1 (G158 n).2 a d f i j l m).ev some, fun a d f i j l m => D158_ok (G158 n).1 (G158 n).2 a d f i j l m⟩
noncomputable def F158 (n : Nat) (a d : Int) (f : LV) (i j : Int) (l : W59) (m : Int) : Option A158 := (G158 n).1 a d f i j l m
theorem F158_ok (n : Nat) (a d : Int) (f : LV) (i j : Int) (l : W59) (m : Int) : ∀ b, F158 n a d f i j l m = some b → UU 158 ([V.agg [i64 a, i64 d, lS 1 f], i64 i, i64 j, V.agg (W59.cells l), i64 m]) ([]) = some (A158.out b) := (G158 n).2 a d f i j l m
theorem F158_succ (n : Nat) (a d : Int) (f : LV) (i j : Int) (l : W59) (m : Int) : F158 (n + 1) a d f i j l m = (D158 (F158 n) (F158_ok n) a d f i j l m).ev some := rfl
/-! ## F91 -/
noncomputable def D91 (f i : Int) (a : LV) (d j : Int) (l : W59) (m : Int) : PT A91 := .auto 1 <| .ask E157 (F157_ok f i a) fun ⟨o⟩ => .testB (o != 0) (fun h0 => .auto 9 <| .ret (.a0 0 ([]))) (fun h0 => .auto 2 <| .test (d < 0) (fun h1 => .auto 6 <| .ret (.a0 0 ([]))) (fun h1 => .auto 6 <| .test (d ≥ (a.length : Int)) (fun h2 => .ret (.a0 0 ([]))) (fun h2 => .auto 2 <| .ask E158 (F158_ok 100000 f i a d j l m) fun ⟨p, q⟩ => .ret (.a0 p q))))
noncomputable def F91 (a d : Int) (f : LV) (i j : Int) (l : W59) (m : Int) : Option A91 := (D91 a d f i j l m).ev some
theorem F91_ok (a d : Int) (f : LV) (i j : Int) (l : W59) (m : Int) : FU E91 (F91 a d f i j l m) 91 [V.agg [i64 a, i64 d, lS 1 f], i64 i, i64 j, V.agg (W59.cells l), i64 m] := fu rfl rfl fun x => by kernel_rfl
/-! ## F33 -/
noncomputable def D33 (a d : Int) (f : LV) (i : Int) : PT A33 := .auto 1 <| .tot O78 F78_ok fun j => .ask E91 (F91_ok a d f 0 i j 0) fun ⟨l, m⟩ => .ret (.a0 l m)
noncomputable def F33 (a d : Int) (f : LV) (i : Int) : Option A33 := (D33 a d f i).ev some
theorem F33_ok (a d : Int) (f : LV) (i : Int) : FU E33 (F33 a d f i) 33 [V.agg [i64 a, i64 d, lS 1 f], i64 i] := fu rfl rfl fun x => by kernel_rfl
/-! ## F219 -/
noncomputable def D219 (a : Int) : PT Int := .auto 1 <| .testB (w64 (↑(BitVec.toNat (BitVec.ofInt (IntKind.bits IntKind.i64) a &&& BitVec.ofInt (IntKind.bits IntKind.i64) 65535)) : Int) != 0) (fun h0 => .ret (w64 (Int.fdiv a 65536 + 1))) (fun h0 => .ret (Int.fdiv a 65536))
abbrev O219 (a : Int) : V × Store := (i64 a, [])
noncomputable def F219 (a : Int) : Int := (D219 a).evT
theorem F219_ok (a : Int) : UU 219 ([i64 a]) ([]) = some (O219 (F219 a)) :=
  fnT_ok (out := O219) (L := notIn []) rfl rfl (fun x => by kernel_rfl) (by simp [D219, PT.isT])
/-! ## F162 -/
noncomputable abbrev B162 : Code := (Tryz.f162.body).getD .skip
inductive T162_c36s0 where
  | mk (a : Bool) (d : LV) (f i : Int) (j : LV) (l m o p q s t u v w : Int)
abbrev T162_c36s0.st : T162_c36s0 → S
  | .mk a d f i j l m o p q s t u v w => S.mk (U :: U :: pT 0 :: pT 1 :: vb a :: un 4 (pT 2 :: lS 2 d :: i64 f :: i64 i :: un 4 (lS 2 j :: i64 l :: i64 m :: un 16 (vb a :: un 25 [])))) [oF 4 [[i64 0, i64 0, i64 0, i64 0]], oF 4 [[i64 o, i64 p, i64 q, i64 s]], oF 4 [[i64 t, i64 u, i64 v, i64 w]]]
inductive T162_c36e0 where
  | mk (a : Bool) (d : LV) (f i : Int) (j : LV) (l m o p q s t u v w : Int)
inductive N162_c36 where
  | e0 (x : T162_c36e0)
abbrev N162_c36.out : N162_c36 → VX × S
  | .e0 (.mk a d f i j l m o p q s t u v w) => (vN, S.mk (U :: U :: pT 0 :: pT 1 :: vb a :: un 4 (pT 2 :: lS 2 d :: i64 f :: i64 i :: un 4 (lS 2 j :: i64 l :: i64 m :: un 42 []))) [oF 4 [[i64 0, i64 0, i64 0, i64 0]], oF 4 [[i64 o, i64 p, i64 q, i64 s]], oF 4 [[i64 t, i64 u, i64 v, i64 w]]])
abbrev E162_c36 := Ent.o1 N162_c36.out .e0 fun ⟨x⟩ => ⟨x, rfl⟩
noncomputable def D162_c36 : T162_c36s0 → PT N162_c36 | .mk j l m o p q s t u v w a d f i => .testB j (fun h0 => .auto 2 <| .ret (.e0 (.mk false l m o p q s a d f i a d f i))) (fun h0 => .ret (.e0 (.mk j l m o p q s t u v w a d f i)))
noncomputable def J162_c36 (y : T162_c36s0) : Option N162_c36 := (D162_c36 y).ev some
theorem J162_c36_ok (y : T162_c36s0) : CU 162 0 B162 36 E162_c36 (J162_c36 y) y.st := by
  cases y; exact cond_ok (L := notIn []) fun x => by kernel_rfl
inductive T162_2s0 where
  | mk (a : Bool) (d : LV) (f i : Int) (j : LV) (l m o p q s : Int)
inductive T162_2e0 where
  | mk (a : Bool) (d : LV) (f i j l m o : Int)
inductive N162_2 where
  | s0 (x : T162_2s0)
  | e0 (x : T162_2e0)
abbrev N162_2.out : N162_2 → VX × S
  | .s0 (.mk a d f i j l m o p q s) => (vN, S.mk (U :: U :: pT 0 :: pT 1 :: vb a :: un 5 (lS 2 d :: i64 f :: i64 i :: un 4 (lS 2 j :: i64 l :: i64 m :: un 42 []))) [oF 4 [[i64 0, i64 0, i64 0, i64 0]], oF 4 [[i64 o, i64 p, i64 q, i64 s]]])
  | .e0 (.mk t u v w y z d0 d1) => (vX 2, S.mk (U :: U :: pT 0 :: pT 1 :: vb t :: un 5 (lS 2 u :: i64 v :: i64 w :: un 49 [])) [oF 4 [[i64 0, i64 0, i64 0, i64 0]], oF 4 [[i64 y, i64 z, i64 d0, i64 d1]]])
abbrev E162_2 := Ent.o2 N162_2.out .s0 .e0 (fun b => by cases b <;> simp)
noncomputable def D162_2 : T162_2s0 → PT N162_2 | .mk f i j l m o a p q s t => .test (a < o) (fun h0 => .test (0 ≤ a) (fun h1 => .look RW28 (m[Int.toNat a]?) fun d => .auto 6 <| .tot O219 (F219_ok d.c0) fun d3 => .auto 1 <| .tot O219 (F219_ok d.c1) fun d4 => .auto 1 <| .cut E162_c36 (J162_c36_ok (.mk f i j l m o a p q s t (Int.fdiv d.c0 65536) (Int.fdiv d.c1 65536) d3 d4)) fun | .e0 (.mk d5 d6 d7 d8 d9 f0 f1 u v w y z d0 d1 d2) => .auto 9 <| .ret (.s0 (.mk d5 d6 d7 d8 d9 f0 (w64 (f1 + 1)) (if z < u then z else u) (if d0 < v then d0 else v) (if d1 > w then d1 else w) (if d2 > y then d2 else y)))) (fun _ => .fail)) (fun h0 => .ret (.e0 (.mk f i j l p q s t)))
noncomputable def L162_2 := E162_2.loop fun | .s0 x => D162_2 x | _ => .fail
theorem L162_2_ok : LU 162 0 B162 2 E162_2 L162_2 :=
  lk (L := notIn []) (fun b hb => by cases b <;> first | (cases hb; done) | (rename_i x; cases x; intro x; kernel_rfl) | (intro x; kernel_rfl))
noncomputable def N162_2.nx (n : Nat) : N162_2 → Option N162_2 | .s0 x => L162_2 n (.s0 x) | .e0 x => some (.e0 x)
theorem L162_2_s0 (n : Nat) (x : T162_2s0) : L162_2 (n + 1) (.s0 x) = (D162_2 x).ev (N162_2.nx n) := Ent.loop_eq fun c => by cases c <;> rfl
inductive T162_0s0 where
  | mk (a : Bool) (d : LV) (f i j l m o : Int)
inductive T162_0e0 where
  | mk (a d f i : Int)
inductive N162_0 where
  | s0 (x : T162_0s0)
  | e0 (x : T162_0e0)
abbrev N162_0.out : N162_0 → VX × S
  | .s0 (.mk a d f i j l m o) => (vN, S.mk (U :: U :: pT 0 :: pT 1 :: vb a :: un 5 (lS 2 d :: i64 f :: i64 i :: un 49 [])) [oF 4 [[i64 0, i64 0, i64 0, i64 0]], oF 4 [[i64 j, i64 l, i64 m, i64 o]]])
  | .e0 (.mk p q s t) => (vX 0, S.mk (U :: U :: pT 0 :: pT 1 :: un 58 []) [oF 4 [[i64 0, i64 0, i64 0, i64 0]], oF 4 [[i64 p, i64 q, i64 s, i64 t]]])
abbrev E162_0 := Ent.o2 N162_0.out .s0 .e0 (fun b => by cases b <;> simp)
noncomputable def D162_0 : T162_0s0 → PT N162_0 | .mk p d f a i j l m => .test (a < f) (fun h0 => .test (0 ≤ a) (fun h1 => .look RW88 (d[Int.toNat a]?) fun o => .auto 2 <| .cut E162_2 (L162_2_ok (.s0 (.mk p d f a o.c1 (((List.length o.c1) : Int)) 0 i j l m)) rfl) fun | .e0 (.mk q s t u v w y z) => .ret (.s0 (.mk q s t (w64 (u + 1)) v w y z)) | _ => .fail) (fun _ => .fail)) (fun h0 => .ret (.e0 (.mk i j l m)))
noncomputable def L162_0 := E162_0.loop fun | .s0 x => D162_0 x | _ => .fail
theorem L162_0_ok : LU 162 0 B162 0 E162_0 L162_0 :=
  lk (L := notIn []) (fun b hb => by cases b <;> first | (cases hb; done) | (rename_i x; cases x; intro x; kernel_rfl) | (intro x; kernel_rfl))
noncomputable def N162_0.nx (n : Nat) : N162_0 → Option N162_0 | .s0 x => L162_0 n (.s0 x) | .e0 x => some (.e0 x)
theorem L162_0_s0 (n : Nat) (x : T162_0s0) : L162_0 (n + 1) (.s0 x) = (D162_0 x).ev (N162_0.nx n) := Ent.loop_eq fun c => by cases c <;> rfl
noncomputable def D162 (a : LV) : PT A162 := .cut E162_0 (L162_0_ok (.s0 (.mk true a ((a.length : Int)) 0 0 0 0 0)) rfl) fun | .e0 (.mk d f i j) => (.auto 2 <| .ret (.a0 d f i j)) | _ => .fail
noncomputable def F162 (a : LV) : Option A162 := (D162 a).ev some
theorem F162_ok (a : LV) : FU E162 (F162 a) 162 [lS 2 a] := fu rfl rfl fun x => by kernel_rfl
/-! ## F220 -/
noncomputable def D220 (a d f i : Int) : PT Bool := .auto 2 <| .test (f ≤ a) (fun h0 => .auto 5 <| .ret true) (fun h0 => .auto 7 <| .ret (decide (i ≤ d)))
abbrev O220 (a : Bool) : V × Store := (vb a, [])
noncomputable def F220 (a d f i : Int) : Bool := (D220 a d f i).evT
theorem F220_ok (a d f i : Int) : UU 220 ([V.agg [i64 a, i64 d, i64 f, i64 i]]) ([]) = some (O220 (F220 a d f i)) :=
  fnT_ok (out := O220) (L := notIn []) rfl rfl (fun x => by kernel_rfl) (by simp [D220, PT.isT])
/-! ## F166 -/
noncomputable abbrev B166 : Code := (Tryz.f166.body).getD .skip
inductive T166_r1s0 where
  | mk (a d f i j l m o : Int)
abbrev T166_r1s0.st : T166_r1s0 → S
  | .mk a d f i j l m o => S.mk (U :: U :: pT 0 :: pT 1 :: pT 2 :: un 37 []) [oF 4 [[i64 a, i64 d, i64 f, i64 i]], oF 4 [[i64 j, i64 l, i64 m, i64 o]], oF 4 [[i64 0, i64 0, i64 0, i64 0]]]
inductive T166_r1e0 where
  | mk (a : Bool) (d f i j l m o p : Int)
inductive N166_r1 where
  | e0 (x : T166_r1e0)
abbrev N166_r1.out : N166_r1 → VX × S
  | .e0 (.mk a d f i j l m o p) => (vN, S.mk (U :: U :: pT 0 :: pT 1 :: pT 2 :: vb a :: un 36 []) [oF 4 [[i64 d, i64 f, i64 i, i64 j]], oF 4 [[i64 l, i64 m, i64 o, i64 p]], oF 4 [[i64 0, i64 0, i64 0, i64 0]]])
abbrev E166_r1 := Ent.o1 N166_r1.out .e0 fun ⟨x⟩ => ⟨x, rfl⟩
noncomputable def D166_r1 : T166_r1s0 → PT N166_r1 | .mk a d f i j l m o => .auto 1 <| .tot O220 (F220_ok a d f i) fun p => .testB p (fun h0 => .auto 2 <| .tot O220 (F220_ok j l m o) fun q => .auto 1 <| .ret (.e0 (.mk q a d f i j l m o))) (fun h0 => .auto 2 <| .ret (.e0 (.mk false a d f i j l m o)))
noncomputable def J166_r1 (y : T166_r1s0) : Option N166_r1 := (D166_r1 y).ev some
theorem J166_r1_ok (y : T166_r1s0) : ∀ b, J166_r1 y = some b → regP Tryz.prog X CC 166 0 B166 1 y.st = some (E166_r1.out b) := by
  cases y; exact reg_ok (E := E166_r1) (fun x => by kernel_rfl)
noncomputable def D166 (p q s t u v w y : Int) : PT A166 := .cut E166_r1 (J166_r1_ok (.mk p q s t u v w y)) fun | .e0 (.mk z a d f i j l m o) => .testB z (fun h0 => .auto 1 <| .ret (.a0 0 0 0 0)) (fun h0 => .auto 1 <| .tot O220 (F220_ok a d f i) fun d0 => .testB d0 (fun h1 => .auto 2 <| .ret (.a0 j l m o)) (fun h1 => .auto 1 <| .tot O220 (F220_ok j l m o) fun d1 => .testB d1 (fun h2 => .auto 2 <| .ret (.a0 a d f i)) (fun h2 => .auto 9 <| .ret (.a0 (if j < a then j else a) (if l < d then l else d) (if m > f then m else f) (if o > i then o else i)))))
noncomputable def F166 (a d f i j l m o : Int) : Option A166 := (D166 a d f i j l m o).ev some
theorem F166_ok (a d f i j l m o : Int) : FU E166 (F166 a d f i j l m o) 166 [V.agg [i64 a, i64 d, i64 f, i64 i], V.agg [i64 j, i64 l, i64 m, i64 o]] := fu rfl rfl fun x => by kernel_rfl
/-! ## F102 -/
abbrev K94 := W87 → Option A94
abbrev H94 (r : K94) : Prop := ∀ (d : W87) (b : A94), r d = some b → UU 94 ([V.agg (W87.cells d)]) ([]) = some (A94.out b)
noncomputable abbrev B102 : Code := (Tryz.f102.body).getD .skip
inductive T102_0s0 where
  | mk (a : LV) (d f i j l m : Int)
inductive T102_0e0 where
  | mk (a d f i : Int)
inductive N102_0 where
  | s0 (x : T102_0s0)
  | e0 (x : T102_0e0)
abbrev N102_0.out : N102_0 → VX × S
  | .s0 (.mk a d f i j l m) => (vN, S.mk (U :: U :: pT 0 :: pT 1 :: U :: U :: lS 23 a :: i64 d :: i64 f :: un 9 []) [oF 4 [[i64 0, i64 0, i64 0, i64 0]], oF 4 [[i64 i, i64 j, i64 l, i64 m]]])
  | .e0 (.mk o p q s) => (vX 0, S.mk (U :: U :: pT 0 :: pT 1 :: un 14 []) [oF 4 [[i64 0, i64 0, i64 0, i64 0]], oF 4 [[i64 o, i64 p, i64 q, i64 s]]])
abbrev E102_0 := Ent.o2 N102_0.out .s0 .e0 (fun b => by cases b <;> simp)
noncomputable def D102_0 (rF94 : K94) (hF94 : H94 rF94) : T102_0s0 → PT N102_0
  | .mk f i a j l m o =>
   .test (a < i)
    (fun h0 =>
    .test (0 ≤ a)
     (fun h1 =>
     .look RW87 (f[Int.toNat a]?) fun p =>
     .auto 3 <|
     .ask E94 (hF94 p) fun (r : A94) => match r with
     | .a0 q s t u =>
      .ask E166 (F166_ok j l m o q s t u) fun (r : A166) => match r with
      | .a0 v w y z =>
       .auto 1 <|
       .ret (.s0 (.mk f i (w64 (a + 1)) v w y z))
    )
     (fun _ => .fail)
   )
    (fun h0 =>
    .ret (.e0 (.mk j l m o))
   )
noncomputable def L102_0 (rF94 : K94) (hF94 : H94 rF94) := E102_0.loop fun | .s0 x => D102_0 rF94 hF94 x | _ => .fail
theorem L102_0_ok (rF94 : K94) (hF94 : H94 rF94) : LU 102 0 B102 0 E102_0 (L102_0 rF94 hF94) :=
  lk (L := notIn []) (fun b hb => by cases b <;> first | (cases hb; done) | (rename_i x; cases x; intro x; kernel_rfl) | (intro x; kernel_rfl))
noncomputable def N102_0.nx (rF94 : K94) (hF94 : H94 rF94) (n : Nat) : N102_0 → Option N102_0 | .s0 x => L102_0 rF94 hF94 n (.s0 x) | .e0 x => some (.e0 x)
theorem L102_0_s0 (rF94 : K94) (hF94 : H94 rF94) (n : Nat) (x : T102_0s0) : L102_0 rF94 hF94 (n + 1) (.s0 x) = (D102_0 rF94 hF94 x).ev (N102_0.nx rF94 hF94 n) := Ent.loop_eq fun c => by cases c <;> rfl
noncomputable def D102 (rF94 : K94) (hF94 : H94 rF94) (d : LV) : PT A102 := .cut E102_0 (L102_0_ok rF94 hF94 (.s0 (.mk d ((d.length : Int)) 0 0 0 0 0)) rfl) fun | .e0 (.mk f i j l) => (.auto 2 <| .ret (.a0 f i j l)) | _ => .fail
noncomputable def F102 (rF94 : K94) (hF94 : H94 rF94) (d : LV) : Option A102 := (D102 rF94 hF94 d).ev some
theorem F102_ok (rF94 : K94) (hF94 : H94 rF94) (d : LV) : FU E102 (F102 rF94 hF94 d) 102 [lS 23 d] := fu rfl rfl fun x => by kernel_rfl
/-! ## F94 -/
noncomputable def D94 (rF94 : K94) (hF94 : H94 rF94) (a : W87) : PT A94 := .auto 1 <| .testB a.c0 (fun h0 => .auto 1 <| .ask E102 (F102_ok rF94 hF94 a.c18) fun ⟨d, f, i, j⟩ => .auto 1 <| .ret (.a0 d f i j)) (fun h0 => .auto 1 <| .ask E162 (F162_ok a.c1) fun ⟨l, m, o, p⟩ => .auto 1 <| .ret (.a0 l m o p))
theorem D94_ok (rF94 : K94) (hF94 : H94 rF94) (a : W87) : ∀ b, (D94 rF94 hF94 a).ev some = some b → UU 94 ([V.agg (W87.cells a)]) ([]) = some (A94.out b) :=
  fn_ok (E := E94) (L := notIn []) rfl rfl (fun x => by kernel_rfl)
noncomputable def G94 : Nat → { r : W87 → Option A94 // ∀ (a : W87) (b : A94), r a = some b → UU 94 ([V.agg (W87.cells a)]) ([]) = some (A94.out b) }
  | 0 => ⟨fun _ => none, fun _ _ h => by cases h⟩
  | n + 1 => ⟨fun a => (D94 (G94 n).1 (G94 n).2 a).ev some, fun a => D94_ok (G94 n).1 (G94 n).2 a⟩
noncomputable def F94 (n : Nat) (a : W87) : Option A94 := (G94 n).1 a
theorem F94_ok (n : Nat) (a : W87) : ∀ b, F94 n a = some b → UU 94 ([V.agg (W87.cells a)]) ([]) = some (A94.out b) := (G94 n).2 a
theorem F94_succ (n : Nat) (a : W87) : F94 (n + 1) a = (D94 (F94 n) (F94_ok n) a).ev some := rfl
/-! ## F160 -/
noncomputable def D160 (a : Bool) (d : LV) (f : Bool) (i : LV) : PT A160 := .auto 2 <| .testB (a == f) (fun h0 => .auto 6 <| .ask E161 (F161_ok d i) fun ⟨j⟩ => .auto 1 <| .ret (.a0 j)) (fun h0 => .auto 5 <| .ret (.a0 false))
noncomputable def F160 (a : Bool) (d : LV) (f : Bool) (i : LV) : Option A160 := (D160 a d f i).ev some
theorem F160_ok (a : Bool) (d : LV) (f : Bool) (i : LV) : FU E160 (F160 a d f i) 160 [V.agg [vb a, lS 2 d], V.agg [vb f, lS 2 i]] := fu rfl rfl fun x => by kernel_rfl
/-! ## F159 -/
noncomputable abbrev B159 : Code := (Tryz.f159.body).getD .skip
inductive T159_0s0 where
  | mk (a d : LV) (f i : Int)
inductive N159_0 where
  | s0 (x : T159_0s0)
  | e0
  | e1
abbrev N159_0.out : N159_0 → VX × S
  | .s0 (.mk a d f i) => (vN, S.mk (U :: lS 2 a :: V.fn 160 [] :: un 12 (lS 2 d :: i64 f :: i64 i :: un 14 [])) [])
  | .e0 => (VX.ret, S.mk (un 6 (vb false :: un 25 [])) [])
  | .e1 => (vX 0, S.mk (un 32 []) [])
abbrev E159_0 := Ent.o3 N159_0.out .s0 (fun (_ : Unit) => .e0) (fun (_ : Unit) => .e1) (fun b => by cases b <;> simp)
noncomputable def D159_0 : T159_0s0 → PT N159_0 | .mk d f i a => .test (a < i) (fun h0 => .test (0 ≤ a) (fun h1 => .look RW88 (f[Int.toNat a]?) fun j => .auto 1 <| .known (decide_eq_true h1) <| .look RW88 (d[Int.toNat a]?) fun l => .auto 3 <| .ask E160 (F160_ok j.c0 j.c1 l.c0 l.c1) fun ⟨m⟩ => .testB (!m) (fun h2 => .ret .e0) (fun h2 => .ret (.s0 (.mk d f i (w64 (a + 1)))))) (fun _ => .fail)) (fun h0 => .ret .e1)
noncomputable def L159_0 := E159_0.loop fun | .s0 x => D159_0 x | _ => .fail
theorem L159_0_ok : LU 159 0 B159 0 E159_0 L159_0 :=
  lk (L := notIn []) (fun b hb => by cases b <;> first | (cases hb; done) | (rename_i x; cases x; intro x; kernel_rfl) | (intro x; kernel_rfl))
noncomputable def N159_0.nx (n : Nat) : N159_0 → Option N159_0 | .s0 x => L159_0 n (.s0 x) | .e0 => some .e0 | .e1 => some .e1
theorem L159_0_s0 (n : Nat) (x : T159_0s0) : L159_0 (n + 1) (.s0 x) = (D159_0 x).ev (N159_0.nx n) := Ent.loop_eq fun c => by cases c <;> rfl
noncomputable def D159 (a d : LV) : PT A159 := .testB ((a.length : Int) != (d.length : Int)) (fun h0 => .ret (.a0 false)) (fun h0 => .cut E159_0 (L159_0_ok (.s0 (.mk d a ((a.length : Int)) 0)) rfl) fun | .e0 => .ret (.a0 false) | .e1 => .ret (.a0 true) | _ => .fail)
noncomputable def F159 (a d : LV) : Option A159 := (D159 a d).ev some
theorem F159_ok (a d : LV) : FU E159 (F159 a d) 159 [lS 2 a, lS 2 d, V.fn 160 []] := fu rfl rfl fun x => by kernel_rfl
/-! ## F92 -/
noncomputable def D92 (a d : LV) : PT A92 := .ask E159 (F159_ok a d) fun ⟨f⟩ => .ret (.a0 f)
noncomputable def F92 (a d : LV) : Option A92 := (D92 a d).ev some
theorem F92_ok (a d : LV) : FU E92 (F92 a d) 92 [lS 2 a, lS 2 d] := fu rfl rfl fun x => by kernel_rfl
/-! ## F93 -/
abbrev K34 := W87 → W87 → Option A34
abbrev H34 (r : K34) : Prop := ∀ (d : W87) (f : W87) (b : A34), r d f = some b → UU 34 ([V.agg (W87.cells d), V.agg (W87.cells f)]) ([]) = some (A34.out b)
noncomputable abbrev B93 : Code := (Tryz.f93.body).getD .skip
inductive T93_0s0 where
  | mk (a d : LV) (f i : Int)
inductive N93_0 where
  | s0 (x : T93_0s0)
  | e0
  | e1
abbrev N93_0.out : N93_0 → VX × S
  | .s0 (.mk a d f i) => (vN, S.mk (U :: lS 23 a :: V.fn 34 [] :: un 12 (lS 23 d :: i64 f :: i64 i :: un 14 [])) [])
  | .e0 => (VX.ret, S.mk (un 6 (vb false :: un 25 [])) [])
  | .e1 => (vX 0, S.mk (un 32 []) [])
abbrev E93_0 := Ent.o3 N93_0.out .s0 (fun (_ : Unit) => .e0) (fun (_ : Unit) => .e1) (fun b => by cases b <;> simp)
noncomputable def D93_0 (rF34 : K34) (hF34 : H34 rF34) : T93_0s0 → PT N93_0
  | .mk i j l a =>
   .test (a < l)
    (fun h0 =>
    .test (0 ≤ a)
     (fun h1 =>
     .look RW87 (j[Int.toNat a]?) fun m =>
     .auto 1 <|
     .known (decide_eq_true h1) <|
     .look RW87 (i[Int.toNat a]?) fun o =>
     .auto 3 <|
     .ask E34 (hF34 m o) fun (r : A34) => match r with
     | .a0 p =>
      .testB (!p)
       (fun h2 =>
       .ret .e0
      )
       (fun h2 =>
       .ret (.s0 (.mk i j l (w64 (a + 1))))
      )
    )
     (fun _ => .fail)
   )
    (fun h0 =>
    .ret .e1
   )
noncomputable def L93_0 (rF34 : K34) (hF34 : H34 rF34) := E93_0.loop fun | .s0 x => D93_0 rF34 hF34 x | _ => .fail
theorem L93_0_ok (rF34 : K34) (hF34 : H34 rF34) : LU 93 0 B93 0 E93_0 (L93_0 rF34 hF34) :=
  lk (L := notIn []) (fun b hb => by cases b <;> first | (cases hb; done) | (rename_i x; cases x; intro x; kernel_rfl) | (intro x; kernel_rfl))
noncomputable def N93_0.nx (rF34 : K34) (hF34 : H34 rF34) (n : Nat) : N93_0 → Option N93_0 | .s0 x => L93_0 rF34 hF34 n (.s0 x) | .e0 => some .e0 | .e1 => some .e1
theorem L93_0_s0 (rF34 : K34) (hF34 : H34 rF34) (n : Nat) (x : T93_0s0) : L93_0 rF34 hF34 (n + 1) (.s0 x) = (D93_0 rF34 hF34 x).ev (N93_0.nx rF34 hF34 n) := Ent.loop_eq fun c => by cases c <;> rfl
noncomputable def D93 (rF34 : K34) (hF34 : H34 rF34) (a i : LV) : PT A93 := .testB ((a.length : Int) != (i.length : Int)) (fun h0 => .ret (.a0 false)) (fun h0 => .cut E93_0 (L93_0_ok rF34 hF34 (.s0 (.mk i a ((a.length : Int)) 0)) rfl) fun | .e0 => .ret (.a0 false) | .e1 => .ret (.a0 true) | _ => .fail)
noncomputable def F93 (rF34 : K34) (hF34 : H34 rF34) (f i : LV) : Option A93 := (D93 rF34 hF34 f i).ev some
theorem F93_ok (rF34 : K34) (hF34 : H34 rF34) (f i : LV) : FU E93 (F93 rF34 hF34 f i) 93 [lS 23 f, lS 23 i, V.fn 34 []] := fu rfl rfl fun x => by kernel_rfl
/-! ## F34 -/
noncomputable abbrev B34 : Code := (Tryz.f34.body).getD .skip
inductive T34_r2s0 where
  | mk (a : Bool) (d : W87) (f : W87)
abbrev T34_r2s0.st : T34_r2s0 → S
  | .mk a d f => S.mk (U :: U :: pT 0 :: pT 1 :: U :: vb a :: un 79 []) [oF 23 [W87.cells d], oF 23 [W87.cells f]]
inductive T34_r2e0 where
  | mk (a d : Bool) (f : W87) (i : W87)
inductive N34_r2 where
  | e0 (x : T34_r2e0)
abbrev N34_r2.out : N34_r2 → VX × S
  | .e0 (.mk a d f i) => (vN, S.mk (U :: U :: pT 0 :: pT 1 :: U :: vb a :: vb d :: un 78 []) [oF 23 [W87.cells f], oF 23 [W87.cells i]])
abbrev E34_r2 := Ent.o1 N34_r2.out .e0 fun ⟨x⟩ => ⟨x, rfl⟩
noncomputable def D34_r2 (rF34 : K34) (hF34 : H34 rF34) : T34_r2s0 → PT N34_r2
  | .mk f a d =>
   .auto 2 <|
   .testB (a.c0 == d.c0)
    (fun h0 =>
    .auto 7 <|
    .testB (a.c20 == d.c20)
     (fun h1 =>
     .auto 7 <|
     .testB (a.c22 == d.c22)
      (fun h2 =>
      .auto 6 <|
      .ask E92 (F92_ok a.c19 d.c19) fun (r : A92) => match r with
      | .a0 l =>
       .auto 1 <|
       .ret (.e0 (.mk f l a d))
     )
      (fun h2 =>
      .auto 5 <|
      .ret (.e0 (.mk f false a d))
     )
    )
     (fun h1 =>
     .auto 11 <|
     .ret (.e0 (.mk f false a d))
    )
   )
    (fun h0 =>
    .auto 17 <|
    .ret (.e0 (.mk f false a d))
   )
noncomputable def J34_r2 (rF34 : K34) (hF34 : H34 rF34) (y : T34_r2s0) : Option N34_r2 := (D34_r2 rF34 hF34 y).ev some
theorem J34_r2_ok (rF34 : K34) (hF34 : H34 rF34) (y : T34_r2s0) : ∀ b, J34_r2 rF34 hF34 y = some b → regP Tryz.prog X CC 34 0 B34 2 y.st = some (E34_r2.out b) := by
  cases y; exact reg_ok (E := E34_r2) (fun x => by kernel_rfl)
inductive T34_r1s0 where
  | mk (a : W87) (d : W87)
abbrev T34_r1s0.st : T34_r1s0 → S
  | .mk a d => S.mk (U :: U :: pT 0 :: pT 1 :: un 81 []) [oF 23 [W87.cells a], oF 23 [W87.cells d]]
inductive T34_r1e0 where
  | mk (a : Bool) (d : W87) (f : W87)
inductive N34_r1 where
  | e0 (x : T34_r1e0)
abbrev N34_r1.out : N34_r1 → VX × S
  | .e0 (.mk a d f) => (vN, S.mk (U :: U :: pT 0 :: pT 1 :: U :: vb a :: un 79 []) [oF 23 [W87.cells d], oF 23 [W87.cells f]])
abbrev E34_r1 := Ent.o1 N34_r1.out .e0 fun ⟨x⟩ => ⟨x, rfl⟩
noncomputable def D34_r1 (rF34 : K34) (hF34 : H34 rF34) : T34_r1s0 → PT N34_r1
  | .mk a d =>
   .auto 2 <|
   .testB (a.c2 == d.c2)
    (fun h0 =>
    .auto 9 <|
    .testB (a.c3 == d.c3 && (a.c4 == d.c4 && (a.c5 == d.c5 && (a.c6 == d.c6 && (a.c7 == d.c7 && true))) && (a.c8 == d.c8 && (a.c9 == d.c9 && (a.c10 == d.c10 && (a.c11 == d.c11 && true))) && (a.c12 == d.c12 && (a.c13 == d.c13 && true) && (a.c14 == d.c14 && (a.c15 == d.c15 && true) && (a.c16 == d.c16 && true))))))
     (fun h1 =>
     .auto 9 <|
     .testB (a.c17 == d.c17)
      (fun h2 =>
      .auto 8 <|
      .ask E92 (F92_ok a.c1 d.c1) fun (r : A92) => match r with
      | .a0 j =>
       .auto 1 <|
       .ret (.e0 (.mk j a d))
     )
      (fun h2 =>
      .auto 7 <|
      .ret (.e0 (.mk false a d))
     )
    )
     (fun h1 =>
     .auto 15 <|
     .ret (.e0 (.mk false a d))
    )
   )
    (fun h0 =>
    .auto 23 <|
    .ret (.e0 (.mk false a d))
   )
noncomputable def J34_r1 (rF34 : K34) (hF34 : H34 rF34) (y : T34_r1s0) : Option N34_r1 := (D34_r1 rF34 hF34 y).ev some
theorem J34_r1_ok (rF34 : K34) (hF34 : H34 rF34) (y : T34_r1s0) : ∀ b, J34_r1 rF34 hF34 y = some b → regP Tryz.prog X CC 34 0 B34 1 y.st = some (E34_r1.out b) := by
  cases y; exact reg_ok (E := E34_r1) (fun x => by kernel_rfl)
noncomputable def D34 (rF34 : K34) (hF34 : H34 rF34) (a : W87) (d : W87) : PT A34 := .cut E34_r1 (J34_r1_ok rF34 hF34 (.mk a d)) fun | .e0 (.mk j l m) => .cut E34_r2 (J34_r2_ok rF34 hF34 (.mk j l m)) fun | .e0 (.mk o p f i) => .testB o (fun h0 => .auto 1 <| .testB p (fun h1 => .auto 6 <| .ask E93 (F93_ok rF34 hF34 f.c18 i.c18) fun ⟨q⟩ => .auto 1 <| .testB q (fun h2 => .auto 6 <| .ask E93 (F93_ok rF34 hF34 f.c21 i.c21) fun ⟨s⟩ => .auto 1 <| .ret (.a0 s)) (fun h2 => .auto 5 <| .ret (.a0 false))) (fun h1 => .auto 11 <| .ret (.a0 false))) (fun h0 => .auto 13 <| .ret (.a0 false))
theorem D34_ok (rF34 : K34) (hF34 : H34 rF34) (a : W87) (d : W87) : ∀ b, (D34 rF34 hF34 a d).ev some = some b → UU 34 ([V.agg (W87.cells a), V.agg (W87.cells d)]) ([]) = some (A34.out b) :=
  fn_ok (E := E34) (L := notIn []) rfl rfl (fun x => by kernel_rfl)
noncomputable def G34 : Nat → { r : W87 → W87 → Option A34 // ∀ (a : W87) (d : W87) (b : A34), r a d = some b → UU 34 ([V.agg (W87.cells a), V.agg (W87.cells d)]) ([]) = some (A34.out b) }
  | 0 => ⟨fun _ _ => none, fun _ _ _ h => by cases h⟩
  | n + 1 => ⟨fun a d => (D34 (G34 n).1 (G34 n).2 a d).ev some, fun a d => D34_ok (G34 n).1 (G34 n).2 a d⟩
noncomputable def F34 (n : Nat) (a : W87) (d : W87) : Option A34 := (G34 n).1 a d
theorem F34_ok (n : Nat) (a : W87) (d : W87) : ∀ b, F34 n a d = some b → UU 34 ([V.agg (W87.cells a), V.agg (W87.cells d)]) ([]) = some (A34.out b) := (G34 n).2 a d
theorem F34_succ (n : Nat) (a : W87) (d : W87) : F34 (n + 1) a d = (D34 (F34 n) (F34_ok n) a d).ev some := rfl
/-! ## F35 -/
noncomputable def D35 : PT A35 := .auto 8 <| .ask E33 (F33_ok 0 9 ([[lS 50 [[i64 0, i64 (-1), i64 0, i64 0, i64 0, i64 5, i64 0, lS 7 [], lS 7 [], lS 7 [], lS 7 [], lS 7 [], lS 7 [], lS 7 [], lS 7 [], lS 7 [], vb false, lS 2 [], i64 0, i64 0, lS 7 [[i64 0, i64 65536, i64 0, i64 0, i64 0, i64 0, i64 0]], lS 7 [[i64 0, i64 65536, i64 0, i64 0, i64 0, i64 0, i64 0]], lS 8 [], vb true, i64 0, i64 0, u8 0, u8 0, u8 0, u8 0, u8 0, u8 0, u8 0, u8 0, i64 0, i64 0, i64 0, i64 0, i64 0, lS 10 [], vb false, lS 7 [], u8 0, u8 0, u8 0, u8 0, i64 0, lS 1 [], lS 7 [], lS 7 []]]]]) 3) fun ⟨d, a⟩ => .testB ((↑d : Int) == 1) (fun h0 => .auto 1 <| .test ((0 : Int) ≤ (0 : Int) ∧ (0 : Int) < (↑d : Int)) (fun h1 => .auto 2 <| .look RW87 (a[(0 : Nat)]?) fun f => .auto 2 <| .testB (!f.c0) (fun h2 => .auto 1 <| .known (decide_eq_true h1) <| .auto 3 <| .look RW87 (a[(0 : Nat)]?) fun i => .auto 2 <| .testB (i.c17 == 255) (fun h3 => .auto 3 <| .ask E33 (F33_ok 0 9 ([[lS 50 [[i64 0, i64 (-1), i64 0, i64 0, i64 0, i64 5, i64 0, lS 7 [], lS 7 [], lS 7 [], lS 7 [], lS 7 [], lS 7 [], lS 7 [], lS 7 [], lS 7 [], vb false, lS 2 [], i64 0, i64 0, lS 7 [[i64 0, i64 65536, i64 0, i64 0, i64 0, i64 0, i64 0]], lS 7 [[i64 0, i64 65536, i64 0, i64 0, i64 0, i64 0, i64 0]], lS 8 [], vb true, i64 0, i64 0, u8 0, u8 0, u8 0, u8 0, u8 0, u8 0, u8 0, u8 0, i64 0, i64 0, i64 0, i64 0, i64 0, lS 10 [], vb false, lS 7 [], u8 0, u8 0, u8 0, u8 0, i64 0, lS 1 [], lS 7 [], lS 7 []]]]]) 6) fun ⟨j, w⟩ => .auto 3 <| .testB ((↑j : Int) == 0) (fun h4 => .auto 1 <| .known (decide_eq_true h1) <| .auto 1 <| .look RW87 (a[(0 : Nat)]?) fun l => .auto 1 <| .ask E94 (F94_ok 100000 l) fun ⟨m, o, p, q⟩ => .auto 3 <| .testB (m == -1 && (o == -1 && (p == 1 && (q == 1 && true)))) (fun h5 => .auto 1 <| .known (decide_eq_true h1) <| .auto 1 <| .look RW87 (a[(0 : Nat)]?) fun s => .auto 2 <| .known (decide_eq_true h1) <| .auto 1 <| .look RW87 (a[(0 : Nat)]?) fun t => .auto 1 <| .ask E34 (F34_ok 100000 s t) fun ⟨u⟩ => .auto 1 <| .testB u (fun h6 => .auto 1 <| .ask E33 (F33_ok 0 0 ([]) 0) fun ⟨v, y⟩ => .auto 3 <| .ret (.a0 ((↑v : Int) == 0))) (fun h6 => .auto 4 <| .ret (.a0 false))) (fun h5 => .auto 12 <| .ret (.a0 false))) (fun h4 => .auto 19 <| .ret (.a0 false))) (fun h3 => .auto 24 <| .ret (.a0 false))) (fun h2 => .auto 31 <| .ret (.a0 false))) (fun _ => .fail)) (fun h0 => .auto 37 <| .ret (.a0 false))
noncomputable def F35 : Option A35 := (D35).ev some
theorem F35_ok : FU E35 F35 35 [] := fu rfl rfl fun x => by kernel_rfl
/-! ## F108 -/
noncomputable abbrev B108 : Code := (Tryz.f108.body).getD .skip
inductive T108_0s0 where
  | mk (a d : LV) (f : Int)
inductive N108_0 where
  | s0 (x : T108_0s0)
  | e0
  | e1
abbrev N108_0.out : N108_0 → VX × S
  | .s0 (.mk a d f) => (vN, S.mk (lS 2 a :: lS 2 d :: U :: U :: U :: i64 f :: un 20 []) [])
  | .e0 => (VX.ret, S.mk (un 4 (vb false :: un 21 [])) [])
  | .e1 => (vX 0, S.mk (un 26 []) [])
abbrev E108_0 := Ent.o3 N108_0.out .s0 (fun (_ : Unit) => .e0) (fun (_ : Unit) => .e1) (fun b => by cases b <;> simp)
noncomputable def D108_0 : T108_0s0 → PT N108_0 | .mk d f a => .test (a < (d.length : Int)) (fun h0 => .test (0 ≤ a) (fun h1 => .look RW28 (d[Int.toNat a]?) fun i => .known (decide_eq_true h1) <| .look RW28 (f[Int.toNat a]?) fun j => .testB (!(i.c0 == j.c0 && (i.c1 == j.c1 && true))) (fun h2 => .ret .e0) (fun h2 => .ret (.s0 (.mk d f (w64 (a + 1)))))) (fun _ => .fail)) (fun h0 => .ret .e1)
noncomputable def L108_0 := E108_0.loop fun | .s0 x => D108_0 x | _ => .fail
theorem L108_0_ok : LU 108 0 B108 0 E108_0 L108_0 :=
  lk (L := notIn []) (fun b hb => by cases b <;> first | (cases hb; done) | (rename_i x; cases x; intro x; kernel_rfl) | (intro x; kernel_rfl))
noncomputable def N108_0.nx (n : Nat) : N108_0 → Option N108_0 | .s0 x => L108_0 n (.s0 x) | .e0 => some .e0 | .e1 => some .e1
theorem L108_0_s0 (n : Nat) (x : T108_0s0) : L108_0 (n + 1) (.s0 x) = (D108_0 x).ev (N108_0.nx n) := Ent.loop_eq fun c => by cases c <;> rfl
noncomputable def D108 (a d : LV) : PT A108 := .testB ((a.length : Int) != (d.length : Int)) (fun h0 => .ret (.a0 false)) (fun h0 => .cut E108_0 (L108_0_ok (.s0 (.mk a d 0)) rfl) fun | .e0 => .ret (.a0 false) | .e1 => .ret (.a0 true) | _ => .fail)
noncomputable def F108 (a d : LV) : Option A108 := (D108 a d).ev some
theorem F108_ok (a d : LV) : FU E108 (F108 a d) 108 [lS 2 a, lS 2 d] := fu rfl rfl fun x => by kernel_rfl
/-! ## F85 -/
noncomputable abbrev B85 : Code := (Tryz.f85.body).getD .skip
inductive T85_0s0 where
  | mk (a d : LV) (f : Int)
inductive N85_0 where
  | s0 (x : T85_0s0)
  | e0
  | e1
abbrev N85_0.out : N85_0 → VX × S
  | .s0 (.mk a d f) => (vN, S.mk (lS 2 a :: lS 2 d :: U :: U :: U :: i64 f :: un 36 []) [])
  | .e0 => (VX.ret, S.mk (un 4 (vb false :: un 37 [])) [])
  | .e1 => (vX 0, S.mk (un 42 []) [])
abbrev E85_0 := Ent.o3 N85_0.out .s0 (fun (_ : Unit) => .e0) (fun (_ : Unit) => .e1) (fun b => by cases b <;> simp)
noncomputable def D85_0 : T85_0s0 → PT N85_0 | .mk d f a => .test (a < (d.length : Int)) (fun h0 => .test (0 ≤ a) (fun h1 => .look RW88 (d[Int.toNat a]?) fun i => .known (decide_eq_true h1) <| .look RW88 (f[Int.toNat a]?) fun j => .testB (!i.c0 == j.c0) (fun h2 => .auto 13 <| .ret .e0) (fun h2 => .auto 2 <| .known (decide_eq_true h1) <| .look RW88 (d[Int.toNat a]?) fun l => .auto 5 <| .known (decide_eq_true h1) <| .look RW88 (f[Int.toNat a]?) fun m => .auto 3 <| .ask E108 (F108_ok l.c1 m.c1) fun ⟨o⟩ => .auto 2 <| .testB (!o) (fun h3 => .ret .e0) (fun h3 => .ret (.s0 (.mk d f (w64 (a + 1))))))) (fun _ => .fail)) (fun h0 => .ret .e1)
noncomputable def L85_0 := E85_0.loop fun | .s0 x => D85_0 x | _ => .fail
theorem L85_0_ok : LU 85 0 B85 0 E85_0 L85_0 :=
  lk (L := notIn []) (fun b hb => by cases b <;> first | (cases hb; done) | (rename_i x; cases x; intro x; kernel_rfl) | (intro x; kernel_rfl))
noncomputable def N85_0.nx (n : Nat) : N85_0 → Option N85_0 | .s0 x => L85_0 n (.s0 x) | .e0 => some .e0 | .e1 => some .e1
theorem L85_0_s0 (n : Nat) (x : T85_0s0) : L85_0 (n + 1) (.s0 x) = (D85_0 x).ev (N85_0.nx n) := Ent.loop_eq fun c => by cases c <;> rfl
noncomputable def D85 (a d : LV) : PT A85 := .testB ((a.length : Int) != (d.length : Int)) (fun h0 => .ret (.a0 false)) (fun h0 => .cut E85_0 (L85_0_ok (.s0 (.mk a d 0)) rfl) fun | .e0 => .ret (.a0 false) | .e1 => .ret (.a0 true) | _ => .fail)
noncomputable def F85 (a d : LV) : Option A85 := (D85 a d).ev some
theorem F85_ok (a d : LV) : FU E85 (F85 a d) 85 [lS 2 a, lS 2 d] := fu rfl rfl fun x => by kernel_rfl
/-! ## F100 -/
abbrev K39 := LV → LV → Option A39
abbrev H39 (r : K39) : Prop := ∀ (f i : LV) (b : A39), r f i = some b → UU 39 ([lS 23 f, lS 23 i]) ([]) = some (A39.out b)
noncomputable def D100 (rF39 : K39) (hF39 : H39 rF39) (a : W87) (d : W87) : PT A100 := .auto 2 <| .testB (a.c0 == d.c0) (fun h0 => .auto 8 <| .ask E85 (F85_ok a.c1 d.c1) fun ⟨j⟩ => .auto 1 <| .testB j (fun h1 => .auto 9 <| .testB (a.c2 == d.c2) (fun h2 => .auto 9 <| .testB (a.c3 == d.c3 && (a.c4 == d.c4 && (a.c5 == d.c5 && (a.c6 == d.c6 && (a.c7 == d.c7 && true))) && (a.c8 == d.c8 && (a.c9 == d.c9 && (a.c10 == d.c10 && (a.c11 == d.c11 && true))) && (a.c12 == d.c12 && (a.c13 == d.c13 && true) && (a.c14 == d.c14 && (a.c15 == d.c15 && true) && (a.c16 == d.c16 && true)))))) (fun h3 => .auto 9 <| .testB (a.c17 == d.c17) (fun h4 => .auto 6 <| .ask E39 (hF39 a.c18 d.c18) fun ⟨l⟩ => .auto 1 <| .testB l (fun h5 => .auto 6 <| .ask E85 (F85_ok a.c19 d.c19) fun ⟨m⟩ => .auto 1 <| .testB m (fun h6 => .auto 7 <| .testB (a.c20 == d.c20) (fun h7 => .auto 6 <| .ask E39 (hF39 a.c21 d.c21) fun ⟨o⟩ => .auto 1 <| .testB o (fun h8 => .auto 7 <| .ret (.a0 (a.c22 == d.c22))) (fun h8 => .auto 5 <| .ret (.a0 false))) (fun h7 => .auto 11 <| .ret (.a0 false))) (fun h6 => .auto 17 <| .ret (.a0 false))) (fun h5 => .auto 23 <| .ret (.a0 false))) (fun h4 => .auto 29 <| .ret (.a0 false))) (fun h3 => .auto 37 <| .ret (.a0 false))) (fun h2 => .auto 45 <| .ret (.a0 false))) (fun h1 => .auto 53 <| .ret (.a0 false))) (fun h0 => .auto 61 <| .ret (.a0 false))
noncomputable def F100 (rF39 : K39) (hF39 : H39 rF39) (f : W87) (i : W87) : Option A100 := (D100 rF39 hF39 f i).ev some
theorem F100_ok (rF39 : K39) (hF39 : H39 rF39) (f : W87) (i : W87) : FU E100 (F100 rF39 hF39 f i) 100 [V.agg (W87.cells f), V.agg (W87.cells i)] := fu rfl rfl fun x => by kernel_rfl
/-! ## F39 -/
noncomputable abbrev B39 : Code := (Tryz.f39.body).getD .skip
inductive T39_0s0 where
  | mk (a d : LV) (f : Int)
inductive N39_0 where
  | s0 (x : T39_0s0)
  | e0
  | e1
abbrev N39_0.out : N39_0 → VX × S
  | .s0 (.mk a d f) => (vN, S.mk (lS 23 a :: lS 23 d :: U :: U :: U :: i64 f :: un 21 []) [])
  | .e0 => (VX.ret, S.mk (un 4 (vb false :: un 22 [])) [])
  | .e1 => (vX 0, S.mk (un 27 []) [])
abbrev E39_0 := Ent.o3 N39_0.out .s0 (fun (_ : Unit) => .e0) (fun (_ : Unit) => .e1) (fun b => by cases b <;> simp)
noncomputable def D39_0 (rF39 : K39) (hF39 : H39 rF39) : T39_0s0 → PT N39_0
  | .mk d j a =>
   .test (a < (d.length : Int))
    (fun h0 =>
    .test (0 ≤ a)
     (fun h1 =>
     .look RW87 (d[Int.toNat a]?) fun l =>
     .known (decide_eq_true h1) <|
     .look RW87 (j[Int.toNat a]?) fun m =>
     .ask E100 (F100_ok rF39 hF39 l m) fun (r : A100) => match r with
     | .a0 o =>
      .testB (!o)
       (fun h2 =>
       .ret .e0
      )
       (fun h2 =>
       .ret (.s0 (.mk d j (w64 (a + 1))))
      )
    )
     (fun _ => .fail)
   )
    (fun h0 =>
    .ret .e1
   )
noncomputable def L39_0 (rF39 : K39) (hF39 : H39 rF39) := E39_0.loop fun | .s0 x => D39_0 rF39 hF39 x | _ => .fail
theorem L39_0_ok (rF39 : K39) (hF39 : H39 rF39) : LU 39 0 B39 0 E39_0 (L39_0 rF39 hF39) :=
  lk (L := notIn []) (fun b hb => by cases b <;> first | (cases hb; done) | (rename_i x; cases x; intro x; kernel_rfl) | (intro x; kernel_rfl))
noncomputable def N39_0.nx (rF39 : K39) (hF39 : H39 rF39) (n : Nat) : N39_0 → Option N39_0 | .s0 x => L39_0 rF39 hF39 n (.s0 x) | .e0 => some .e0 | .e1 => some .e1
theorem L39_0_s0 (rF39 : K39) (hF39 : H39 rF39) (n : Nat) (x : T39_0s0) : L39_0 rF39 hF39 (n + 1) (.s0 x) = (D39_0 rF39 hF39 x).ev (N39_0.nx rF39 hF39 n) := Ent.loop_eq fun c => by cases c <;> rfl
noncomputable def D39 (rF39 : K39) (hF39 : H39 rF39) (a d : LV) : PT A39 := .testB ((a.length : Int) != (d.length : Int)) (fun h0 => .ret (.a0 false)) (fun h0 => .cut E39_0 (L39_0_ok rF39 hF39 (.s0 (.mk a d 0)) rfl) fun | .e0 => .ret (.a0 false) | .e1 => .ret (.a0 true) | _ => .fail)
theorem D39_ok (rF39 : K39) (hF39 : H39 rF39) (a d : LV) : ∀ b, (D39 rF39 hF39 a d).ev some = some b → UU 39 ([lS 23 a, lS 23 d]) ([]) = some (A39.out b) :=
  fn_ok (E := E39) (L := notIn []) rfl rfl (fun x => by kernel_rfl)
noncomputable def G39 : Nat → { r : LV → LV → Option A39 // ∀ (a d : LV) (b : A39), r a d = some b → UU 39 ([lS 23 a, lS 23 d]) ([]) = some (A39.out b) }
  | 0 => ⟨fun _ _ => none, fun _ _ _ h => by cases h⟩
  | n + 1 => ⟨fun a d => (D39 (G39 n).1 (G39 n).2 a d).ev some, fun a d => D39_ok (G39 n).1 (G39 n).2 a d⟩
noncomputable def F39 (n : Nat) (a d : LV) : Option A39 := (G39 n).1 a d
theorem F39_ok (n : Nat) (a d : LV) : ∀ b, F39 n a d = some b → UU 39 ([lS 23 a, lS 23 d]) ([]) = some (A39.out b) := (G39 n).2 a d
theorem F39_succ (n : Nat) (a d : LV) : F39 (n + 1) a d = (D39 (F39 n) (F39_ok n) a d).ev some := rfl
/-! ## F10 -/
noncomputable abbrev B10 : Code := (Tryz.f10.body).getD .skip
inductive T10_2s0 where
  | mk (a : Int) (d f : Nat) (i j l m : Int) (o : Nat) (p q s : LV)
inductive T10_2e0 where
  | mk (a : Int) (d : Nat) (f i : Int) (j : Nat) (l m : LV)
inductive N10_2 where
  | s0 (x : T10_2s0)
  | e0 (x : T10_2e0)
abbrev N10_2.out : N10_2 → VX × S
  | .s0 (.mk a d f i j l m o p q s) => (vN, S.mk (U :: i64 a :: U :: U :: U :: pT 0 :: U :: U :: U :: hS 1 d :: un 27 (hS 2 f :: i64 i :: i64 j :: un 34 [])) [oF 3 [[i64 l, i64 m, hS 3 o]], oT 23 p, Ob.cells false true 50 q, oT 1 s])
  | .e0 (.mk t u v w y z d0) => (vX 2, S.mk (U :: i64 t :: U :: U :: U :: pT 0 :: U :: U :: U :: hS 1 u :: un 64 []) [oF 3 [[i64 v, i64 w, hS 2 y]], oT 23 z, oT 1 d0])
abbrev E10_2 := Ent.o2 N10_2.out .s0 .e0 (fun b => by cases b <;> simp)
noncomputable def D10_2 : T10_2s0 → PT N10_2 | .mk o i t u j p q d s v f => .test (j < u) (fun h0 => .test (0 ≤ j ∧ j < (↑t : Int)) (fun h1 => .look RW57 (v[(0 : Nat) + Int.toNat j]?) fun a => .auto 4 <| .test (0 + d ≤ List.length f) (fun h2 => .test ((0 : Nat) ≤ (0 : Nat) ∧ ((0 : Nat) + List.length (List.take d f)) * (24 : Nat) ≤ (140737488355328 : Nat) ∧ (0 : Nat) + List.length (List.take d f) ≤ (140737488355328 : Nat)) (fun h3 => .auto 3 <| .test ((0 : Int) ≤ (0 : Int) ∧ (0 : Int) < (↑((0 : Nat) + List.length (List.take d f)) : Int)) (fun h4 => .look RW52 (([] ++ List.take d f)[(0 : Nat)]?) fun w => .auto 2 <| .test (0 + (0 + List.length (List.take d f)) ≤ List.length (List.set ([] ++ List.take d f) 0 [lS 50 [(W57.cells a)]])) (fun h5 => .ask E33 (F33_ok p q (List.take (0 + List.length (List.take d f)) (List.set ([] ++ List.take d f) 0 [lS 50 [(W57.cells a)]])) (w64 (↑(BitVec.toNat (BitVec.ofInt (IntKind.bits IntKind.i64) o &&& BitVec.ofInt (IntKind.bits IntKind.i64) 31)) : Int))) fun ⟨l, m⟩ => .test (0 + l ≤ List.length m) (fun h6 => .test (0 + i ≤ List.length s ∧ (i + List.length (List.take l m)) * 192 ≤ 140737488355328 ∧ i + List.length (List.take l m) ≤ 140737488355328) (fun h7 => .ret (.s0 (.mk o (i + List.length (List.take l m)) t u (w64 (j + 1)) p q d (List.take i s ++ List.take l m) v f))) (fun _ => .fail)) (fun _ => .fail)) (fun _ => .fail)) (fun _ => .fail)) (fun _ => .fail)) (fun _ => .fail)) (fun _ => .fail)) (fun h0 => .ret (.e0 (.mk o i p q d s f)))
noncomputable def L10_2 := E10_2.loop fun | .s0 x => D10_2 x | _ => .fail
theorem L10_2_ok : LU 10 0 B10 2 E10_2 L10_2 :=
  lk (L := notIn []) (fun b hb => by cases b <;> first | (cases hb; done) | (rename_i x; cases x; intro x; kernel_rfl) | (intro x; kernel_rfl))
noncomputable def N10_2.nx (n : Nat) : N10_2 → Option N10_2 | .s0 x => L10_2 n (.s0 x) | .e0 x => some (.e0 x)
theorem L10_2_s0 (n : Nat) (x : T10_2s0) : L10_2 (n + 1) (.s0 x) = (D10_2 x).ev (N10_2.nx n) := Ent.loop_eq fun c => by cases c <;> rfl
inductive T10_0s0 where
  | mk (a : Int) (d : Nat) (f : LV) (i j l m : Int) (o : Nat) (p q : LV)
inductive T10_0e0 where
  | mk (a : Int) (d : Nat) (f i : Int) (j : Nat) (l m : LV)
inductive N10_0 where
  | s0 (x : T10_0s0)
  | e0 (x : T10_0e0)
abbrev N10_0.out : N10_0 → VX × S
  | .s0 (.mk a d f i j l m o p q) => (vN, S.mk (U :: i64 a :: U :: U :: U :: pT 0 :: hS 1 d :: un 12 (lS 50 f :: i64 i :: i64 j :: un 52 [])) [oF 3 [[i64 l, i64 m, hS 2 o]], oT 50 p, oT 1 q])
  | .e0 (.mk s t u v w y z) => (vX 0, S.mk (U :: i64 s :: U :: U :: U :: pT 0 :: hS 1 t :: un 67 []) [oF 3 [[i64 u, i64 v, hS 2 w]], oT 50 y, oT 1 z])
abbrev E10_0 := Ent.o2 N10_0.out .s0 .e0 (fun b => by cases b <;> simp)
noncomputable def D10_0 : T10_0s0 → PT N10_0 | .mk j d l m f o p q i s => .test (f < m) (fun h0 => .test (0 ≤ f) (fun h1 => .look RW57 (l[Int.toNat f]?) fun a => .auto 5 <| .test (0 + d ≤ List.length i ∧ (d + 1) * 608 ≤ 140737488355328 ∧ d + 1 ≤ 140737488355328) (fun h2 => .ret (.s0 (.mk j (d + 1) l m (w64 (f + 1)) o p q (List.take d i ++ [[i64 a.c0, i64 (-1), i64 a.c2, i64 0, i64 a.c4, i64 a.c5, i64 a.c6, lS 7 a.c7, lS 7 a.c8, lS 7 a.c9, lS 7 a.c10, lS 7 a.c11, lS 7 a.c12, lS 7 a.c13, lS 7 a.c14, lS 7 a.c15, vb a.c16, lS 2 a.c17, i64 a.c18, i64 a.c19, lS 7 a.c20, lS 7 a.c21, lS 8 a.c22, vb a.c23, i64 a.c24, i64 a.c25, u8 a.c26, u8 a.c27, u8 a.c28, u8 a.c29, u8 a.c30, u8 a.c31, u8 a.c32, u8 a.c33, i64 a.c34, i64 a.c35, i64 a.c36, i64 a.c37, i64 a.c38, lS 10 a.c39, vb a.c40, lS 7 a.c41, u8 a.c42, u8 a.c43, u8 a.c44, u8 a.c45, i64 a.c46, lS 1 a.c47, lS 7 a.c48, lS 7 a.c49]]) s))) (fun _ => .fail)) (fun _ => .fail)) (fun h0 => .ret (.e0 (.mk j d o p q i s)))
noncomputable def L10_0 := E10_0.loop fun | .s0 x => D10_0 x | _ => .fail
theorem L10_0_ok : LU 10 0 B10 0 E10_0 L10_0 :=
  lk (L := notIn []) (fun b hb => by cases b <;> first | (cases hb; done) | (rename_i x; cases x; intro x; kernel_rfl) | (intro x; kernel_rfl))
noncomputable def N10_0.nx (n : Nat) : N10_0 → Option N10_0 | .s0 x => L10_0 n (.s0 x) | .e0 x => some (.e0 x)
theorem L10_0_s0 (n : Nat) (x : T10_0s0) : L10_0 (n + 1) (.s0 x) = (D10_0 x).ev (N10_0.nx n) := Ent.loop_eq fun c => by cases c <;> rfl
noncomputable def D10 (v : LV) (w : Int) : PT A10 := .ask E20 (F20_ok v) fun ⟨y, z, f, i⟩ => .auto 2 <| .test ((0 : Int) ≤ (0 : Int) ∧ (0 : Int) < (↑f : Int)) (fun h0 => .look RW52 (i[(0 : Nat)]?) fun j => .cut E10_0 (L10_0_ok (.s0 (.mk w 0 j.c0 (((List.length j.c0) : Int)) 0 y z f ([]) i)) rfl) fun | .e0 (.mk d0 a d1 d2 l d m) => (.auto 1 <| .test ((0 : Int) ≤ (0 : Int) ∧ (0 : Int) < (↑l : Int)) (fun h1 => .look RW52 (m[(0 : Nat)]?) fun d8 => .test (0 + a ≤ List.length d) (fun h2 => .cut E10_2 (L10_2_ok (.s0 (.mk d0 0 a ((↑a : Int)) 0 d1 d2 l ([]) d (List.set m 0 [lS 50 (List.take a d)]))) rfl) fun | .e0 (.mk d3 o d4 d5 p q s) => (.auto 1 <| .test (0 + p ≤ List.length s) (fun h3 => .ask E33 (F33_ok d4 d5 (List.take p s) (w64 (↑(BitVec.toNat (BitVec.ofInt (IntKind.bits IntKind.i64) d3 &&& BitVec.ofInt (IntKind.bits IntKind.i64) 31)) : Int))) fun ⟨t, u⟩ => .test (0 + t ≤ List.length u) (fun h4 => .test (0 + o ≤ List.length q) (fun h5 => .ask E39 (F39_ok 100000 (List.take t u) (List.take o q)) fun ⟨d6⟩ => .testB d6 (fun h6 => .ask E35 F35_ok fun ⟨d7⟩ => .auto 1 <| .ret (.a0 d7)) (fun _ => .fail)) (fun _ => .fail)) (fun _ => .fail)) (fun _ => .fail)) | _ => .fail) (fun _ => .fail)) (fun _ => .fail)) | _ => .fail) (fun _ => .fail)
noncomputable def F10 (a : LV) (d : Int) : Option A10 := (D10 a d).ev some
theorem F10_ok (a : LV) (d : Int) : FU E10 (F10 a d) 10 [lS 1 a, i64 d] := fu rfl rfl fun x => by kernel_rfl
end Go.Proofs.YtifalphladcdcaaGreat.H
