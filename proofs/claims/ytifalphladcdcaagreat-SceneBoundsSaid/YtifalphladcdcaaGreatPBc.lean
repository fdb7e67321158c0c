/- What the functions compute, and that they do so over the machine of plain values (printed by this session's program wip/vm/Walk.lean). No condition beyond those stated. -/
import Derived.Test.YtifalphladcdcaaGreatWk
import Derived.Test.YtifalphladcdcaaGreatHB
import Derived.Test.YtifalphladcdcaaGreatPBb
set_option linter.unusedVariables false
set_option linter.unusedSimpArgs false
namespace Go.Proofs.YtifalphladcdcaaGreat.H
open Go Go.VM
set_option maxRecDepth 100000
/-! ## F116 -/
noncomputable def D116 (a : Int) : PT Bool := .test (a < 65536) (fun h0 => .auto 2 <| .ret true) (fun h0 => .auto 2 <| .ret (decide (a > 67108864)))
abbrev O116 (a : Bool) : V × Store := (vb a, [])
noncomputable def F116 (a : Int) : Bool := (D116 a).evT
theorem F116_ok (a : Int) : UU 116 ([i64 a]) ([]) = some (O116 (F116 a)) :=
  fnT_ok (out := O116) (L := notIn []) rfl rfl (fun x => by kernel_rfl) (by simp [D116, PT.isT])
/-! ## F180 -/
noncomputable abbrev B180 : Code := (Tryz.f180.body).getD .skip
inductive T180_0s0 where
  | mk (a : LV) (d f : Int)
inductive T180_0e0 where
  | mk (a : Int)
inductive N180_0 where
  | s0 (x : T180_0s0)
  | e0 (x : T180_0e0)
  | e1
abbrev N180_0.out : N180_0 → VX × S
  | .s0 (.mk a d f) => (vN, S.mk (lS 1 a :: V.fn 116 [] :: un 5 (i64 d :: i64 f :: un 10 [])) [])
  | .e0 (.mk i) => (VX.ret, S.mk (un 4 (i64 i :: un 14 [])) [])
  | .e1 => (vX 0, S.mk (un 19 []) [])
abbrev E180_0 := Ent.o3 N180_0.out .s0 .e0 (fun (_ : Unit) => .e1) (fun b => by cases b <;> simp)
noncomputable def D180_0 : T180_0s0 → PT N180_0 | .mk d f a => .test (a < f) (fun h0 => .test (0 ≤ a) (fun h1 => .look RW2 (d[Int.toNat a]?) fun i => .tot O116 (F116_ok i.c0) fun j => .testB j (fun h2 => .ret (.e0 (.mk a))) (fun h2 => .ret (.s0 (.mk d f (w64 (a + 1)))))) (fun _ => .fail)) (fun h0 => .ret .e1)
noncomputable def L180_0 := E180_0.loop fun | .s0 x => D180_0 x | _ => .fail
theorem L180_0_ok : LU 180 0 B180 0 E180_0 L180_0 :=
  lk (L := notIn []) (fun b hb => by cases b <;> first | (cases hb; done) | (rename_i x; cases x; intro x; kernel_rfl) | (intro x; kernel_rfl))
noncomputable def N180_0.nx (n : Nat) : N180_0 → Option N180_0 | .s0 x => L180_0 n (.s0 x) | .e0 x => some (.e0 x) | .e1 => some .e1
theorem L180_0_s0 (n : Nat) (x : T180_0s0) : L180_0 (n + 1) (.s0 x) = (D180_0 x).ev (N180_0.nx n) := Ent.loop_eq fun c => by cases c <;> rfl
noncomputable def D180 (a : LV) : PT A180 := .cut E180_0 (L180_0_ok (.s0 (.mk a ((a.length : Int)) 0)) rfl) fun | .e0 (.mk d) => .ret (.a0 d) | .e1 => .ret (.a0 (-1)) | _ => .fail
noncomputable def F180 (a : LV) : Option A180 := (D180 a).ev some
theorem F180_ok (a : LV) : FU E180 (F180 a) 180 [lS 1 a, V.fn 116 []] := fu rfl rfl fun x => by kernel_rfl
/-! ## F115 -/
noncomputable def D115 (a : LV) : PT A115 := .ask E180 (F180_ok a) fun ⟨d⟩ => .ret (.a0 (decide (d ≥ 0)))
noncomputable def F115 (a : LV) : Option A115 := (D115 a).ev some
theorem F115_ok (a : LV) : FU E115 (F115 a) 115 [lS 1 a, V.fn 116 []] := fu rfl rfl fun x => by kernel_rfl
/-! ## F57 -/
noncomputable def D57 (a : LV) : PT A57 := .test ((a.length : Int) ≤ 8) (fun h0 => .auto 1 <| .ask E115 (F115_ok a) fun ⟨d⟩ => .auto 2 <| .ret (.a0 (!d))) (fun h0 => .auto 3 <| .ret (.a0 false))
noncomputable def F57 (a : LV) : Option A57 := (D57 a).ev some
theorem F57_ok (a : LV) : FU E57 (F57 a) 57 [lS 1 a] := fu rfl rfl fun x => by kernel_rfl
/-! ## F15 -/
noncomputable def D15 (a : W34) : PT A15 := .auto 1 <| .ask E53 (F53_ok a) fun ⟨d⟩ => .testB d (fun h0 => .auto 4 <| .testB (a.c6 == 0) (fun h1 => .auto 9 <| .ask E54 (F54_ok a.c7 a.c8 a.c9 a.c10 a.c11 a.c12 a.c13 a.c14 a.c15 a.c16 a.c17 a.c18 a.c19 a.c20) fun ⟨f⟩ => .auto 1 <| .testB f (fun h2 => .auto 3 <| .ask E55 (F55_ok a.c21) fun ⟨i⟩ => .auto 1 <| .testB i (fun h3 => .auto 3 <| .ask E56 (F56_ok a.c23) fun ⟨j⟩ => .auto 1 <| .testB j (fun h4 => .auto 3 <| .ask E56 (F56_ok a.c30) fun ⟨l⟩ => .auto 1 <| .testB l (fun h5 => .auto 3 <| .ask E56 (F56_ok a.c31) fun ⟨m⟩ => .auto 1 <| .testB m (fun h6 => .auto 4 <| .testB (a.c28 == 0) (fun h7 => .auto 9 <| .ask E57 (F57_ok a.c29) fun ⟨o⟩ => .auto 1 <| .ret (.a0 o)) (fun h7 => .auto 6 <| .testB (a.c28 == 1) (fun h8 => .auto 3 <| .ask E57 (F57_ok a.c29) fun ⟨p⟩ => .auto 1 <| .ret (.a0 p)) (fun h8 => .auto 3 <| .ret (.a0 false)))) (fun h6 => .auto 9 <| .ret (.a0 false))) (fun h5 => .auto 13 <| .ret (.a0 false))) (fun h4 => .auto 17 <| .ret (.a0 false))) (fun h3 => .auto 21 <| .ret (.a0 false))) (fun h2 => .auto 25 <| .ret (.a0 false))) (fun h1 => .auto 6 <| .testB (a.c6 == 1) (fun h2 => .auto 3 <| .ask E54 (F54_ok a.c7 a.c8 a.c9 a.c10 a.c11 a.c12 a.c13 a.c14 a.c15 a.c16 a.c17 a.c18 a.c19 a.c20) fun ⟨q⟩ => .auto 1 <| .testB q (fun h3 => .auto 3 <| .ask E55 (F55_ok a.c21) fun ⟨s⟩ => .auto 1 <| .testB s (fun h4 => .auto 3 <| .ask E56 (F56_ok a.c23) fun ⟨t⟩ => .auto 1 <| .testB t (fun h5 => .auto 3 <| .ask E56 (F56_ok a.c30) fun ⟨u⟩ => .auto 1 <| .testB u (fun h6 => .auto 3 <| .ask E56 (F56_ok a.c31) fun ⟨v⟩ => .auto 1 <| .testB v (fun h7 => .auto 4 <| .testB (a.c28 == 0) (fun h8 => .auto 9 <| .ask E57 (F57_ok a.c29) fun ⟨w⟩ => .auto 1 <| .ret (.a0 w)) (fun h8 => .auto 6 <| .testB (a.c28 == 1) (fun h9 => .auto 3 <| .ask E57 (F57_ok a.c29) fun ⟨y⟩ => .auto 1 <| .ret (.a0 y)) (fun h9 => .auto 3 <| .ret (.a0 false)))) (fun h7 => .auto 9 <| .ret (.a0 false))) (fun h6 => .auto 13 <| .ret (.a0 false))) (fun h5 => .auto 17 <| .ret (.a0 false))) (fun h4 => .auto 21 <| .ret (.a0 false))) (fun h3 => .auto 25 <| .ret (.a0 false))) (fun h2 => .auto 29 <| .ret (.a0 false)))) (fun h0 => .auto 35 <| .ret (.a0 false))
noncomputable def F15 (a : W34) : Option A15 := (D15 a).ev some
theorem F15_ok (a : W34) : FU E15 (F15 a) 15 [V.agg (W34.cells a)] := fu rfl rfl fun x => by kernel_rfl
/-! ## F294 -/
noncomputable def D294 (a : Int) : PT Bool := .test (a ≥ -67108864) (fun h0 => .auto 2 <| .ret (decide (a ≤ 67108864))) (fun h0 => .auto 2 <| .ret false)
abbrev O294 (a : Bool) : V × Store := (vb a, [])
noncomputable def F294 (a : Int) : Bool := (D294 a).evT
theorem F294_ok (a : Int) : UU 294 ([i64 a]) ([]) = some (O294 (F294 a)) :=
  fnT_ok (out := O294) (L := notIn []) rfl rfl (fun x => by kernel_rfl) (by simp [D294, PT.isT])
/-! ## F280 -/
noncomputable abbrev B280 : Code := (Tryz.f280.body).getD .skip
inductive T280_r1s0 where
  | mk (a d f i j l m o p q s t u v : Int)
abbrev T280_r1s0.st : T280_r1s0 → S
  | .mk a d f i j l m o p q s t u v => S.mk (U :: pT 0 :: un 40 []) [oF 14 [[i64 a, u8 d, u8 f, u8 i, u8 j, u8 l, u8 m, u8 o, u8 p, i64 q, i64 s, i64 t, i64 u, i64 v]]]
inductive T280_r1e0 where
  | mk (a : Bool) (d f i j l m o p q s t u v w : Int)
inductive N280_r1 where
  | e0 (x : T280_r1e0)
abbrev N280_r1.out : N280_r1 → VX × S
  | .e0 (.mk a d f i j l m o p q s t u v w) => (vN, S.mk (U :: pT 0 :: U :: vb a :: un 38 []) [oF 14 [[i64 d, u8 f, u8 i, u8 j, u8 l, u8 m, u8 o, u8 p, u8 q, i64 s, i64 t, i64 u, i64 v, i64 w]]])
abbrev E280_r1 := Ent.o1 N280_r1.out .e0 fun ⟨x⟩ => ⟨x, rfl⟩
noncomputable def D280_r1 : T280_r1s0 → PT N280_r1 | .mk j l m o p q s t u a d f i v => .auto 1 <| .tot O294 (F294_ok a) fun w => .testB w (fun h0 => .auto 4 <| .tot O294 (F294_ok d) fun y => .auto 1 <| .testB y (fun h1 => .auto 4 <| .tot O294 (F294_ok f) fun z => .auto 1 <| .testB z (fun h2 => .auto 4 <| .tot O294 (F294_ok i) fun d0 => .auto 1 <| .ret (.e0 (.mk d0 j l m o p q s t u a d f i v))) (fun h2 => .auto 4 <| .ret (.e0 (.mk false j l m o p q s t u a d f i v)))) (fun h1 => .auto 9 <| .ret (.e0 (.mk false j l m o p q s t u a d f i v)))) (fun h0 => .auto 14 <| .ret (.e0 (.mk false j l m o p q s t u a d f i v)))
noncomputable def J280_r1 (y : T280_r1s0) : Option N280_r1 := (D280_r1 y).ev some
theorem J280_r1_ok (y : T280_r1s0) : ∀ b, J280_r1 y = some b → regP Tryz.prog X CC 280 0 B280 1 y.st = some (E280_r1.out b) := by
  cases y; exact reg_ok (E := E280_r1) (fun x => by kernel_rfl)
noncomputable def D280 (d f i j l m o p q s t u v w : Int) : PT A280 := .cut E280_r1 (J280_r1_ok (.mk d f i j l m o p q s t u v w)) fun | .e0 (.mk y a d1 d2 d3 d4 d5 d6 d7 d8 d9 f0 f1 f2 z) => .auto 1 <| .test (a ≥ 0) (fun h0 => .auto 4 <| .test (a ≤ 2) (fun h1 => .auto 1 <| .testB y (fun h2 => .auto 3 <| .tot O294 (F294_ok z) fun d0 => .auto 1 <| .ret (.a0 d0)) (fun h2 => .auto 3 <| .ret (.a0 false))) (fun h1 => .auto 5 <| .ret (.a0 false))) (fun h0 => .auto 9 <| .ret (.a0 false))
noncomputable def F280 (a d f i j l m o p q s t u v : Int) : Option A280 := (D280 a d f i j l m o p q s t u v).ev some
theorem F280_ok (a d f i j l m o p q s t u v : Int) : FU E280 (F280 a d f i j l m o p q s t u v) 280 [V.agg [i64 a, u8 d, u8 f, u8 i, u8 j, u8 l, u8 m, u8 o, u8 p, i64 q, i64 s, i64 t, i64 u, i64 v]] := fu rfl rfl fun x => by kernel_rfl
/-! ## F253 -/
noncomputable abbrev B253 : Code := (Tryz.f253.body).getD .skip
inductive T253_r4s0 where
  | mk (a d f : Bool) (i : W57)
abbrev T253_r4s0.st : T253_r4s0 → S
  | .mk a d f i => S.mk (U :: pT 0 :: U :: vb a :: vb d :: vb f :: un 93 []) [oF 50 [W57.cells i]]
inductive T253_r4e0 where
  | mk (a : Bool) (d : W57)
inductive N253_r4 where
  | e0 (x : T253_r4e0)
abbrev N253_r4.out : N253_r4 → VX × S
  | .e0 (.mk a d) => (vN, S.mk (U :: pT 0 :: un 69 (vb a :: un 27 [])) [oF 50 [W57.cells d]])
abbrev E253_r4 := Ent.o1 N253_r4.out .e0 fun ⟨x⟩ => ⟨x, rfl⟩
noncomputable def D253_r4 : T253_r4s0 → PT N253_r4 | .mk i j l a => .testB (!i) (fun h0 => .auto 9 <| .ret (.e0 (.mk true a))) (fun h0 => .auto 2 <| .testB (!j) (fun h1 => .auto 6 <| .ret (.e0 (.mk true a))) (fun h1 => .auto 2 <| .testB (!l) (fun h2 => .auto 3 <| .ret (.e0 (.mk true a))) (fun h2 => .auto 2 <| .ask E277 (F277_ok a) fun ⟨d, f⟩ => .auto 1 <| .test (0 + d ≤ List.length f) (fun h3 => .ask E276 (F276_ok (List.take d f)) fun ⟨m⟩ => .auto 1 <| .ret (.e0 (.mk m a))) (fun _ => .fail))))
noncomputable def J253_r4 (y : T253_r4s0) : Option N253_r4 := (D253_r4 y).ev some
theorem J253_r4_ok (y : T253_r4s0) : ∀ b, J253_r4 y = some b → regP Tryz.prog X CC 253 0 B253 4 y.st = some (E253_r4.out b) := by
  cases y; exact reg_ok (E := E253_r4) (fun x => by kernel_rfl)
inductive T253_r3s0 where
  | mk (a d : Bool) (f : W57)
abbrev T253_r3s0.st : T253_r3s0 → S
  | .mk a d f => S.mk (U :: pT 0 :: U :: vb a :: vb d :: un 94 []) [oF 50 [W57.cells f]]
inductive T253_r3e0 where
  | mk (a d f : Bool) (i : W57)
inductive N253_r3 where
  | e0 (x : T253_r3e0)
abbrev N253_r3.out : N253_r3 → VX × S
  | .e0 (.mk a d f i) => (vN, S.mk (U :: pT 0 :: U :: vb a :: vb d :: vb f :: un 93 []) [oF 50 [W57.cells i]])
abbrev E253_r3 := Ent.o1 N253_r3.out .e0 fun ⟨x⟩ => ⟨x, rfl⟩
noncomputable def D253_r3 : T253_r3s0 → PT N253_r3 | .mk d f a => .auto 1 <| .ask E177 (F177_ok a.c16 a.c17) fun ⟨i⟩ => .testB i (fun h0 => .auto 3 <| .tot O146 (F146_ok a.c16 a.c17) fun j => .auto 1 <| .testB j (fun h1 => .auto 5 <| .ret (.e0 (.mk d f true a))) (fun h1 => .auto 6 <| .ret (.e0 (.mk d f a.c16 a)))) (fun h0 => .auto 5 <| .ret (.e0 (.mk d f false a)))
noncomputable def J253_r3 (y : T253_r3s0) : Option N253_r3 := (D253_r3 y).ev some
theorem J253_r3_ok (y : T253_r3s0) : ∀ b, J253_r3 y = some b → regP Tryz.prog X CC 253 0 B253 3 y.st = some (E253_r3.out b) := by
  cases y; exact reg_ok (E := E253_r3) (fun x => by kernel_rfl)
inductive T253_r2s0 where
  | mk (a : Bool) (d : W57)
abbrev T253_r2s0.st : T253_r2s0 → S
  | .mk a d => S.mk (U :: pT 0 :: U :: vb a :: un 95 []) [oF 50 [W57.cells d]]
inductive T253_r2e0 where
  | mk (a d : Bool) (f : W57)
inductive N253_r2 where
  | e0 (x : T253_r2e0)
abbrev N253_r2.out : N253_r2 → VX × S
  | .e0 (.mk a d f) => (vN, S.mk (U :: pT 0 :: U :: vb a :: vb d :: un 94 []) [oF 50 [W57.cells f]])
abbrev E253_r2 := Ent.o1 N253_r2.out .e0 fun ⟨x⟩ => ⟨x, rfl⟩
noncomputable def D253_r2 : T253_r2s0 → PT N253_r2 | .mk d a => .auto 1 <| .tot O214 (F214_ok a.c4) fun f => .testB f (fun h0 => .auto 3 <| .tot O214 (F214_ok a.c5) fun i => .auto 1 <| .testB i (fun h1 => .auto 3 <| .tot O214 (F214_ok a.c6) fun j => .auto 1 <| .testB j (fun h2 => .auto 7 <| .ret (.e0 (.mk d (decide (a.c4 < a.c5)) a))) (fun h2 => .auto 5 <| .ret (.e0 (.mk d false a)))) (fun h1 => .auto 9 <| .ret (.e0 (.mk d false a)))) (fun h0 => .auto 13 <| .ret (.e0 (.mk d false a)))
noncomputable def J253_r2 (y : T253_r2s0) : Option N253_r2 := (D253_r2 y).ev some
theorem J253_r2_ok (y : T253_r2s0) : ∀ b, J253_r2 y = some b → regP Tryz.prog X CC 253 0 B253 2 y.st = some (E253_r2.out b) := by
  cases y; exact reg_ok (E := E253_r2) (fun x => by kernel_rfl)
inductive T253_r1s0 where
  | mk (a : W57)
abbrev T253_r1s0.st : T253_r1s0 → S
  | .mk a => S.mk (U :: pT 0 :: un 97 []) [oF 50 [W57.cells a]]
inductive T253_r1e0 where
  | mk (a : Bool) (d : W57)
inductive N253_r1 where
  | e0 (x : T253_r1e0)
abbrev N253_r1.out : N253_r1 → VX × S
  | .e0 (.mk a d) => (vN, S.mk (U :: pT 0 :: U :: vb a :: un 95 []) [oF 50 [W57.cells d]])
abbrev E253_r1 := Ent.o1 N253_r1.out .e0 fun ⟨x⟩ => ⟨x, rfl⟩
noncomputable def D253_r1 : T253_r1s0 → PT N253_r1 | .mk a => .auto 1 <| .testB (a.c0 == 0) (fun h0 => .auto 8 <| .test (a.c3 ≥ 0) (fun h1 => .auto 4 <| .ret (.e0 (.mk (decide (a.c3 ≤ 2)) a))) (fun h1 => .auto 3 <| .ret (.e0 (.mk false a)))) (fun h0 => .auto 4 <| .testB (a.c0 == 1) (fun h1 => .auto 4 <| .test (a.c3 ≥ 0) (fun h2 => .auto 4 <| .ret (.e0 (.mk (decide (a.c3 ≤ 2)) a))) (fun h2 => .auto 3 <| .ret (.e0 (.mk false a)))) (fun h1 => .auto 7 <| .ret (.e0 (.mk false a))))
noncomputable def J253_r1 (y : T253_r1s0) : Option N253_r1 := (D253_r1 y).ev some
theorem J253_r1_ok (y : T253_r1s0) : ∀ b, J253_r1 y = some b → regP Tryz.prog X CC 253 0 B253 1 y.st = some (E253_r1.out b) := by
  cases y; exact reg_ok (E := E253_r1) (fun x => by kernel_rfl)
noncomputable def D253 (d : W57) : PT A253 := .cut E253_r1 (J253_r1_ok (.mk d)) fun | .e0 (.mk f i) => .cut E253_r2 (J253_r2_ok (.mk f i)) fun | .e0 (.mk j l m) => .cut E253_r3 (J253_r3_ok (.mk j l m)) fun | .e0 (.mk o p q s) => .cut E253_r4 (J253_r4_ok (.mk o p q s)) fun | .e0 (.mk t a) => .testB t (fun h0 => .ret (.a0 false)) (fun h0 => .auto 1 <| .testB (a.c0 == 1) (fun h1 => .auto 1 <| .ask E279 (F279_ok (W34.mk a.c18 a.c19 a.c20 a.c21 a.c22 a.c23 a.c24 a.c25 a.c26 a.c27 a.c28 a.c29 a.c30 a.c31 a.c32 a.c33 a.c34 a.c35 a.c36 a.c37 a.c38 a.c39 a.c40 a.c41 a.c42 a.c43 a.c44 a.c45 a.c46 a.c47 a.c48 a.c49) (W34.mk 0 0 [] [] [] false 0 0 0 0 0 0 0 0 0 0 0 0 0 0 0 [] false [] 0 0 0 0 0 [] [] [])) fun ⟨u⟩ => .ret (.a0 u)) (fun h1 => .auto 1 <| .testB (a.c2 == 0) (fun h2 => .auto 5 <| .testB (((List.length a.c15) : Int) == 0) (fun h3 => .auto 3 <| .ask E15 (F15_ok (W34.mk a.c18 a.c19 a.c20 a.c21 a.c22 a.c23 a.c24 a.c25 a.c26 a.c27 a.c28 a.c29 a.c30 a.c31 a.c32 a.c33 a.c34 a.c35 a.c36 a.c37 a.c38 a.c39 a.c40 a.c41 a.c42 a.c43 a.c44 a.c45 a.c46 a.c47 a.c48 a.c49)) fun ⟨v⟩ => .auto 1 <| .testB v (fun h4 => .auto 4 <| .ask E280 (F280_ok a.c25 a.c26 a.c27 a.c28 a.c29 a.c30 a.c31 a.c32 a.c33 a.c34 a.c35 a.c36 a.c37 a.c38) fun ⟨w⟩ => .auto 1 <| .ret (.a0 w)) (fun h4 => .auto 4 <| .ret (.a0 false))) (fun h3 => .auto 8 <| .ret (.a0 false))) (fun h2 => .auto 13 <| .ret (.a0 false))))
noncomputable def F253 (a : W57) : Option A253 := (D253 a).ev some
theorem F253_ok (a : W57) : FU E253 (F253 a) 253 [V.agg (W57.cells a)] := fu rfl rfl fun x => by kernel_rfl
/-! ## F255 -/
noncomputable def D255 (a d : Int) : PT Bool := .test (a ≥ 0) (fun h0 => .auto 3 <| .ret (decide (a < d))) (fun h0 => .auto 3 <| .ret false)
abbrev O255 (a : Bool) : V × Store := (vb a, [])
noncomputable def F255 (a d : Int) : Bool := (D255 a d).evT
theorem F255_ok (a d : Int) : UU 255 ([i64 a, i64 d]) ([]) = some (O255 (F255 a d)) :=
  fnT_ok (out := O255) (L := notIn []) rfl rfl (fun x => by kernel_rfl) (by simp [D255, PT.isT])
/-! ## F281 -/
noncomputable abbrev B281 : Code := (Tryz.f281.body).getD .skip
inductive T281_0s0 where
  | mk (a d f i : Int) (j : LV)
inductive T281_0e0 where
  | mk (a : Bool)
inductive N281_0 where
  | s0 (x : T281_0s0)
  | e0 (x : T281_0e0)
  | e1
abbrev N281_0.out : N281_0 → VX × S
  | .s0 (.mk a d f i j) => (vN, S.mk (U :: i64 a :: pT 0 :: U :: U :: i64 d :: un 8 (i64 f :: i64 i :: un 17 [])) [oF 1 [[lS 50 j]]])
  | .e0 (.mk l) => (VX.ret, S.mk (un 4 (vb l :: un 28 [])) [])
  | .e1 => (vX 0, S.mk (un 33 []) [])
abbrev E281_0 := Ent.o3 N281_0.out .s0 .e0 (fun (_ : Unit) => .e1) (fun b => by cases b <;> simp)
noncomputable def D281_0 : T281_0s0 → PT N281_0 | .mk f a i j d => .test (j < i) (fun h0 => .testB (a == f) (fun h1 => .ret (.e0 (.mk true))) (fun h1 => .auto 1 <| .tot O255 (F255_ok a ((d.length : Int))) fun l => .testB (!l) (fun h2 => .ret (.e0 (.mk false))) (fun h2 => .auto 1 <| .test (0 ≤ a) (fun h3 => .look RW57 (d[Int.toNat a]?) fun m => .ret (.s0 (.mk f m.c1 i (w64 (j + 1)) d))) (fun _ => .fail)))) (fun h0 => .ret .e1)
noncomputable def L281_0 := E281_0.loop fun | .s0 x => D281_0 x | _ => .fail
theorem L281_0_ok : LU 281 0 B281 0 E281_0 L281_0 :=
  lk (L := notIn []) (fun b hb => by cases b <;> first | (cases hb; done) | (rename_i x; cases x; intro x; kernel_rfl) | (intro x; kernel_rfl))
noncomputable def N281_0.nx (n : Nat) : N281_0 → Option N281_0 | .s0 x => L281_0 n (.s0 x) | .e0 x => some (.e0 x) | .e1 => some .e1
theorem L281_0_s0 (n : Nat) (x : T281_0s0) : L281_0 (n + 1) (.s0 x) = (D281_0 x).ev (N281_0.nx n) := Ent.loop_eq fun c => by cases c <;> rfl
noncomputable def D281 (a : LV) (d : Int) : PT A281 := .auto 1 <| .test (0 ≤ d) (fun h0 => .look RW57 (a[Int.toNat d]?) fun f => .auto 1 <| .cut E281_0 (L281_0_ok (.s0 (.mk d f.c1 ((a.length : Int)) 0 a)) rfl) fun | .e0 (.mk i) => .ret (.a0 i) | .e1 => .ret (.a0 false) | _ => .fail) (fun _ => .fail)
noncomputable def F281 (a : LV) (d : Int) : Option A281 := (D281 a d).ev some
theorem F281_ok (a : LV) (d : Int) : FU E281 (F281 a d) 281 [V.agg [lS 50 a], i64 d] := fu rfl rfl fun x => by kernel_rfl
/-! ## F254 -/
noncomputable abbrev B254 : Code := (Tryz.f254.body).getD .skip
inductive T254_r6s0 where
  | mk (a d f i : Int) (j l : LV) (m : W57)
abbrev T254_r6s0.st : T254_r6s0 → S
  | .mk a d f i j l m => S.mk (U :: i64 a :: i64 d :: pT 0 :: U :: U :: U :: pT 1 :: pT 2 :: un 61 []) [oF 3 [[i64 f, i64 i, lS 1 j]], oF 1 [[lS 50 l]], oF 50 [W57.cells m]]
inductive T254_r6e0 where
  | mk (a : Int) (d : Bool) (f i : Int) (j : LV) (l : W57)
inductive N254_r6 where
  | e0 (x : T254_r6e0)
abbrev N254_r6.out : N254_r6 → VX × S
  | .e0 (.mk a d f i j l) => (vN, S.mk (U :: i64 a :: U :: pT 0 :: un 4 (pT 1 :: un 26 (vb d :: un 34 []))) [oF 3 [[i64 f, i64 i, lS 1 j]], oF 50 [W57.cells l]])
abbrev E254_r6 := Ent.o1 N254_r6.out .e0 fun ⟨x⟩ => ⟨x, rfl⟩
noncomputable def D254_r6 : T254_r6s0 → PT N254_r6 | .mk d f i j l m a => .auto 1 <| .testB (a.c3 != 0) (fun h0 => .auto 2 <| .testB (f == 0) (fun h1 => .auto 10 <| .ret (.e0 (.mk d true i j l a))) (fun h1 => .auto 5 <| .test (0 ≤ w64 (f - 1)) (fun h2 => .look RW57 (m[Int.toNat (w64 (f - (1 : Int)))]?) fun o => .auto 6 <| .ret (.e0 (.mk d (o.c3 != 0) i j l a))) (fun _ => .fail))) (fun h0 => .auto 4 <| .ret (.e0 (.mk d false i j l a)))
noncomputable def J254_r6 (y : T254_r6s0) : Option N254_r6 := (D254_r6 y).ev some
theorem J254_r6_ok (y : T254_r6s0) : ∀ b, J254_r6 y = some b → regP Tryz.prog X CC 254 0 B254 6 y.st = some (E254_r6.out b) := by
  cases y; exact reg_ok (E := E254_r6) (fun x => by kernel_rfl)
inductive T254_r3s0 where
  | mk (a d f i : Int) (j l : LV) (m : W57)
abbrev T254_r3s0.st : T254_r3s0 → S
  | .mk a d f i j l m => S.mk (U :: i64 a :: i64 d :: pT 0 :: U :: U :: U :: pT 1 :: pT 2 :: un 61 []) [oF 3 [[i64 f, i64 i, lS 1 j]], oF 1 [[lS 50 l]], oF 50 [W57.cells m]]
inductive T254_r3e0 where
  | mk (a d : Int) (f : Bool) (i j : Int) (l m : LV) (o : W57)
inductive N254_r3 where
  | e0 (x : T254_r3e0)
abbrev N254_r3.out : N254_r3 → VX × S
  | .e0 (.mk a d f i j l m o) => (vN, S.mk (U :: i64 a :: i64 d :: pT 0 :: U :: U :: U :: pT 1 :: pT 2 :: un 10 (vb f :: un 50 [])) [oF 3 [[i64 i, i64 j, lS 1 l]], oF 1 [[lS 50 m]], oF 50 [W57.cells o]])
abbrev E254_r3 := Ent.o1 N254_r3.out .e0 fun ⟨x⟩ => ⟨x, rfl⟩
noncomputable def D254_r3 : T254_r3s0 → PT N254_r3 | .mk f i j l m d a => .auto 1 <| .testB (a.c1 != -1) (fun h0 => .auto 7 <| .tot O255 (F255_ok a.c1 ((d.length : Int))) fun o => .auto 2 <| .ret (.e0 (.mk f i (!o) j l m d a))) (fun h0 => .auto 7 <| .ret (.e0 (.mk f i false j l m d a)))
noncomputable def J254_r3 (y : T254_r3s0) : Option N254_r3 := (D254_r3 y).ev some
theorem J254_r3_ok (y : T254_r3s0) : ∀ b, J254_r3 y = some b → regP Tryz.prog X CC 254 0 B254 3 y.st = some (E254_r3.out b) := by
  cases y; exact reg_ok (E := E254_r3) (fun x => by kernel_rfl)
inductive T254_b0s0 where
  | mk (a d f i : Int) (j l : LV) (m : W57)
abbrev T254_b0s0.st : T254_b0s0 → S
  | .mk a d f i j l m => S.mk (U :: i64 a :: i64 d :: pT 0 :: U :: U :: U :: pT 1 :: pT 2 :: un 61 []) [oF 3 [[i64 f, i64 i, lS 1 j]], oF 1 [[lS 50 l]], oF 50 [W57.cells m]]
inductive T254_b0e1 where
  | mk (a d f : Int) (i : LV) (j : W57)
inductive N254_b0 where
  | e0
  | e1 (x : T254_b0e1)
abbrev N254_b0.out : N254_b0 → VX × S
  | .e0 => (VX.ret, S.mk (un 6 (vb false :: un 63 [])) [])
  | .e1 (.mk a d f i j) => (vN, S.mk (U :: i64 a :: U :: pT 0 :: un 4 (pT 1 :: un 61 [])) [oF 3 [[i64 d, i64 f, lS 1 i]], oF 50 [W57.cells j]])
abbrev E254_b0 := Ent.o2 N254_b0.out (fun (_ : Unit) => .e0) .e1 (fun b => by cases b <;> simp)
noncomputable def D254_b0 : T254_b0s0 → PT N254_b0 | .mk f i j l m o p => .cut E254_r3 (J254_r3_ok (.mk f i j l m o p)) fun | .e0 (.mk q a s t u v d w) => .testB s (fun h0 => .known h0 <| .ret .e0) (fun h0 => .auto 1 <| .ask E281 (F281_ok d a) fun ⟨y⟩ => .testB y (fun h1 => .ret .e0) (fun h1 => .cut E254_r6 (J254_r6_ok (.mk q a t u v d w)) fun | .e0 (.mk z d0 d1 d2 d3 d4) => .testB d0 (fun h2 => .ret .e0) (fun h2 => .ret (.e1 (.mk z d1 d2 d3 d4)))))
noncomputable def J254_b0 (y : T254_b0s0) : Option N254_b0 := (D254_b0 y).ev some
theorem J254_b0_ok (y : T254_b0s0) : BU 254 0 B254 0 E254_b0 (J254_b0 y) y.st := by
  cases y; exact block_ok (L := notIn []) fun x => by kernel_rfl
noncomputable def D254 (l m : Int) (i : LV) (a d : Int) : PT A254 := .auto 1 <| .test (0 ≤ a) (fun h0 => .look RW52 (i[Int.toNat a]?) fun j => .auto 2 <| .test (0 ≤ d) (fun h1 => .look RW57 (j.c0[Int.toNat d]?) fun o => .auto 1 <| .cut E254_b0 (J254_b0_ok (.mk a d l m i j.c0 o)) fun | .e0 => .ret (.a0 false) | .e1 (.mk p t u q f) => .auto 1 <| .testB (f.c0 != 1) (fun h2 => .auto 8 <| .ret (.a0 true)) (fun h2 => .auto 7 <| .tot O255 (F255_ok f.c2 ((q.length : Int))) fun s => .auto 1 <| .testB s (fun h3 => .auto 7 <| .ret (.a0 (decide (f.c2 > p)))) (fun h3 => .auto 6 <| .ret (.a0 false)))) (fun _ => .fail)) (fun _ => .fail)
noncomputable def F254 (a d : Int) (f : LV) (i j : Int) : Option A254 := (D254 a d f i j).ev some
theorem F254_ok (a d : Int) (f : LV) (i j : Int) : FU E254 (F254 a d f i j) 254 [V.agg [i64 a, i64 d, lS 1 f], i64 i, i64 j] := fu rfl rfl fun x => by kernel_rfl
/-! ## F215 -/
noncomputable abbrev B215 : Code := (Tryz.f215.body).getD .skip
inductive T215_2s0 where
  | mk (a : Int) (d : LV) (f : Int) (i : LV) (j l m o : Int)
inductive T215_2e0 where
  | mk (a : Int)
inductive T215_2e1 where
  | mk (a : LV) (d f i j : Int)
inductive N215_2 where
  | s0 (x : T215_2s0)
  | e0 (x : T215_2e0)
  | e1 (x : T215_2e1)
abbrev N215_2.out : N215_2 → VX × S
  | .s0 (.mk a d i j l m o p) => (vN, S.mk (U :: pT 0 :: U :: i64 a :: un 4 (lS 1 d :: i64 i :: i64 a :: un 5 (lS 50 j :: i64 l :: i64 m :: un 14 []))) [oF 3 [[i64 o, i64 p, lS 1 d]]])
  | .e0 (.mk q) => (VX.ret, S.mk (U :: U :: i64 q :: un 30 []) [])
  | .e1 (.mk f s t u v) => (vX 2, S.mk (U :: pT 0 :: un 6 (lS 1 f :: i64 s :: i64 t :: un 22 [])) [oF 3 [[i64 u, i64 v, lS 1 f]]])
abbrev E215_2 := Ent.o3 N215_2.out .s0 .e0 .e1 (fun b => by cases b <;> simp)
noncomputable def D215_2 : T215_2s0 → PT N215_2 | .mk d f l m o a i j => .test (a < o) (fun h0 => .test (0 ≤ a) (fun h1 => .look RW57 (m[Int.toNat a]?) fun p => .auto 2 <| .ask E253 (F253_ok p) fun ⟨q⟩ => .testB (!q) (fun h2 => .ret (.e0 (.mk 14))) (fun h2 => .auto 1 <| .ask E254 (F254_ok i j f d a) fun ⟨s⟩ => .testB (!s) (fun h3 => .ret (.e0 (.mk 15))) (fun h3 => .ret (.s0 (.mk d f l m o (w64 (a + 1)) i j))))) (fun _ => .fail)) (fun h0 => .ret (.e1 (.mk f l d i j)))
noncomputable def L215_2 := E215_2.loop fun | .s0 x => D215_2 x | _ => .fail
theorem L215_2_ok : LU 215 0 B215 2 E215_2 L215_2 :=
  lk (L := notIn []) (fun b hb => by cases b <;> first | (cases hb; done) | (rename_i x; cases x; intro x; kernel_rfl) | (intro x; kernel_rfl))
noncomputable def N215_2.nx (n : Nat) : N215_2 → Option N215_2 | .s0 x => L215_2 n (.s0 x) | .e0 x => some (.e0 x) | .e1 x => some (.e1 x)
theorem L215_2_s0 (n : Nat) (x : T215_2s0) : L215_2 (n + 1) (.s0 x) = (D215_2 x).ev (N215_2.nx n) := Ent.loop_eq fun c => by cases c <;> rfl
inductive T215_0s0 where
  | mk (a : LV) (d f i j : Int)
inductive T215_0e0 where
  | mk (a : Int)
inductive N215_0 where
  | s0 (x : T215_0s0)
  | e0 (x : T215_0e0)
  | e1
abbrev N215_0.out : N215_0 → VX × S
  | .s0 (.mk a d f i j) => (vN, S.mk (U :: pT 0 :: un 6 (lS 1 a :: i64 d :: i64 f :: un 22 [])) [oF 3 [[i64 i, i64 j, lS 1 a]]])
  | .e0 (.mk l) => (VX.ret, S.mk (U :: U :: i64 l :: un 30 []) [])
  | .e1 => (vX 0, S.mk (un 33 []) [])
abbrev E215_0 := Ent.o3 N215_0.out .s0 .e0 (fun (_ : Unit) => .e1) (fun b => by cases b <;> simp)
noncomputable def D215_0 : T215_0s0 → PT N215_0 | .mk d f a j l => .test (a < f) (fun h0 => .test (0 ≤ a) (fun h1 => .look RW52 (d[Int.toNat a]?) fun i => .auto 2 <| .cut E215_2 (L215_2_ok (.s0 (.mk a d f i.c0 (((List.length i.c0) : Int)) 0 j l)) rfl) fun | .e0 (.mk m) => .ret (.e0 (.mk m)) | .e1 (.mk o p q s t) => .ret (.s0 (.mk o p (w64 (q + 1)) s t)) | _ => .fail) (fun _ => .fail)) (fun h0 => .ret .e1)
noncomputable def L215_0 := E215_0.loop fun | .s0 x => D215_0 x | _ => .fail
theorem L215_0_ok : LU 215 0 B215 0 E215_0 L215_0 :=
  lk (L := notIn []) (fun b hb => by cases b <;> first | (cases hb; done) | (rename_i x; cases x; intro x; kernel_rfl) | (intro x; kernel_rfl))
noncomputable def N215_0.nx (n : Nat) : N215_0 → Option N215_0 | .s0 x => L215_0 n (.s0 x) | .e0 x => some (.e0 x) | .e1 => some .e1
theorem L215_0_s0 (n : Nat) (x : T215_0s0) : L215_0 (n + 1) (.s0 x) = (D215_0 x).ev (N215_0.nx n) := Ent.loop_eq fun c => by cases c <;> rfl
noncomputable def D215 (d f : Int) (a : LV) : PT A215 := .auto 1 <| .cut E215_0 (L215_0_ok (.s0 (.mk a ((a.length : Int)) 0 d f)) rfl) fun | .e0 (.mk i) => .ret (.a0 i) | .e1 => .ret (.a0 0) | _ => .fail
noncomputable def F215 (a d : Int) (f : LV) : Option A215 := (D215 a d f).ev some
theorem F215_ok (a d : Int) (f : LV) : FU E215 (F215 a d f) 215 [V.agg [i64 a, i64 d, lS 1 f]] := fu rfl rfl fun x => by kernel_rfl
/-! ## F257 -/
noncomputable def D257 (a : Int) (f : W57) (d : Int) : PT Int := .ret (if w64 (1 + d) > a then w64 (1 + d) else a)
abbrev O257 (a : Int) : V × Store := (i64 a, [])
noncomputable def F257 (a : Int) (d : W57) (f : Int) : Int := (D257 a d f).evT
theorem F257_ok (a : Int) (d : W57) (f : Int) : UU 257 ([i64 a, V.agg (W57.cells d), i64 f]) ([]) = some (O257 (F257 a d f)) :=
  fnT_ok (out := O257) (L := notIn []) rfl rfl (fun x => by kernel_rfl) (by simp [D257, PT.isT])
/-! ## F256 -/
noncomputable abbrev B256 : Code := (Tryz.f256.body).getD .skip
inductive T256_r10s0 where
  | mk (a : Int) (d : Nat) (f i : Int) (j : LV) (l m o p : Int) (q s : LV) (t : W57)
abbrev T256_r10s0.st : T256_r10s0 → S
  | .mk a d f i j l m o p q s t => S.mk (U :: i64 a :: V.fn 257 [] :: pT 0 :: U :: U :: U :: hS 1 d :: i64 f :: i64 i :: U :: pT 2 :: i64 0 :: un 18 (lS 50 j :: i64 l :: i64 m :: un 36 [])) [oF 3 [[i64 o, i64 p, lS 1 q]], oT 1 s, oF 50 [W57.cells t]]
inductive T256_r10e0 where
  | mk (a : Int) (d : Nat) (f i : Int) (j : LV) (l m : Int) (o : Bool) (p q : Int) (s t : LV) (u : W57)
inductive N256_r10 where
  | e0 (x : T256_r10e0)
abbrev N256_r10.out : N256_r10 → VX × S
  | .e0 (.mk a d f i j l m o p q s t u) => (vN, S.mk (U :: i64 a :: V.fn 257 [] :: pT 0 :: U :: U :: U :: hS 1 d :: i64 f :: i64 i :: U :: pT 2 :: i64 0 :: un 18 (lS 50 j :: i64 l :: i64 m :: un 19 (vb o :: un 16 []))) [oF 3 [[i64 p, i64 q, lS 1 s]], oT 1 t, oF 50 [W57.cells u]])
abbrev E256_r10 := Ent.o1 N256_r10.out .e0 fun ⟨x⟩ => ⟨x, rfl⟩
noncomputable def D256_r10 : T256_r10s0 → PT N256_r10 | .mk i j d l m o p q s f t a => .auto 1 <| .testB (a.c0 == 1) (fun h0 => .auto 5 <| .test (a.c2 > d) (fun h1 => .auto 8 <| .ret (.e0 (.mk i j d l m o p (decide (a.c2 < (f.length : Int))) q s f t a))) (fun h1 => .auto 6 <| .ret (.e0 (.mk i j d l m o p false q s f t a)))) (fun h0 => .auto 11 <| .ret (.e0 (.mk i j d l m o p false q s f t a)))
noncomputable def J256_r10 (y : T256_r10s0) : Option N256_r10 := (D256_r10 y).ev some
theorem J256_r10_ok (y : T256_r10s0) : ∀ b, J256_r10 y = some b → regP Tryz.prog X CC 256 0 B256 10 y.st = some (E256_r10.out b) := by
  cases y; exact reg_ok (E := E256_r10) (fun x => by kernel_rfl)
inductive T256_2s0 where
  | mk (a : Int) (d : Nat) (f i : Int) (j : LV) (l m o p : Int) (q s : LV)
inductive T256_2e0 where
  | mk (a : Int) (d : Nat) (f i j l : Int) (m o : LV)
inductive N256_2 where
  | s0 (x : T256_2s0)
  | e0 (x : T256_2e0)
abbrev N256_2.out : N256_2 → VX × S
  | .s0 (.mk a d f i j l m o p q s) => (vN, S.mk (U :: i64 a :: V.fn 257 [] :: pT 0 :: U :: U :: U :: hS 1 d :: i64 f :: i64 i :: un 21 (lS 50 j :: i64 l :: i64 m :: un 36 [])) [oF 3 [[i64 o, i64 p, lS 1 q]], oT 1 s])
  | .e0 (.mk t u v w y z d0 d1) => (vX 2, S.mk (U :: i64 t :: V.fn 257 [] :: pT 0 :: U :: U :: U :: hS 1 u :: i64 v :: i64 w :: un 60 []) [oF 3 [[i64 y, i64 z, lS 1 d0]], oT 1 d1])
abbrev E256_2 := Ent.o2 N256_2.out .s0 .e0 (fun b => by cases b <;> simp)
noncomputable def D256_2 : T256_2s0 → PT N256_2 | .mk j l m o p q d s t u v => .test (d < q) (fun h0 => .test (0 ≤ d) (fun h1 => .look RW57 (p[Int.toNat d]?) fun d6 => .auto 1 <| .cut E256_r10 (J256_r10_ok (.mk j l m o p q d s t u v d6)) fun | .e0 (.mk w f y z d0 d1 d2 d7 d3 d4 d5 i a) => .testB d7 (fun h2 => .auto 1 <| .test (0 ≤ a.c2 ∧ a.c2 < (↑f : Int)) (fun h3 => .look RW3 (i[(0 : Nat) + Int.toNat a.c2]?) fun d8 => .auto 1 <| .tot O257 (F257_ok z a d8.c0) fun d9 => .ret (.s0 (.mk w f y d9 d0 d1 (w64 (d2 + 1)) d3 d4 d5 i))) (fun _ => .fail)) (fun h2 => .auto 1 <| .tot O257 (F257_ok z a 0) fun f0 => .ret (.s0 (.mk w f y f0 d0 d1 (w64 (d2 + 1)) d3 d4 d5 i)))) (fun _ => .fail)) (fun h0 => .ret (.e0 (.mk j l m o s t u v)))
noncomputable def L256_2 := E256_2.loop fun | .s0 x => D256_2 x | _ => .fail
theorem L256_2_ok : LU 256 0 B256 2 E256_2 L256_2 :=
  lk (L := notIn []) (fun b hb => by cases b <;> first | (cases hb; done) | (rename_i x; cases x; intro x; kernel_rfl) | (intro x; kernel_rfl))
noncomputable def N256_2.nx (n : Nat) : N256_2 → Option N256_2 | .s0 x => L256_2 n (.s0 x) | .e0 x => some (.e0 x)
theorem L256_2_s0 (n : Nat) (x : T256_2s0) : L256_2 (n + 1) (.s0 x) = (D256_2 x).ev (N256_2.nx n) := Ent.loop_eq fun c => by cases c <;> rfl
inductive T256_0s0 where
  | mk (a : Int) (d : Nat) (f i j : Int) (l m : LV)
inductive T256_0e0 where
  | mk (a : Nat) (d : LV)
inductive N256_0 where
  | s0 (x : T256_0s0)
  | e0 (x : T256_0e0)
abbrev N256_0.out : N256_0 → VX × S
  | .s0 (.mk a d f i j l m) => (vN, S.mk (U :: i64 a :: V.fn 257 [] :: pT 0 :: U :: U :: U :: hS 1 d :: i64 f :: un 61 []) [oF 3 [[i64 i, i64 j, lS 1 l]], oT 1 m])
  | .e0 (.mk o p) => (vX 0, S.mk (un 7 (hS 0 o :: un 62 [])) [oT 1 p])
abbrev E256_0 := Ent.o2 N256_0.out .s0 .e0 (fun b => by cases b <;> simp)
noncomputable def D256_0 : T256_0s0 → PT N256_0 | .mk f i d q s j l => .test (d ≥ 0) (fun h0 => .auto 1 <| .test (0 ≤ d) (fun h1 => .look RW52 (j[Int.toNat d]?) fun m => .cut E256_2 (L256_2_ok (.s0 (.mk f i d f m.c0 (((List.length m.c0) : Int)) 0 q s j l)) rfl) fun | .e0 (.mk t o a u v w y p) => .test (0 ≤ a ∧ a < (↑o : Int)) (fun h2 => .look RW3 (p[(0 : Nat) + Int.toNat a]?) fun z => .ret (.s0 (.mk t o (w64 (a - 1)) v w y (List.set p (0 + Int.toNat a) [i64 u])))) (fun _ => .fail) | _ => .fail) (fun _ => .fail)) (fun h0 => .ret (.e0 (.mk i l)))
noncomputable def L256_0 := E256_0.loop fun | .s0 x => D256_0 x | _ => .fail
theorem L256_0_ok : LU 256 0 B256 0 E256_0 L256_0 :=
  lk (L := notIn []) (fun b hb => by cases b <;> first | (cases hb; done) | (rename_i x; cases x; intro x; kernel_rfl) | (intro x; kernel_rfl))
noncomputable def N256_0.nx (n : Nat) : N256_0 → Option N256_0 | .s0 x => L256_0 n (.s0 x) | .e0 x => some (.e0 x)
theorem L256_0_s0 (n : Nat) (x : T256_0s0) : L256_0 (n + 1) (.s0 x) = (D256_0 x).ev (N256_0.nx n) := Ent.loop_eq fun c => by cases c <;> rfl
noncomputable def D256 (d f : Int) (a : LV) (i : Int) : PT A256 := .auto 1 <| .test (0 ≤ (a.length : Int) ∧ (a.length : Int) ≤ (a.length : Int) ∧ (a.length : Int) ≤ 140737488355328 ∧ (a.length : Int) * 8 ≤ 140737488355328) (fun h0 => .auto 1 <| .cut E256_0 (L256_0_ok (.s0 (.mk i (Int.toNat (a.length : Int)) (w64 ((a.length : Int) - 1)) d f a (List.replicate (Int.toNat (a.length : Int)) [i64 0]))) rfl) fun | .e0 (.mk j l) => .ret (.a0 j l) | _ => .fail) (fun _ => .fail)
noncomputable def F256 (a d : Int) (f : LV) (i : Int) : Option A256 := (D256 a d f i).ev some
theorem F256_ok (a d : Int) (f : LV) (i : Int) : FU E256 (F256 a d f i) 256 [V.agg [i64 a, i64 d, lS 1 f], i64 i, V.fn 257 []] := fu rfl rfl fun x => by kernel_rfl
/-! ## F216 -/
noncomputable def D216 (f i : Int) (d : LV) (a : Int) : PT A216 := .auto 1 <| .tot O255 (F255_ok a ((d.length : Int))) fun j => .testB (!j) (fun h0 => .ret (.a0 0)) (fun h0 => .auto 1 <| .ask E256 (F256_ok f i d 1) fun ⟨l, m⟩ => .test (0 ≤ a ∧ a < (↑l : Int)) (fun h1 => .look RW3 (m[(0 : Nat) + Int.toNat a]?) fun o => .ret (.a0 o.c0)) (fun _ => .fail))
noncomputable def F216 (a d : Int) (f : LV) (i : Int) : Option A216 := (D216 a d f i).ev some
theorem F216_ok (a d : Int) (f : LV) (i : Int) : FU E216 (F216 a d f i) 216 [V.agg [i64 a, i64 d, lS 1 f], i64 i] := fu rfl rfl fun x => by kernel_rfl
/-! ## F258 -/
noncomputable def D258 (a : Int) (d : W57) (f : Int) : PT Int := .auto 1 <| .testB (d.c0 == 0) (fun h0 => .ret (if 257 < w64 (a + 2) then 257 else w64 (a + 2))) (fun h0 => .testB (d.c0 == 1) (fun h1 => .ret (if 257 < w64 (a + w64 (1 + f)) then 257 else w64 (a + w64 (1 + f)))) (fun h1 => .ret (if 257 < a then 257 else a)))
abbrev O258 (a : Int) : V × Store := (i64 a, [])
noncomputable def F258 (a : Int) (d : W57) (f : Int) : Int := (D258 a d f).evT
theorem F258_ok (a : Int) (d : W57) (f : Int) : UU 258 ([i64 a, V.agg (W57.cells d), i64 f]) ([]) = some (O258 (F258 a d f)) :=
  fnT_ok (out := O258) (L := notIn []) rfl rfl (fun x => by kernel_rfl) (by simp [D258, PT.isT])
/-! ## F256v1 -/
noncomputable abbrev B256v1 : Code := (Tryz.f256.body).getD .skip
inductive T256v1_r10s0 where
  | mk (a : Int) (d : Nat) (f i : Int) (j : LV) (l m o p : Int) (q s : LV) (t : W57)
abbrev T256v1_r10s0.st : T256v1_r10s0 → S
  | .mk a d f i j l m o p q s t => S.mk (U :: i64 a :: V.fn 258 [] :: pT 0 :: U :: U :: U :: hS 1 d :: i64 f :: i64 i :: U :: pT 2 :: i64 0 :: un 18 (lS 50 j :: i64 l :: i64 m :: un 36 [])) [oF 3 [[i64 o, i64 p, lS 1 q]], oT 1 s, oF 50 [W57.cells t]]
inductive T256v1_r10e0 where
  | mk (a : Int) (d : Nat) (f i : Int) (j : LV) (l m : Int) (o : Bool) (p q : Int) (s t : LV) (u : W57)
inductive N256v1_r10 where
  | e0 (x : T256v1_r10e0)
abbrev N256v1_r10.out : N256v1_r10 → VX × S
  | .e0 (.mk a d f i j l m o p q s t u) => (vN, S.mk (U :: i64 a :: V.fn 258 [] :: pT 0 :: U :: U :: U :: hS 1 d :: i64 f :: i64 i :: U :: pT 2 :: i64 0 :: un 18 (lS 50 j :: i64 l :: i64 m :: un 19 (vb o :: un 16 []))) [oF 3 [[i64 p, i64 q, lS 1 s]], oT 1 t, oF 50 [W57.cells u]])
abbrev E256v1_r10 := Ent.o1 N256v1_r10.out .e0 fun ⟨x⟩ => ⟨x, rfl⟩
noncomputable def D256v1_r10 : T256v1_r10s0 → PT N256v1_r10 | .mk i j d l m o p q s f t a => .auto 1 <| .testB (a.c0 == 1) (fun h0 => .auto 5 <| .test (a.c2 > d) (fun h1 => .auto 8 <| .ret (.e0 (.mk i j d l m o p (decide (a.c2 < (f.length : Int))) q s f t a))) (fun h1 => .auto 6 <| .ret (.e0 (.mk i j d l m o p false q s f t a)))) (fun h0 => .auto 11 <| .ret (.e0 (.mk i j d l m o p false q s f t a)))
noncomputable def J256v1_r10 (y : T256v1_r10s0) : Option N256v1_r10 := (D256v1_r10 y).ev some
theorem J256v1_r10_ok (y : T256v1_r10s0) : ∀ b, J256v1_r10 y = some b → regP Tryz.prog X CC 256 0 B256v1 10 y.st = some (E256v1_r10.out b) := by
  cases y; exact reg_ok (E := E256v1_r10) (fun x => by kernel_rfl)
inductive T256v1_2s0 where
  | mk (a : Int) (d : Nat) (f i : Int) (j : LV) (l m o p : Int) (q s : LV)
inductive T256v1_2e0 where
  | mk (a : Int) (d : Nat) (f i j l : Int) (m o : LV)
inductive N256v1_2 where
  | s0 (x : T256v1_2s0)
  | e0 (x : T256v1_2e0)
abbrev N256v1_2.out : N256v1_2 → VX × S
  | .s0 (.mk a d f i j l m o p q s) => (vN, S.mk (U :: i64 a :: V.fn 258 [] :: pT 0 :: U :: U :: U :: hS 1 d :: i64 f :: i64 i :: un 21 (lS 50 j :: i64 l :: i64 m :: un 36 [])) [oF 3 [[i64 o, i64 p, lS 1 q]], oT 1 s])
  | .e0 (.mk t u v w y z d0 d1) => (vX 2, S.mk (U :: i64 t :: V.fn 258 [] :: pT 0 :: U :: U :: U :: hS 1 u :: i64 v :: i64 w :: un 60 []) [oF 3 [[i64 y, i64 z, lS 1 d0]], oT 1 d1])
abbrev E256v1_2 := Ent.o2 N256v1_2.out .s0 .e0 (fun b => by cases b <;> simp)
noncomputable def D256v1_2 : T256v1_2s0 → PT N256v1_2 | .mk j l m o p q d s t u v => .test (d < q) (fun h0 => .test (0 ≤ d) (fun h1 => .look RW57 (p[Int.toNat d]?) fun d6 => .auto 1 <| .cut E256v1_r10 (J256v1_r10_ok (.mk j l m o p q d s t u v d6)) fun | .e0 (.mk w f y z d0 d1 d2 d7 d3 d4 d5 i a) => .testB d7 (fun h2 => .auto 1 <| .test (0 ≤ a.c2 ∧ a.c2 < (↑f : Int)) (fun h3 => .look RW3 (i[(0 : Nat) + Int.toNat a.c2]?) fun d8 => .auto 1 <| .tot O258 (F258_ok z a d8.c0) fun d9 => .ret (.s0 (.mk w f y d9 d0 d1 (w64 (d2 + 1)) d3 d4 d5 i))) (fun _ => .fail)) (fun h2 => .auto 1 <| .tot O258 (F258_ok z a 0) fun f0 => .ret (.s0 (.mk w f y f0 d0 d1 (w64 (d2 + 1)) d3 d4 d5 i)))) (fun _ => .fail)) (fun h0 => .ret (.e0 (.mk j l m o s t u v)))
noncomputable def L256v1_2 := E256v1_2.loop fun | .s0 x => D256v1_2 x | _ => .fail
theorem L256v1_2_ok : LU 256 0 B256v1 2 E256v1_2 L256v1_2 :=
  lk (L := notIn []) (fun b hb => by cases b <;> first | (cases hb; done) | (rename_i x; cases x; intro x; kernel_rfl) | (intro x; kernel_rfl))
noncomputable def N256v1_2.nx (n : Nat) : N256v1_2 → Option N256v1_2 | .s0 x => L256v1_2 n (.s0 x) | .e0 x => some (.e0 x)
theorem L256v1_2_s0 (n : Nat) (x : T256v1_2s0) : L256v1_2 (n + 1) (.s0 x) = (D256v1_2 x).ev (N256v1_2.nx n) := Ent.loop_eq fun c => by cases c <;> rfl
inductive T256v1_0s0 where
  | mk (a : Int) (d : Nat) (f i j : Int) (l m : LV)
inductive T256v1_0e0 where
  | mk (a : Nat) (d : LV)
inductive N256v1_0 where
  | s0 (x : T256v1_0s0)
  | e0 (x : T256v1_0e0)
abbrev N256v1_0.out : N256v1_0 → VX × S
  | .s0 (.mk a d f i j l m) => (vN, S.mk (U :: i64 a :: V.fn 258 [] :: pT 0 :: U :: U :: U :: hS 1 d :: i64 f :: un 61 []) [oF 3 [[i64 i, i64 j, lS 1 l]], oT 1 m])
  | .e0 (.mk o p) => (vX 0, S.mk (un 7 (hS 0 o :: un 62 [])) [oT 1 p])
abbrev E256v1_0 := Ent.o2 N256v1_0.out .s0 .e0 (fun b => by cases b <;> simp)
noncomputable def D256v1_0 : T256v1_0s0 → PT N256v1_0 | .mk f i d q s j l => .test (d ≥ 0) (fun h0 => .auto 1 <| .test (0 ≤ d) (fun h1 => .look RW52 (j[Int.toNat d]?) fun m => .cut E256v1_2 (L256v1_2_ok (.s0 (.mk f i d f m.c0 (((List.length m.c0) : Int)) 0 q s j l)) rfl) fun | .e0 (.mk t o a u v w y p) => .test (0 ≤ a ∧ a < (↑o : Int)) (fun h2 => .look RW3 (p[(0 : Nat) + Int.toNat a]?) fun z => .ret (.s0 (.mk t o (w64 (a - 1)) v w y (List.set p (0 + Int.toNat a) [i64 u])))) (fun _ => .fail) | _ => .fail) (fun _ => .fail)) (fun h0 => .ret (.e0 (.mk i l)))
noncomputable def L256v1_0 := E256v1_0.loop fun | .s0 x => D256v1_0 x | _ => .fail
theorem L256v1_0_ok : LU 256 0 B256v1 0 E256v1_0 L256v1_0 :=
  lk (L := notIn []) (fun b hb => by cases b <;> first | (cases hb; done) | (rename_i x; cases x; intro x; kernel_rfl) | (intro x; kernel_rfl))
noncomputable def N256v1_0.nx (n : Nat) : N256v1_0 → Option N256v1_0 | .s0 x => L256v1_0 n (.s0 x) | .e0 x => some (.e0 x)
theorem L256v1_0_s0 (n : Nat) (x : T256v1_0s0) : L256v1_0 (n + 1) (.s0 x) = (D256v1_0 x).ev (N256v1_0.nx n) := Ent.loop_eq fun c => by cases c <;> rfl
noncomputable def D256v1 (d f : Int) (a : LV) (i : Int) : PT A256v1 := .auto 1 <| .test (0 ≤ (a.length : Int) ∧ (a.length : Int) ≤ (a.length : Int) ∧ (a.length : Int) ≤ 140737488355328 ∧ (a.length : Int) * 8 ≤ 140737488355328) (fun h0 => .auto 1 <| .cut E256v1_0 (L256v1_0_ok (.s0 (.mk i (Int.toNat (a.length : Int)) (w64 ((a.length : Int) - 1)) d f a (List.replicate (Int.toNat (a.length : Int)) [i64 0]))) rfl) fun | .e0 (.mk j l) => .ret (.a0 j l) | _ => .fail) (fun _ => .fail)
noncomputable def F256v1 (a d : Int) (f : LV) (i : Int) : Option A256v1 := (D256v1 a d f i).ev some
theorem F256v1_ok (a d : Int) (f : LV) (i : Int) : FU E256v1 (F256v1 a d f i) 256 [V.agg [i64 a, i64 d, lS 1 f], i64 i, V.fn 258 []] := fu rfl rfl fun x => by kernel_rfl
/-! ## F217 -/
noncomputable def D217 (f i : Int) (d : LV) (a : Int) : PT A217 := .auto 1 <| .tot O255 (F255_ok a ((d.length : Int))) fun j => .testB (!j) (fun h0 => .ret (.a0 0)) (fun h0 => .auto 1 <| .ask E256v1 (F256v1_ok f i d 0) fun ⟨l, m⟩ => .test (0 ≤ a ∧ a < (↑l : Int)) (fun h1 => .look RW3 (m[(0 : Nat) + Int.toNat a]?) fun o => .ret (.a0 o.c0)) (fun _ => .fail))
noncomputable def F217 (a d : Int) (f : LV) (i : Int) : Option A217 := (D217 a d f i).ev some
theorem F217_ok (a d : Int) (f : LV) (i : Int) : FU E217 (F217 a d f i) 217 [V.agg [i64 a, i64 d, lS 1 f], i64 i] := fu rfl rfl fun x => by kernel_rfl
/-! ## F157 -/
noncomputable abbrev B157 : Code := (Tryz.f157.body).getD .skip
inductive T157_r4s0 where
  | mk (a d : Int) (f : LV)
abbrev T157_r4s0.st : T157_r4s0 → S
  | .mk a d f => S.mk (U :: pT 0 :: un 51 []) [oF 3 [[i64 a, i64 d, lS 1 f]]]
inductive T157_r4e0 where
  | mk (a : Bool) (d f : Int) (i : LV)
inductive N157_r4 where
  | e0 (x : T157_r4e0)
abbrev N157_r4.out : N157_r4 → VX × S
  | .e0 (.mk a d f i) => (vN, S.mk (U :: pT 0 :: un 20 (vb a :: un 30 [])) [oF 3 [[i64 d, i64 f, lS 1 i]]])
abbrev E157_r4 := Ent.o1 N157_r4.out .e0 fun ⟨x⟩ => ⟨x, rfl⟩
noncomputable def D157_r4 : T157_r4s0 → PT N157_r4 | .mk a d f => .auto 1 <| .tot O214 (F214_ok a) fun i => .testB (!i) (fun h0 => .auto 10 <| .ret (.e0 (.mk true a d f))) (fun h0 => .auto 3 <| .tot O214 (F214_ok d) fun j => .auto 2 <| .testB (!j) (fun h1 => .auto 5 <| .ret (.e0 (.mk true a d f))) (fun h1 => .auto 7 <| .ret (.e0 (.mk (decide (a ≥ d)) a d f))))
noncomputable def J157_r4 (y : T157_r4s0) : Option N157_r4 := (D157_r4 y).ev some
theorem J157_r4_ok (y : T157_r4s0) : ∀ b, J157_r4 y = some b → regP Tryz.prog X CC 157 0 B157 4 y.st = some (E157_r4.out b) := by
  cases y; exact reg_ok (E := E157_r4) (fun x => by kernel_rfl)
inductive T157_r2s0 where
  | mk (a : Bool) (d f : Int) (i : LV)
abbrev T157_r2s0.st : T157_r2s0 → S
  | .mk a d f i => S.mk (U :: pT 0 :: U :: vb a :: un 49 []) [oF 3 [[i64 d, i64 f, lS 1 i]]]
inductive T157_r2e0 where
  | mk (a : Bool) (d f : Int) (i : LV)
inductive N157_r2 where
  | e0 (x : T157_r2e0)
abbrev N157_r2.out : N157_r2 → VX × S
  | .e0 (.mk a d f i) => (vN, S.mk (U :: pT 0 :: un 6 (vb a :: un 44 [])) [oF 3 [[i64 d, i64 f, lS 1 i]]])
abbrev E157_r2 := Ent.o1 N157_r2.out .e0 fun ⟨x⟩ => ⟨x, rfl⟩
noncomputable def D157_r2 : T157_r2s0 → PT N157_r2 | .mk i d f a => .auto 1 <| .test ((a.length : Int) < 1) (fun h0 => .auto 6 <| .ret (.e0 (.mk true d f a))) (fun h0 => .auto 5 <| .test ((a.length : Int) > 8) (fun h1 => .auto 1 <| .ret (.e0 (.mk true d f a))) (fun h1 => .auto 1 <| .ret (.e0 (.mk i d f a))))
noncomputable def J157_r2 (y : T157_r2s0) : Option N157_r2 := (D157_r2 y).ev some
theorem J157_r2_ok (y : T157_r2s0) : ∀ b, J157_r2 y = some b → regP Tryz.prog X CC 157 0 B157 2 y.st = some (E157_r2.out b) := by
  cases y; exact reg_ok (E := E157_r2) (fun x => by kernel_rfl)
noncomputable def D157 (l m : Int) (i : LV) : PT A157 := .auto 1 <| .ask E212 (F212_ok i) fun ⟨o⟩ => .cut E157_r2 (J157_r2_ok (.mk o l m i)) fun | .e0 (.mk p q s t) => .testB p (fun h0 => .ret (.a0 23)) (fun h0 => .cut E157_r4 (J157_r4_ok (.mk q s t)) fun | .e0 (.mk u a d f) => .testB u (fun h1 => .ret (.a0 1)) (fun h1 => .auto 1 <| .ask E215 (F215_ok a d f) fun ⟨j⟩ => .testB (j != 0) (fun h2 => .ret (.a0 j)) (fun h2 => .auto 1 <| .ask E216 (F216_ok a d f 0) fun ⟨v⟩ => .test (v > 4) (fun h3 => .auto 4 <| .ret (.a0 24)) (fun h3 => .auto 2 <| .ask E217 (F217_ok a d f 0) fun ⟨w⟩ => .auto 2 <| .test (w > 256) (fun h4 => .ret (.a0 24)) (fun h4 => .ret (.a0 0))))))
noncomputable def F157 (a d : Int) (f : LV) : Option A157 := (D157 a d f).ev some
theorem F157_ok (a d : Int) (f : LV) : FU E157 (F157 a d f) 157 [V.agg [i64 a, i64 d, lS 1 f]] := fu rfl rfl fun x => by kernel_rfl
/-! ## F74 -/
noncomputable def D74 (a d f : Int) : PT Int := .test (a < d) (fun h0 => .ret d) (fun h0 => .test (a > f) (fun h1 => .ret f) (fun h1 => .ret a))
abbrev O74 (a : Int) : V × Store := (i64 a, [])
noncomputable def F74 (a d f : Int) : Int := (D74 a d f).evT
theorem F74_ok (a d f : Int) : UU 74 ([i64 a, i64 d, i64 f]) ([]) = some (O74 (F74 a d f)) :=
  fnT_ok (out := O74) (L := notIn []) rfl rfl (fun x => by kernel_rfl) (by simp [D74, PT.isT])
/-! ## F132 -/
noncomputable def D132 (a : Int) : PT Int := .tot O74 (F74_ok a (-1099511627776) 1099511627776) fun d => .ret d
abbrev O132 (a : Int) : V × Store := (i64 a, [])
noncomputable def F132 (a : Int) : Int := (D132 a).evT
theorem F132_ok (a : Int) : UU 132 ([i64 a]) ([]) = some (O132 (F132 a)) :=
  fnT_ok (out := O132) (L := notIn []) rfl rfl (fun x => by kernel_rfl) (by simp [D132, PT.isT])
/-! ## F131 -/
noncomputable def D131 (a d : Int) : PT Int := .tot O132 (F132_ok a) fun f => .tot O132 (F132_ok d) fun i => .tot O132 (F132_ok (w64 (f + i))) fun j => .ret j
abbrev O131 (a : Int) : V × Store := (i64 a, [])
noncomputable def F131 (a d : Int) : Int := (D131 a d).evT
theorem F131_ok (a d : Int) : UU 131 ([i64 a, i64 d]) ([]) = some (O131 (F131 a d)) :=
  fnT_ok (out := O131) (L := notIn []) rfl rfl (fun x => by kernel_rfl) (by simp [D131, PT.isT])
/-! ## F70 -/
noncomputable def D70 (a : W57) (d : Int) : PT Int := .auto 1 <| .tot O132 (F132_ok a.c6) fun f => .tot O131 (F131_ok d (w64 (0 - f))) fun i => .ret i
abbrev O70 (a : Int) : V × Store := (i64 a, [])
noncomputable def F70 (a : W57) (d : Int) : Int := (D70 a d).evT
theorem F70_ok (a : W57) (d : Int) : UU 70 ([V.agg (W57.cells a), i64 d]) ([]) = some (O70 (F70 a d)) :=
  fnT_ok (out := O70) (L := notIn []) rfl rfl (fun x => by kernel_rfl) (by simp [D70, PT.isT])
/-! ## F133 -/
noncomputable abbrev B133 : Code := (Tryz.f133.body).getD .skip
inductive T133_0s0 where
  | mk (a : LV) (d f : Int)
inductive T133_0e0 where
  | mk (a : Int)
inductive N133_0 where
  | s0 (x : T133_0s0)
  | e0 (x : T133_0e0)
  | e1
abbrev N133_0.out : N133_0 → VX × S
  | .s0 (.mk a d f) => (vN, S.mk (lS 7 a :: i64 d :: U :: U :: U :: i64 f :: un 15 []) [])
  | .e0 (.mk i) => (VX.ret, S.mk (un 4 (i64 i :: un 16 [])) [])
  | .e1 => (vX 0, S.mk (un 21 []) [])
abbrev E133_0 := Ent.o3 N133_0.out .s0 .e0 (fun (_ : Unit) => .e1) (fun b => by cases b <;> simp)
noncomputable def D133_0 : T133_0s0 → PT N133_0 | .mk d f a => .test (a ≥ 0) (fun h0 => .test (0 ≤ a) (fun h1 => .look RW74 (d[Int.toNat a]?) fun i => .test (i.c0 ≤ f) (fun h2 => .ret (.e0 (.mk a))) (fun h2 => .ret (.s0 (.mk d f (w64 (a - 1)))))) (fun _ => .fail)) (fun h0 => .ret .e1)
noncomputable def L133_0 := E133_0.loop fun | .s0 x => D133_0 x | _ => .fail
theorem L133_0_ok : LU 133 0 B133 0 E133_0 L133_0 :=
  lk (L := notIn []) (fun b hb => by cases b <;> first | (cases hb; done) | (rename_i x; cases x; intro x; kernel_rfl) | (intro x; kernel_rfl))
noncomputable def N133_0.nx (n : Nat) : N133_0 → Option N133_0 | .s0 x => L133_0 n (.s0 x) | .e0 x => some (.e0 x) | .e1 => some .e1
theorem L133_0_s0 (n : Nat) (x : T133_0s0) : L133_0 (n + 1) (.s0 x) = (D133_0 x).ev (N133_0.nx n) := Ent.loop_eq fun c => by cases c <;> rfl
noncomputable def D133 (a : LV) (d : Int) : PT A133 := .cut E133_0 (L133_0_ok (.s0 (.mk a d (w64 ((a.length : Int) - 1)))) rfl) fun | .e0 (.mk f) => .ret (.a0 f) | .e1 => .ret (.a0 (-1)) | _ => .fail
noncomputable def F133 (a : LV) (d : Int) : Option A133 := (D133 a d).ev some
theorem F133_ok (a : LV) (d : Int) : FU E133 (F133 a d) 133 [lS 7 a, i64 d] := fu rfl rfl fun x => by kernel_rfl
/-! ## F136 -/
noncomputable def D136 (i j l : Int) : PT A136 := .tot O132 (F132_ok i) fun a => .tot O132 (F132_ok j) fun d => .tot O132 (F132_ok l) fun f => .test (f ≤ a) (fun h0 => .ret (.a0 0)) (fun h0 => .test (f ≥ d) (fun h1 => .ret (.a0 65536)) (fun h1 => .test (w64 (d - a) = 0) (fun _ => .fail) (fun h2 => .ret (.a0 (w64 (Int.tdiv (w64 (w64 (f - a) * 65536)) (w64 (d - a))))))))
noncomputable def F136 (a d f : Int) : Option A136 := (D136 a d f).ev some
theorem F136_ok (a d f : Int) : FU E136 (F136 a d f) 136 [i64 a, i64 d, i64 f] := fu rfl rfl fun x => by kernel_rfl
/-! ## F187 -/
noncomputable def D187 (a d : Int) : PT A187 := .auto 5 <| .ret (.a0 (IntKind.wrap IntKind.u64 (IntKind.wrap IntKind.u64 (IntKind.wrap IntKind.u64 (Int.fdiv a 4294967296 * Int.fdiv d 4294967296) + Int.fdiv (IntKind.wrap IntKind.u64 (IntKind.wrap IntKind.u64 (Int.fdiv a 4294967296 * IntKind.wrap IntKind.u64 (↑(BitVec.toNat (BitVec.ofInt (IntKind.bits IntKind.u64) d &&& BitVec.ofInt (IntKind.bits IntKind.u64) 4294967295)) : Int)) + Int.fdiv (IntKind.wrap IntKind.u64 (IntKind.wrap IntKind.u64 (↑(BitVec.toNat (BitVec.ofInt (IntKind.bits IntKind.u64) a &&& BitVec.ofInt (IntKind.bits IntKind.u64) 4294967295)) : Int) * IntKind.wrap IntKind.u64 (↑(BitVec.toNat (BitVec.ofInt (IntKind.bits IntKind.u64) d &&& BitVec.ofInt (IntKind.bits IntKind.u64) 4294967295)) : Int))) 4294967296)) 4294967296) + Int.fdiv (IntKind.wrap IntKind.u64 (IntKind.wrap IntKind.u64 (↑(BitVec.toNat (BitVec.ofInt (IntKind.bits IntKind.u64) (IntKind.wrap IntKind.u64 (IntKind.wrap IntKind.u64 (Int.fdiv a 4294967296 * IntKind.wrap IntKind.u64 (↑(BitVec.toNat (BitVec.ofInt (IntKind.bits IntKind.u64) d &&& BitVec.ofInt (IntKind.bits IntKind.u64) 4294967295)) : Int)) + Int.fdiv (IntKind.wrap IntKind.u64 (IntKind.wrap IntKind.u64 (↑(BitVec.toNat (BitVec.ofInt (IntKind.bits IntKind.u64) a &&& BitVec.ofInt (IntKind.bits IntKind.u64) 4294967295)) : Int) * IntKind.wrap IntKind.u64 (↑(BitVec.toNat (BitVec.ofInt (IntKind.bits IntKind.u64) d &&& BitVec.ofInt (IntKind.bits IntKind.u64) 4294967295)) : Int))) 4294967296)) &&& BitVec.ofInt (IntKind.bits IntKind.u64) 4294967295)) : Int) + IntKind.wrap IntKind.u64 (IntKind.wrap IntKind.u64 (↑(BitVec.toNat (BitVec.ofInt (IntKind.bits IntKind.u64) a &&& BitVec.ofInt (IntKind.bits IntKind.u64) 4294967295)) : Int) * Int.fdiv d 4294967296))) 4294967296)) (IntKind.wrap IntKind.u64 (a * d)))
noncomputable def F187 (a d : Int) : Option A187 := (D187 a d).ev some
theorem F187_ok (a d : Int) : FU E187 (F187 a d) 187 [V.int IntKind.u64 a, V.int IntKind.u64 d] := fu rfl rfl fun x => by kernel_rfl
/-! ## F184 -/
noncomputable def D184 (d a : Int) : PT A184 := .ask E187 (F187_ok (IntKind.wrap IntKind.u64 d) (IntKind.wrap IntKind.u64 a)) fun ⟨f, i⟩ => .test (d < 0) (fun h0 => .test (a < 0) (fun h1 => .ret (.a0 (IntKind.wrap IntKind.u64 (IntKind.wrap IntKind.u64 (f - IntKind.wrap IntKind.u64 a) - IntKind.wrap IntKind.u64 d)) i)) (fun h1 => .ret (.a0 (IntKind.wrap IntKind.u64 (f - IntKind.wrap IntKind.u64 a)) i))) (fun h0 => .test (a < 0) (fun h1 => .ret (.a0 (IntKind.wrap IntKind.u64 (f - IntKind.wrap IntKind.u64 d)) i)) (fun h1 => .ret (.a0 f i)))
noncomputable def F184 (a d : Int) : Option A184 := (D184 a d).ev some
theorem F184_ok (a d : Int) : FU E184 (F184 a d) 184 [i64 a, i64 d] := fu rfl rfl fun x => by kernel_rfl
/-! ## F183 -/
noncomputable abbrev B183 : Code := (Tryz.f183.body).getD .skip
inductive T183_r3s0 where
  | mk (a d : Int)
abbrev T183_r3s0.st : T183_r3s0 → S
  | .mk a d => S.mk (un 5 (i64 a :: V.int IntKind.u64 d :: un 34 [])) []
inductive T183_r3e0 where
  | mk (a d : Int) (f : Bool)
inductive N183_r3 where
  | e0 (x : T183_r3e0)
abbrev N183_r3.out : N183_r3 → VX × S
  | .e0 (.mk a d f) => (vN, S.mk (un 5 (i64 a :: V.int IntKind.u64 d :: un 8 (vb f :: un 25 []))) [])
abbrev E183_r3 := Ent.o1 N183_r3.out .e0 fun ⟨x⟩ => ⟨x, rfl⟩
noncomputable def D183_r3 : T183_r3s0 → PT N183_r3 | .mk a d => .test (a < -1) (fun h0 => .auto 4 <| .ret (.e0 (.mk a d true))) (fun h0 => .auto 2 <| .testB (a == -1) (fun h1 => .auto 6 <| .ret (.e0 (.mk a d (Int.fdiv d 9223372036854775808 == 0)))) (fun h1 => .auto 5 <| .ret (.e0 (.mk a d false))))
noncomputable def J183_r3 (y : T183_r3s0) : Option N183_r3 := (D183_r3 y).ev some
theorem J183_r3_ok (y : T183_r3s0) : ∀ b, J183_r3 y = some b → regP Tryz.prog X CC 183 0 B183 3 y.st = some (E183_r3.out b) := by
  cases y; exact reg_ok (E := E183_r3) (fun x => by kernel_rfl)
noncomputable def D183 (d i : Int) : PT A183 := .auto 3 <| .cut E183_r3 (J183_r3_ok (.mk (Int.fdiv (w64 d) 65536) (IntKind.wrap IntKind.u64 (↑(BitVec.toNat (BitVec.ofInt (IntKind.bits IntKind.u64) (IntKind.wrap IntKind.u64 (d * 2 ^ min (Int.toNat 48) (IntKind.bits IntKind.u64))) ||| BitVec.ofInt (IntKind.bits IntKind.u64) (Int.fdiv i (2 ^ min (Int.toNat 16) (IntKind.bits IntKind.u64))))) : Int)))) fun | .e0 (.mk f a j) => .testB j (fun h0 => .ret (.a0 (-9223372036854775808))) (fun h0 => .test (f > 0) (fun h1 => .auto 5 <| .ret (.a0 9223372036854775807)) (fun h1 => .auto 2 <| .testB (f == 0) (fun h2 => .auto 6 <| .testB (Int.fdiv a 9223372036854775808 != 0) (fun h3 => .ret (.a0 9223372036854775807)) (fun h3 => .ret (.a0 (w64 a)))) (fun h2 => .auto 6 <| .ret (.a0 (w64 a)))))
noncomputable def F183 (a d : Int) : Option A183 := (D183 a d).ev some
theorem F183_ok (a d : Int) : FU E183 (F183 a d) 183 [V.int IntKind.u64 a, V.int IntKind.u64 d] := fu rfl rfl fun x => by kernel_rfl
/-! ## F125 -/
noncomputable def D125 (a d : Int) : PT A125 := .tot O132 (F132_ok a) fun f => .tot O132 (F132_ok d) fun i => .ask E184 (F184_ok f i) fun ⟨j, l⟩ => .ask E183 (F183_ok j l) fun ⟨m⟩ => .tot O132 (F132_ok m) fun o => .ret (.a0 o)
noncomputable def F125 (a d : Int) : Option A125 := (D125 a d).ev some
theorem F125_ok (a d : Int) : FU E125 (F125 a d) 125 [i64 a, i64 d] := fu rfl rfl fun x => by kernel_rfl
/-! ## F231 -/
noncomputable def D231 (d f i : Int) : PT A231 := .tot O74 (F74_ok i 0 65536) fun a => .ask E125 (F125_ok (w64 (65536 - a)) (w64 (65536 - a))) fun ⟨j⟩ => .ask E125 (F125_ok j a) fun ⟨l⟩ => .ask E125 (F125_ok (w64 (3 * l)) d) fun ⟨m⟩ => .ask E125 (F125_ok (w64 (65536 - a)) a) fun ⟨o⟩ => .ask E125 (F125_ok o a) fun ⟨p⟩ => .ask E125 (F125_ok (w64 (3 * p)) f) fun ⟨q⟩ => .tot O131 (F131_ok m q) fun s => .ask E125 (F125_ok a a) fun ⟨t⟩ => .ask E125 (F125_ok t a) fun ⟨u⟩ => .tot O131 (F131_ok s u) fun v => .ret (.a0 v)
noncomputable def F231 (a d f : Int) : Option A231 := (D231 a d f).ev some
theorem F231_ok (a d f : Int) : FU E231 (F231 a d f) 231 [i64 a, i64 d, i64 f] := fu rfl rfl fun x => by kernel_rfl
/-! ## F191 -/
noncomputable abbrev B191 : Code := (Tryz.f191.body).getD .skip
inductive T191_1s0 where
  | mk (a d f i j l m o : Int)
inductive T191_1e0 where
  | mk (a d f i j : Int)
inductive N191_1 where
  | s0 (x : T191_1s0)
  | e0 (x : T191_1e0)
abbrev N191_1.out : N191_1 → VX × S
  | .s0 (.mk a d f i j l m o) => (vN, S.mk (U :: i64 a :: pT 0 :: U :: U :: i64 d :: i64 f :: un 7 (i64 i :: un 22 [])) [oF 4 [[i64 j, i64 l, i64 m, i64 o]]])
  | .e0 (.mk p q s t u) => (vX 1, S.mk (U :: U :: pT 0 :: U :: U :: i64 p :: un 31 []) [oF 4 [[i64 q, i64 s, i64 t, i64 u]]])
abbrev E191_1 := Ent.o2 N191_1.out .s0 .e0 (fun b => by cases b <;> simp)
noncomputable def D191_1 : T191_1s0 → PT N191_1 | .mk j a d l f m i o => .test (l < 16) (fun h0 => .auto 3 <| .ask E231 (F231_ok f i (Int.fdiv (w64 (a + d)) 2)) fun ⟨p⟩ => .test (p ≤ j) (fun h1 => .ret (.s0 (.mk j (Int.fdiv (w64 (a + d)) 2) d (w64 (l + 1)) f m i o))) (fun h1 => .ret (.s0 (.mk j a (Int.fdiv (w64 (a + d)) 2) (w64 (l + 1)) f m i o)))) (fun h0 => .ret (.e0 (.mk a f m i o)))
noncomputable def L191_1 := E191_1.loop fun | .s0 x => D191_1 x | _ => .fail
theorem L191_1_ok : LU 191 0 B191 1 E191_1 L191_1 :=
  lk (L := notIn []) (fun b hb => by cases b <;> first | (cases hb; done) | (rename_i x; cases x; intro x; kernel_rfl) | (intro x; kernel_rfl))
noncomputable def N191_1.nx (n : Nat) : N191_1 → Option N191_1 | .s0 x => L191_1 n (.s0 x) | .e0 x => some (.e0 x)
theorem L191_1_s0 (n : Nat) (x : T191_1s0) : L191_1 (n + 1) (.s0 x) = (D191_1 x).ev (N191_1.nx n) := Ent.loop_eq fun c => by cases c <;> rfl
noncomputable def D191 (d f i j a : Int) : PT A191 := .test (a ≤ 0) (fun h0 => .ret (.a0 0)) (fun h0 => .test (a ≥ 65536) (fun h1 => .ret (.a0 65536)) (fun h1 => .cut E191_1 (L191_1_ok (.s0 (.mk a 0 65536 0 d f i j)) rfl) fun | .e0 (.mk l q m s o) => (.auto 2 <| .ask E231 (F231_ok m o l) fun ⟨p⟩ => .ret (.a0 p)) | _ => .fail))
noncomputable def F191 (a d f i j : Int) : Option A191 := (D191 a d f i j).ev some
theorem F191_ok (a d f i j : Int) : FU E191 (F191 a d f i j) 191 [V.agg [i64 a, i64 d, i64 f, i64 i], i64 j] := fu rfl rfl fun x => by kernel_rfl
/-! ## F135 -/
noncomputable def D135 (a f i j l d : Int) : PT A135 := .testB (a == 0) (fun h0 => .auto 2 <| .test (d ≥ 65536) (fun h1 => .ret (.a0 65536)) (fun h1 => .testB (a == 1) (fun h2 => .ret (.a0 d)) (fun h2 => .testB (a == 2) (fun h3 => .auto 1 <| .ask E191 (F191_ok f i j l d) fun ⟨m⟩ => .ret (.a0 m)) (fun h3 => .ret (.a0 0))))) (fun h0 => .auto 3 <| .testB (a == 1) (fun h1 => .ret (.a0 d)) (fun h1 => .testB (a == 2) (fun h2 => .auto 1 <| .ask E191 (F191_ok f i j l d) fun ⟨o⟩ => .ret (.a0 o)) (fun h2 => .ret (.a0 0))))
noncomputable def F135 (a d f i j l : Int) : Option A135 := (D135 a d f i j l).ev some
theorem F135_ok (a d f i j l : Int) : FU E135 (F135 a d f i j l) 135 [i64 a, V.agg [i64 d, i64 f, i64 i, i64 j], i64 l] := fu rfl rfl fun x => by kernel_rfl
/-! ## F134 -/
noncomputable def D134 (d f i : Int) : PT A134 := .tot O132 (F132_ok d) fun a => .tot O131 (F131_ok f (w64 (0 - a))) fun j => .ask E125 (F125_ok j i) fun ⟨l⟩ => .tot O131 (F131_ok a l) fun m => .ret (.a0 m)
noncomputable def F134 (a d f : Int) : Option A134 := (D134 a d f).ev some
theorem F134_ok (a d f : Int) : FU E134 (F134 a d f) 134 [i64 a, i64 d, i64 f] := fu rfl rfl fun x => by kernel_rfl
/-! ## F72 -/
noncomputable def D72 (d : LV) (i l : Int) : PT A72 := .testB ((d.length : Int) == 0) (fun h0 => .ret (.a0 l)) (fun h0 => .ask E133 (F133_ok d i) fun ⟨a⟩ => .testB (a == -1) (fun h1 => .auto 1 <| .look RW74 (d[(0 : Nat)]?) fun m => .ret (.a0 m.c1)) (fun h1 => .testB (a == w64 ((d.length : Int) - 1)) (fun h2 => .test (0 ≤ a) (fun h3 => .look RW74 (d[Int.toNat a]?) fun o => .ret (.a0 o.c1)) (fun _ => .fail)) (fun h2 => .test (0 ≤ a) (fun h3 => .look RW74 (d[Int.toNat a]?) fun f => .test (0 ≤ w64 (a + 1)) (fun h4 => .look RW74 (d[Int.toNat (w64 (a + (1 : Int)))]?) fun j => .auto 8 <| .ask E136 (F136_ok f.c0 j.c0 i) fun ⟨p⟩ => .ask E135 (F135_ok f.c2 f.c3 f.c4 f.c5 f.c6 p) fun ⟨q⟩ => .ask E134 (F134_ok f.c1 j.c1 q) fun ⟨s⟩ => .ret (.a0 s)) (fun _ => .fail)) (fun _ => .fail))))
noncomputable def F72 (a : LV) (d f : Int) : Option A72 := (D72 a d f).ev some
theorem F72_ok (a : LV) (d f : Int) : FU E72 (F72 a d f) 72 [lS 7 a, i64 d, i64 f] := fu rfl rfl fun x => by kernel_rfl
/-! ## F22 -/
noncomputable def D22 (a : W57) (d : Int) : PT A22 := .auto 2 <| .tot O70 (F70_ok a d) fun f => .ask E72 (F72_ok a.c14 f 65536) fun ⟨i⟩ => .tot O74 (F74_ok i 0 65536) fun j => .auto 1 <| .ret (.a0 (w64 (Int.tdiv (w64 (j * 255)) 65536)))
noncomputable def F22 (a : W57) (d : Int) : Option A22 := (D22 a d).ev some
theorem F22_ok (a : W57) (d : Int) : FU E22 (F22 a d) 22 [V.agg (W57.cells a), i64 d] := fu rfl rfl fun x => by kernel_rfl
/-! ## F23 -/
noncomputable def D23 (a : W57) (d : Int) : PT Bool := .auto 1 <| .test (a.c4 ≤ d) (fun h0 => .auto 5 <| .ret (decide (d < a.c5))) (fun h0 => .auto 4 <| .ret false)
abbrev O23 (a : Bool) : V × Store := (vb a, [])
noncomputable def F23 (a : W57) (d : Int) : Bool := (D23 a d).evT
theorem F23_ok (a : W57) (d : Int) : UU 23 ([V.agg (W57.cells a), i64 d]) ([]) = some (O23 (F23 a d)) :=
  fnT_ok (out := O23) (L := notIn []) rfl rfl (fun x => by kernel_rfl) (by simp [D23, PT.isT])
/-! ## F77 -/
noncomputable def D77 (d : Int) (a : LV) : PT A77 := .test (d ≥ 0) (fun h0 => .auto 6 <| .ret (.a0 (decide (d < (a.length : Int))) a)) (fun h0 => .auto 5 <| .ret (.a0 false a))
noncomputable def F77 (a : Int) (d : LV) : Option A77 := (D77 a d).ev some
theorem F77_ok (a : Int) (d : LV) : FU E77 (F77 a d) 77 [i64 a, pT 0] [oF 1 [[lS 50 d]]] := fu rfl rfl fun x => by kernel_rfl
/-! ## F71 -/
noncomputable def D71 (d : LV) (f a : Int) : PT A71 := .auto 1 <| .ask E72 (F72_ok d a f) fun ⟨i⟩ => .ret (.a0 i a)
noncomputable def F71 (a : LV) (d f : Int) : Option A71 := (D71 a d f).ev some
theorem F71_ok (a : LV) (d f : Int) : FU E71 (F71 a d f) 71 [lS 7 a, i64 d, pT 0] [oF 1 [[i64 f]]] := fu rfl rfl fun x => by kernel_rfl
/-! ## F189 -/
noncomputable def D189 (a : Int) : PT Int := .auto 1 <| .test (Int.tmod a 23592960 < 0) (fun h0 => .ret (w64 (Int.tmod a 23592960 + 23592960))) (fun h0 => .ret (Int.tmod a 23592960))
abbrev O189 (a : Int) : V × Store := (i64 a, [])
noncomputable def F189 (a : Int) : Int := (D189 a).evT
theorem F189_ok (a : Int) : UU 189 ([i64 a]) ([]) = some (O189 (F189 a)) :=
  fnT_ok (out := O189) (L := notIn []) rfl rfl (fun x => by kernel_rfl) (by simp [D189, PT.isT])
/-! ## F128 -/
abbrev K128 := Int → Option A128
abbrev H128 (r : K128) : Prop := ∀ (d : Int) (b : A128), r d = some b → UU 128 ([i64 d]) ([]) = some (A128.out b)
noncomputable def D128 (rF128 : K128) (hF128 : H128 rF128) (d : Int) : PT A128 := .tot O189 (F189_ok d) fun a => .test (a ≥ 11796480) (fun h0 => .ask E128 (hF128 (w64 (a - 11796480))) fun ⟨f⟩ => .ret (.a0 (w64 (0 - f)))) (fun h0 => .auto 1 <| .test (w64 (2654208000 - w64 (Int.tdiv (w64 (a * w64 (11796480 - a))) 65536)) = 0) (fun _ => .fail) (fun h1 => .ret (.a0 (w64 (Int.tdiv (w64 (w64 (4 * w64 (Int.tdiv (w64 (a * w64 (11796480 - a))) 65536)) * 65536)) (w64 (2654208000 - w64 (Int.tdiv (w64 (a * w64 (11796480 - a))) 65536))))))))
theorem D128_ok (rF128 : K128) (hF128 : H128 rF128) (a : Int) : ∀ b, (D128 rF128 hF128 a).ev some = some b → UU 128 ([i64 a]) ([]) = some (A128.out b) :=
  fn_ok (E := E128) (L := notIn []) rfl rfl (fun x => by kernel_rfl)
noncomputable def G128 : Nat → { r : Int → Option A128 // ∀ (a : Int) (b : A128), r a = some b → UU 128 ([i64 a]) ([]) = some (A128.out b) }
  | 0 => ⟨fun _ => none, fun _ _ h => by cases h⟩
  | n + 1 => ⟨fun a => (D128 (G128 n).1 (G128 n).2 a).ev some, fun a => D128_ok (G128 n).1 (G128 n).2 a⟩
noncomputable def F128 (n : Nat) (a : Int) : Option A128 := (G128 n).1 a
theorem F128_ok (n : Nat) (a : Int) : ∀ b, F128 n a = some b → UU 128 ([i64 a]) ([]) = some (A128.out b) := (G128 n).2 a
theorem F128_succ (n : Nat) (a : Int) : F128 (n + 1) a = (D128 (F128 n) (F128_ok n) a).ev some := rfl
/-! ## F127 -/
noncomputable def D127 (a : Int) : PT A127 := .tot O189 (F189_ok a) fun d => .ask E128 (F128_ok 100000 (w64 (d + 5898240))) fun ⟨f⟩ => .ret (.a0 f)
noncomputable def F127 (a : Int) : Option A127 := (D127 a).ev some
theorem F127_ok (a : Int) : FU E127 (F127 a) 127 [i64 a] := fu rfl rfl fun x => by kernel_rfl
/-! ## F137 -/
noncomputable def D137 (a d f i : Int) : PT A137 := .ask E125 (F125_ok a d) fun ⟨j⟩ => .ask E125 (F125_ok f i) fun ⟨l⟩ => .tot O131 (F131_ok j l) fun m => .ret (.a0 m)
noncomputable def F137 (a d f i : Int) : Option A137 := (D137 a d f i).ev some
theorem F137_ok (a d f i : Int) : FU E137 (F137 a d f i) 137 [i64 a, i64 d, i64 f, i64 i] := fu rfl rfl fun x => by kernel_rfl
/-! ## F73 -/
noncomputable def D73 (t u a d f i j : Int) : PT A73 := .ask E127 (F127_ok j) fun ⟨l⟩ => .ask E128 (F128_ok 100000 j) fun ⟨m⟩ => .ask E125 (F125_ok l f) fun ⟨o⟩ => .ask E125 (F125_ok m f) fun ⟨p⟩ => .ask E125 (F125_ok (w64 (0 - m)) i) fun ⟨q⟩ => .ask E125 (F125_ok l i) fun ⟨s⟩ => .auto 3 <| .ask E137 (F137_ok o a q d) fun ⟨v⟩ => .tot O131 (F131_ok t (w64 (0 - v))) fun w => .auto 3 <| .ask E137 (F137_ok p a s d) fun ⟨y⟩ => .tot O131 (F131_ok u (w64 (0 - y))) fun z => .auto 3 <| .ret (.a0 (W59.mk o p q s w z))
noncomputable def F73 (a d f i j l m : Int) : Option A73 := (D73 a d f i j l m).ev some
theorem F73_ok (a d f i j l m : Int) : FU E73 (F73 a d f i j l m) 73 [i64 a, i64 d, i64 f, i64 i, i64 j, i64 l, i64 m] := fu rfl rfl fun x => by kernel_rfl
/-! ## F21 -/
noncomputable def D21 (a : W57) (d : Int) : PT A21 := .auto 1 <| .tot O70 (F70_ok a d) fun f => .auto 2 <| .ask E71 (F71_ok a.c7 0 f) fun ⟨i, j⟩ => .auto 1 <| .ask E71 (F71_ok a.c8 0 j) fun ⟨l, m⟩ => .auto 1 <| .ask E71 (F71_ok a.c9 0 m) fun ⟨o, p⟩ => .auto 1 <| .ask E71 (F71_ok a.c10 0 p) fun ⟨q, s⟩ => .auto 1 <| .ask E71 (F71_ok a.c11 65536 s) fun ⟨t, u⟩ => .auto 1 <| .ask E71 (F71_ok a.c12 65536 u) fun ⟨v, w⟩ => .auto 1 <| .ask E71 (F71_ok a.c13 0 w) fun ⟨y, d0⟩ => .ask E73 (F73_ok i l o q t v y) fun ⟨z⟩ => .auto 1 <| .ret (.a0 z)
noncomputable def F21 (a : W57) (d : Int) : Option A21 := (D21 a d).ev some
theorem F21_ok (a : W57) (d : Int) : FU E21 (F21 a d) 21 [V.agg (W57.cells a), i64 d] := fu rfl rfl fun x => by kernel_rfl
/-! ## F79 -/
noncomputable def D79 (a : W59) (d : W59) : PT A79 := .auto 4 <| .ask E137 (F137_ok a.c0 d.c0 a.c2 d.c1) fun ⟨f⟩ => .auto 4 <| .ask E137 (F137_ok a.c1 d.c0 a.c3 d.c1) fun ⟨i⟩ => .auto 4 <| .ask E137 (F137_ok a.c0 d.c2 a.c2 d.c3) fun ⟨j⟩ => .auto 4 <| .ask E137 (F137_ok a.c1 d.c2 a.c3 d.c3) fun ⟨l⟩ => .auto 4 <| .ask E137 (F137_ok a.c0 d.c4 a.c2 d.c5) fun ⟨m⟩ => .auto 1 <| .tot O131 (F131_ok m a.c4) fun o => .auto 4 <| .ask E137 (F137_ok a.c1 d.c4 a.c3 d.c5) fun ⟨p⟩ => .auto 1 <| .tot O131 (F131_ok p a.c5) fun q => .auto 1 <| .ret (.a0 (W59.mk f i j l o q))
noncomputable def F79 (a : W59) (d : W59) : Option A79 := (D79 a d).ev some
theorem F79_ok (a : W59) (d : W59) : FU E79 (F79 a d) 79 [V.agg (W59.cells a), V.agg (W59.cells d)] := fu rfl rfl fun x => by kernel_rfl
/-! ## F27 -/
noncomputable abbrev B27 : Code := (Tryz.f27.body).getD .skip
inductive T27_2s0 where
  | mk (a : Nat) (d : Int) (f : LV) (i : W59)
inductive T27_2e0 where
  | mk (a : W59)
inductive N27_2 where
  | s0 (x : T27_2s0)
  | e0 (x : T27_2e0)
abbrev N27_2.out : N27_2 → VX × S
  | .s0 (.mk a d f i) => (vN, S.mk (un 6 (pT 0 :: U :: hS 1 a :: U :: pT 2 :: i64 d :: un 64 [])) [oF 6 [W59.cells (W59.mk 0 0 0 0 0 0)], oT 6 f, oF 6 [W59.cells i]])
  | .e0 (.mk j) => (vX 2, S.mk (un 6 (pT 0 :: U :: U :: U :: pT 1 :: un 65 [])) [oF 6 [W59.cells (W59.mk 0 0 0 0 0 0)], oF 6 [W59.cells j]])
abbrev E27_2 := Ent.o2 N27_2.out .s0 .e0 (fun b => by cases b <;> simp)
noncomputable def D27_2 : T27_2s0 → PT N27_2 | .mk d a f i => .test (a ≥ 0) (fun h0 => .auto 1 <| .test (0 ≤ a ∧ a < (↑d : Int)) (fun h1 => .look RW59 (f[(0 : Nat) + Int.toNat a]?) fun j => .ask E79 (F79_ok i j) fun ⟨l⟩ => .auto 1 <| .ret (.s0 (.mk d (w64 (a - 1)) f l))) (fun _ => .fail)) (fun h0 => .ret (.e0 (.mk i)))
noncomputable def L27_2 := E27_2.loop fun | .s0 x => D27_2 x | _ => .fail
theorem L27_2_ok : LU 27 0 B27 2 E27_2 L27_2 :=
  lk (L := notIn []) (fun b hb => by cases b <;> first | (cases hb; done) | (rename_i x; cases x; intro x; kernel_rfl) | (intro x; kernel_rfl))
noncomputable def N27_2.nx (n : Nat) : N27_2 → Option N27_2 | .s0 x => L27_2 n (.s0 x) | .e0 x => some (.e0 x)
theorem L27_2_s0 (n : Nat) (x : T27_2s0) : L27_2 (n + 1) (.s0 x) = (D27_2 x).ev (N27_2.nx n) := Ent.loop_eq fun c => by cases c <;> rfl
inductive T27_r6s0 where
  | mk (a : Int) (d : Nat) (f : Int) (i j : LV)
abbrev T27_r6s0.st : T27_r6s0 → S
  | .mk a d f i j => S.mk (U :: U :: i64 a :: pT 0 :: U :: U :: pT 1 :: V.fn 77 [pT 0] :: hS 2 d :: i64 f :: un 66 []) [oF 1 [[lS 50 i]], oF 6 [W59.cells (W59.mk 0 0 0 0 0 0)], oT 6 j]
inductive T27_r6e0 where
  | mk (a : Int) (d : Nat) (f : Int) (i : Bool) (j l : LV)
inductive N27_r6 where
  | e0 (x : T27_r6e0)
abbrev N27_r6.out : N27_r6 → VX × S
  | .e0 (.mk a d f i j l) => (vN, S.mk (U :: U :: i64 a :: pT 0 :: U :: U :: pT 1 :: V.fn 77 [pT 0] :: hS 2 d :: i64 f :: un 29 (vb i :: un 36 [])) [oF 1 [[lS 50 j]], oF 6 [W59.cells (W59.mk 0 0 0 0 0 0)], oT 6 l])
abbrev E27_r6 := Ent.o1 N27_r6.out .e0 fun ⟨x⟩ => ⟨x, rfl⟩
noncomputable def D27_r6 : T27_r6s0 → PT N27_r6 | .mk f a d l i => .ask E77 (F77_ok d l) fun ⟨m, j⟩ => .testB m (fun h0 => .auto 3 <| .ret (.e0 (.mk f a d (decide ((↑a : Int) ≤ 16)) j i))) (fun h0 => .auto 3 <| .ret (.e0 (.mk f a d false j i)))
noncomputable def J27_r6 (y : T27_r6s0) : Option N27_r6 := (D27_r6 y).ev some
theorem J27_r6_ok (y : T27_r6s0) : ∀ b, J27_r6 y = some b → regP Tryz.prog X CC 27 0 B27 6 y.st = some (E27_r6.out b) := by
  cases y; exact reg_ok (E := E27_r6) (fun x => by kernel_rfl)
inductive T27_0s0 where
  | mk (a : Int) (d : Nat) (f : Int) (i j : LV)
inductive T27_0e0 where
  | mk (a : Nat) (d : LV)
inductive N27_0 where
  | s0 (x : T27_0s0)
  | e0 (x : T27_0e0)
abbrev N27_0.out : N27_0 → VX × S
  | .s0 (.mk a d f i j) => (vN, S.mk (U :: U :: i64 a :: pT 0 :: U :: U :: pT 1 :: V.fn 77 [pT 0] :: hS 2 d :: i64 f :: un 66 []) [oF 1 [[lS 50 i]], oF 6 [W59.cells (W59.mk 0 0 0 0 0 0)], oT 6 j])
  | .e0 (.mk l m) => (vX 0, S.mk (un 6 (pT 0 :: U :: hS 1 l :: un 67 [])) [oF 6 [W59.cells (W59.mk 0 0 0 0 0 0)], oT 6 m])
abbrev E27_0 := Ent.o2 N27_0.out .s0 .e0 (fun b => by cases b <;> simp)
noncomputable def D27_0 : T27_0s0 → PT N27_0 | .mk m o p q s => .cut E27_r6 (J27_r6_ok (.mk m o p q s)) fun | .e0 (.mk l a f t i j) => .testB t (fun h0 => .auto 1 <| .test (0 ≤ f) (fun h1 => .look RW57 (i[Int.toNat f]?) fun u => .ask E21 (F21_ok u l) fun ⟨d⟩ => .auto 1 <| .test (0 + a ≤ List.length j ∧ (a + 1) * 48 ≤ 140737488355328 ∧ a + 1 ≤ 140737488355328) (fun h2 => .auto 1 <| .known (decide_eq_true h1) <| .look RW57 (i[Int.toNat f]?) fun v => .ret (.s0 (.mk l (a + 1) v.c1 i (List.take a j ++ [[i64 d.c0, i64 d.c1, i64 d.c2, i64 d.c3, i64 d.c4, i64 d.c5]])))) (fun _ => .fail)) (fun _ => .fail)) (fun h0 => .ret (.e0 (.mk a j)))
noncomputable def L27_0 := E27_0.loop fun | .s0 x => D27_0 x | _ => .fail
theorem L27_0_ok : LU 27 0 B27 0 E27_0 L27_0 :=
  lk (L := notIn []) (fun b hb => by cases b <;> first | (cases hb; done) | (rename_i x; cases x; intro x; kernel_rfl) | (intro x; kernel_rfl))
noncomputable def N27_0.nx (n : Nat) : N27_0 → Option N27_0 | .s0 x => L27_0 n (.s0 x) | .e0 x => some (.e0 x)
theorem L27_0_s0 (n : Nat) (x : T27_0s0) : L27_0 (n + 1) (.s0 x) = (D27_0 x).ev (N27_0.nx n) := Ent.loop_eq fun c => by cases c <;> rfl
noncomputable def D27 (m : LV) (f j : Int) : PT A27 := .ask E77 (F77_ok f m) fun ⟨o, i⟩ => .testB (!o) (fun h0 => .tot O78 F78_ok fun p => .auto 1 <| .ret (.a0 p)) (fun h0 => .auto 1 <| .test (0 ≤ f) (fun h1 => .look RW57 (i[Int.toNat f]?) fun q => .ask E21 (F21_ok q j) fun ⟨a⟩ => .auto 1 <| .known (decide_eq_true h1) <| .look RW57 (i[Int.toNat f]?) fun s => .cut E27_0 (L27_0_ok (.s0 (.mk j 1 s.c1 i ([[i64 a.c0, i64 a.c1, i64 a.c2, i64 a.c3, i64 a.c4, i64 a.c5]]))) rfl) fun | .e0 (.mk d l) => (.test (0 ≤ w64 ((↑d : Int) - 1) ∧ w64 ((↑d : Int) - 1) < (↑d : Int)) (fun h2 => .look RW59 (l[(0 : Nat) + Int.toNat (w64 ((↑d : Int) - (1 : Int)))]?) fun t => .auto 1 <| .cut E27_2 (L27_2_ok (.s0 (.mk d (w64 ((↑d : Int) - 2)) l t)) rfl) fun | .e0 (.mk u) => (.auto 2 <| .ret (.a0 u)) | _ => .fail) (fun _ => .fail)) | _ => .fail) (fun _ => .fail))
noncomputable def F27 (a : LV) (d f : Int) : Option A27 := (D27 a d f).ev some
theorem F27_ok (a : LV) (d f : Int) : FU E27 (F27 a d f) 27 [V.agg [lS 50 a], i64 d, i64 f] := fu rfl rfl fun x => by kernel_rfl
/-! ## F24 -/
noncomputable def D24 (a : W57) (f : Int) : PT A24 := .auto 1 <| .tot O70 (F70_ok a f) fun d => .auto 1 <| .ask E72 (F72_ok a.c15 d d) fun ⟨i⟩ => .ret (.a0 i)
noncomputable def F24 (a : W57) (d : Int) : Option A24 := (D24 a d).ev some
theorem F24_ok (a : W57) (d : Int) : FU E24 (F24 a d) 24 [V.agg (W57.cells a), i64 d] := fu rfl rfl fun x => by kernel_rfl
/-! ## F123 -/
noncomputable def D123 (a d : Int) : PT A123 := .auto 1 <| .ret (.a0 a d)
noncomputable def F123 (a d : Int) : Option A123 := (D123 a d).ev some
theorem F123_ok (a d : Int) : FU E123 (F123 a d) 123 [i64 a, i64 d] := fu rfl rfl fun x => by kernel_rfl
/-! ## F122 -/
noncomputable abbrev B122 : Code := (Tryz.f122.body).getD .skip
inductive T122_0s0 where
  | mk (a : LV) (d f : Int) (i : Nat) (j : LV)
inductive T122_0e0 where
  | mk (a : Nat) (d : LV)
inductive N122_0 where
  | s0 (x : T122_0s0)
  | e0 (x : T122_0e0)
abbrev N122_0.out : N122_0 → VX × S
  | .s0 (.mk a d f i j) => (vN, S.mk (lS 2 a :: U :: pT 0 :: pT 1 :: un 8 (lS 2 a :: i64 d :: i64 f :: un 22 [])) [oF 2 [[vb false, hS 2 0]], oF 2 [[vb true, hS 3 i]], oT 2 [], oT 2 j])
  | .e0 (.mk l m) => (vX 0, S.mk (U :: U :: pT 0 :: pT 1 :: un 33 []) [oF 2 [[vb false, hS 2 0]], oF 2 [[vb true, hS 3 l]], oT 2 [], oT 2 m])
abbrev E122_0 := Ent.o2 N122_0.out .s0 .e0 (fun b => by cases b <;> simp)
noncomputable def D122_0 : T122_0s0 → PT N122_0 | .mk a l d f j => .test (d < l) (fun h0 => .test (0 ≤ d) (fun h1 => .look RW28 (a[Int.toNat d]?) fun m => .auto 1 <| .test ((a.length : Int) = 0) (fun _ => .fail) (fun h2 => .test (0 ≤ Int.tmod (w64 (d + 1)) (a.length : Int)) (fun h3 => .look RW28 (a[Int.toNat (Int.tmod (w64 (d + (1 : Int))) (a.length : Int))]?) fun i => .auto 6 <| .test (0 + f ≤ List.length j ∧ (f + 3) * 16 ≤ 140737488355328 ∧ f + 3 ≤ 140737488355328) (fun h4 => .auto 1 <| .ret (.s0 (.mk a l (w64 (d + 1)) (f + 3) (List.take f j ++ [[i64 m.c0, i64 m.c1], [i64 i.c0, i64 i.c1], [i64 i.c0, i64 i.c1]])))) (fun _ => .fail)) (fun _ => .fail))) (fun _ => .fail)) (fun h0 => .ret (.e0 (.mk f j)))
noncomputable def L122_0 := E122_0.loop fun | .s0 x => D122_0 x | _ => .fail
theorem L122_0_ok : LU 122 0 B122 0 E122_0 L122_0 :=
  lk (L := notIn []) (fun b hb => by cases b <;> first | (cases hb; done) | (rename_i x; cases x; intro x; kernel_rfl) | (intro x; kernel_rfl))
noncomputable def N122_0.nx (n : Nat) : N122_0 → Option N122_0 | .s0 x => L122_0 n (.s0 x) | .e0 x => some (.e0 x)
theorem L122_0_s0 (n : Nat) (x : T122_0s0) : L122_0 (n + 1) (.s0 x) = (D122_0 x).ev (N122_0.nx n) := Ent.loop_eq fun c => by cases c <;> rfl
noncomputable def D122 (a : LV) : PT A122 := .auto 1 <| .look RW28 (a[(0 : Nat)]?) fun d => .auto 1 <| .cut E122_0 (L122_0_ok (.s0 (.mk a ((a.length : Int)) 0 1 ([[i64 d.c0, i64 d.c1]]))) rfl) fun | .e0 (.mk f i) => (.auto 2 <| .ret (.a0 true f i)) | _ => .fail
noncomputable def F122 (a : LV) : Option A122 := (D122 a).ev some
theorem F122_ok (a : LV) : FU E122 (F122 a) 122 [lS 2 a] := fu rfl rfl fun x => by kernel_rfl
/-! ## F63 -/
noncomputable def D63 (a d : Int) : PT A63 := .auto 2 <| .ask E123 (F123_ok (w64 (0 - Int.fdiv a 2)) (w64 (0 - Int.fdiv d 2))) fun ⟨f, i⟩ => .ask E123 (F123_ok (w64 (a - Int.fdiv a 2)) (w64 (0 - Int.fdiv d 2))) fun ⟨j, l⟩ => .ask E123 (F123_ok (w64 (a - Int.fdiv a 2)) (w64 (d - Int.fdiv d 2))) fun ⟨m, o⟩ => .ask E123 (F123_ok (w64 (0 - Int.fdiv a 2)) (w64 (d - Int.fdiv d 2))) fun ⟨p, q⟩ => .auto 1 <| .ask E122 (F122_ok ([[i64 f, i64 i], [i64 j, i64 l], [i64 m, i64 o], [i64 p, i64 q]])) fun ⟨s, t, u⟩ => .auto 1 <| .ret (.a0 s t u)
noncomputable def F63 (a d : Int) : Option A63 := (D63 a d).ev some
theorem F63_ok (a d : Int) : FU E63 (F63 a d) 63 [i64 a, i64 d] := fu rfl rfl fun x => by kernel_rfl
/-! ## F65 -/
noncomputable def D65 (a d : Int) : PT A65 := .auto 2 <| .ask E125 (F125_ok (Int.fdiv a 2) 36195) fun ⟨f⟩ => .ask E125 (F125_ok (Int.fdiv d 2) 36195) fun ⟨i⟩ => .ask E123 (F123_ok (Int.fdiv a 2) 0) fun ⟨j, l⟩ => .ask E123 (F123_ok (Int.fdiv a 2) i) fun ⟨m, o⟩ => .ask E123 (F123_ok f (Int.fdiv d 2)) fun ⟨p, q⟩ => .ask E123 (F123_ok 0 (Int.fdiv d 2)) fun ⟨s, t⟩ => .ask E123 (F123_ok (w64 (0 - f)) (Int.fdiv d 2)) fun ⟨u, v⟩ => .ask E123 (F123_ok (w64 (0 - Int.fdiv a 2)) i) fun ⟨w, y⟩ => .ask E123 (F123_ok (w64 (0 - Int.fdiv a 2)) 0) fun ⟨z, d0⟩ => .ask E123 (F123_ok (w64 (0 - Int.fdiv a 2)) (w64 (0 - i))) fun ⟨d1, d2⟩ => .ask E123 (F123_ok (w64 (0 - f)) (w64 (0 - Int.fdiv d 2))) fun ⟨d3, d4⟩ => .ask E123 (F123_ok 0 (w64 (0 - Int.fdiv d 2))) fun ⟨d5, d6⟩ => .ask E123 (F123_ok f (w64 (0 - Int.fdiv d 2))) fun ⟨d7, d8⟩ => .ask E123 (F123_ok (Int.fdiv a 2) (w64 (0 - i))) fun ⟨d9, f0⟩ => .ask E123 (F123_ok (Int.fdiv a 2) 0) fun ⟨f1, f2⟩ => .auto 1 <| .ret (.a0 true 13 ([[i64 j, i64 l], [i64 m, i64 o], [i64 p, i64 q], [i64 s, i64 t], [i64 u, i64 v], [i64 w, i64 y], [i64 z, i64 d0], [i64 d1, i64 d2], [i64 d3, i64 d4], [i64 d5, i64 d6], [i64 d7, i64 d8], [i64 d9, i64 f0], [i64 f1, i64 f2]]))
noncomputable def F65 (a d : Int) : Option A65 := (D65 a d).ev some
theorem F65_ok (a d : Int) : FU E65 (F65 a d) 65 [i64 a, i64 d] := fu rfl rfl fun x => by kernel_rfl
/-! ## F67 -/
noncomputable abbrev B67 : Code := (Tryz.f67.body).getD .skip
inductive T67_c27s0 where
  | mk (a d f : Int) (i : Nat) (j l m : Int) (o : Bool) (p : LV)
abbrev T67_c27s0.st : T67_c27s0 → S
  | .mk d a f i j l m o p => S.mk (i64 d :: i64 a :: i64 f :: U :: U :: U :: pT 0 :: hS 1 i :: U :: i64 j :: i64 a :: un 4 (i64 l :: i64 m :: un 10 (vb o :: un 16 []))) [oF 2 [[vb false, hS 2 0]], oT 2 p, oT 2 []]
inductive T67_c27e0 where
  | mk (a d f : Int) (i : Nat) (j l m o : Int) (p : LV)
inductive N67_c27 where
  | e0 (x : T67_c27e0)
abbrev N67_c27.out : N67_c27 → VX × S
  | .e0 (.mk a d f i j l m o p) => (vN, S.mk (i64 a :: i64 d :: i64 f :: U :: U :: U :: pT 0 :: hS 1 i :: U :: i64 j :: i64 l :: un 4 (i64 m :: i64 o :: un 27 [])) [oF 2 [[vb false, hS 2 0]], oT 2 p, oT 2 []])
abbrev E67_c27 := Ent.o1 N67_c27.out .e0 fun ⟨x⟩ => ⟨x, rfl⟩
noncomputable def D67_c27 : T67_c27s0 → PT N67_c27 | .mk f a d i j l m p o => .testB p (fun h0 => .ret (.e0 (.mk f a d i j d l m o))) (fun h0 => .ret (.e0 (.mk f a d i j a l m o)))
noncomputable def J67_c27 (y : T67_c27s0) : Option N67_c27 := (D67_c27 y).ev some
theorem J67_c27_ok (y : T67_c27s0) : CU 67 0 B67 27 E67_c27 (J67_c27 y) y.st := by
  cases y; exact cond_ok (L := notIn []) fun x => by kernel_rfl
inductive T67_0s0 where
  | mk (a d f : Int) (i : Nat) (j l : Int) (m : LV)
inductive T67_0e0 where
  | mk (a : Nat) (d : LV)
inductive N67_0 where
  | s0 (x : T67_0s0)
  | e0 (x : T67_0e0)
abbrev N67_0.out : N67_0 → VX × S
  | .s0 (.mk a d f i j l m) => (vN, S.mk (i64 a :: i64 d :: i64 f :: U :: U :: U :: pT 0 :: hS 1 i :: un 7 (i64 j :: i64 l :: un 27 [])) [oF 2 [[vb false, hS 2 0]], oT 2 m, oT 2 []])
  | .e0 (.mk o p) => (vX 0, S.mk (un 6 (pT 0 :: hS 1 o :: un 36 [])) [oF 2 [[vb false, hS 2 0]], oT 2 p, oT 2 []])
abbrev E67_0 := Ent.o2 N67_0.out .s0 .e0 (fun b => by cases b <;> simp)
noncomputable def D67_0 : T67_0s0 → PT N67_0 | .mk f q s i j d l => .test (d < j) (fun h0 => .test (f = 0) (fun _ => .fail) (fun h1 => .auto 1 <| .cut E67_c27 (J67_c27_ok (.mk f q s i (w64 (w64 (Int.tdiv (w64 (d * 11796480)) f) - 5898240)) j d (Int.tmod d 2 == 1) l)) fun | .e0 (.mk t u v a m o w y p) => .ask E127 (F127_ok m) fun ⟨z⟩ => .ask E125 (F125_ok o z) fun ⟨d0⟩ => .ask E128 (F128_ok 100000 m) fun ⟨d1⟩ => .ask E125 (F125_ok o d1) fun ⟨d2⟩ => .ask E123 (F123_ok d0 d2) fun ⟨d3, d4⟩ => .auto 1 <| .test (0 + a ≤ List.length p ∧ (a + 1) * 16 ≤ 140737488355328 ∧ a + 1 ≤ 140737488355328) (fun h2 => .ret (.s0 (.mk t u v (a + 1) w (w64 (y + 1)) (List.take a p ++ [[i64 d3, i64 d4]])))) (fun _ => .fail))) (fun h0 => .ret (.e0 (.mk i l)))
noncomputable def L67_0 := E67_0.loop fun | .s0 x => D67_0 x | _ => .fail
theorem L67_0_ok : LU 67 0 B67 0 E67_0 L67_0 :=
  lk (L := notIn []) (fun b hb => by cases b <;> first | (cases hb; done) | (rename_i x; cases x; intro x; kernel_rfl) | (intro x; kernel_rfl))
noncomputable def N67_0.nx (n : Nat) : N67_0 → Option N67_0 | .s0 x => L67_0 n (.s0 x) | .e0 x => some (.e0 x)
theorem L67_0_s0 (n : Nat) (x : T67_0s0) : L67_0 (n + 1) (.s0 x) = (D67_0 x).ev (N67_0.nx n) := Ent.loop_eq fun c => by cases c <;> rfl
noncomputable def D67 (a i j : Int) : PT A67 := .cut E67_0 (L67_0_ok (.s0 (.mk (if (if 16 < a then 16 else a) > 2 then if 16 < a then 16 else a else 2) i j 0 (w64 (2 * if (if 16 < a then 16 else a) > 2 then if 16 < a then 16 else a else 2)) 0 ([]))) rfl) fun | .e0 (.mk d f) => (.test (0 + d ≤ List.length f) (fun h0 => .ask E122 (F122_ok (List.take d f)) fun ⟨l, m, o⟩ => .auto 1 <| .ret (.a0 l m o)) (fun _ => .fail)) | _ => .fail
noncomputable def F67 (a d f : Int) : Option A67 := (D67 a d f).ev some
theorem F67_ok (a d f : Int) : FU E67 (F67 a d f) 67 [i64 a, i64 d, i64 f] := fu rfl rfl fun x => by kernel_rfl
/-! ## F224 -/
def F224 (a : LV) : Option A224 :=
  if List.length a * 16 ≤ 140737488355328 ∧ List.length a ≤ 140737488355328 then
   some (A224.a0 a)
  else
   none
theorem F224_ok (a : LV) (r : A224) (h : F224 a = some r) : UU 224 ([lS 2 a]) ([]) = some (A224.out r) := by
  unfold F224 at h
  rcases ite_eq h with ⟨h0, h⟩ | ⟨h0, h⟩
  · cases h
    exact UC_of (n := 1) (call_oracle (cloneO_eq rfl a h0))
  · cases h
/-! ## F170 -/
noncomputable def D170 (d : Bool) (f : LV) : PT A170 := .auto 2 <| .ask E224 (F224_ok f) fun ⟨a⟩ => .auto 1 <| .ret (.a0 d (List.length a) a)
noncomputable def F170 (a : Bool) (d : LV) : Option A170 := (D170 a d).ev some
theorem F170_ok (a : Bool) (d : LV) : FU E170 (F170 a d) 170 [V.agg [vb a, lS 2 d]] := fu rfl rfl fun x => by kernel_rfl
/-! ## F171 -/
noncomputable abbrev B171 : Code := (Tryz.f171.body).getD .skip
inductive T171_0s0 where
  | mk (a : Int) (d : LV) (f i : Int) (j : Bool) (l : LV) (m : Nat) (o : LV)
inductive T171_0e0 where
  | mk (a : Bool) (d : Nat) (f : LV)
inductive N171_0 where
  | s0 (x : T171_0s0)
  | e0 (x : T171_0e0)
abbrev N171_0.out : N171_0 → VX × S
  | .s0 (.mk d f i j a l m o) => (vN, S.mk (U :: U :: i64 d :: pT 0 :: U :: U :: pT 1 :: pT 2 :: un 14 (lS 2 f :: i64 i :: i64 j :: un 31 [])) [oF 2 [[vb a, lS 2 l]], oF 2 [[vb false, hS 3 0]], oF 2 [[vb a, hS 4 m]], oT 2 [], oT 2 o])
  | .e0 (.mk p q s) => (vX 0, S.mk (un 6 (pT 0 :: pT 1 :: un 48 [])) [oF 2 [[vb false, hS 2 0]], oF 2 [[vb p, hS 3 q]], oT 2 [], oT 2 s])
abbrev E171_0 := Ent.o2 N171_0.out .s0 .e0 (fun b => by cases b <;> simp)
noncomputable def D171_0 : T171_0s0 → PT N171_0 | .mk d l m a o f i j => .test (a < m) (fun h0 => .test (0 ≤ a) (fun h1 => .look RW28 (l[Int.toNat a]?) fun p => .auto 3 <| .known (decide_eq_true h1) <| .look RW28 (f[Int.toNat a]?) fun q => .auto 1 <| .ask E134 (F134_ok q.c0 p.c0 d) fun ⟨s⟩ => .auto 1 <| .known (decide_eq_true h1) <| .look RW28 (f[Int.toNat a]?) fun t => .auto 1 <| .ask E134 (F134_ok t.c1 p.c1 d) fun ⟨u⟩ => .test (0 ≤ a ∧ a < (↑i : Int)) (fun h2 => .look RW28 (j[(0 : Nat) + Int.toNat a]?) fun v => .ret (.s0 (.mk d l m (w64 (a + 1)) o f i (List.set j (0 + Int.toNat a) [i64 s, i64 u])))) (fun _ => .fail)) (fun _ => .fail)) (fun h0 => .ret (.e0 (.mk o i j)))
noncomputable def L171_0 := E171_0.loop fun | .s0 x => D171_0 x | _ => .fail
theorem L171_0_ok : LU 171 0 B171 0 E171_0 L171_0 :=
  lk (L := notIn []) (fun b hb => by cases b <;> first | (cases hb; done) | (rename_i x; cases x; intro x; kernel_rfl) | (intro x; kernel_rfl))
noncomputable def N171_0.nx (n : Nat) : N171_0 → Option N171_0 | .s0 x => L171_0 n (.s0 x) | .e0 x => some (.e0 x)
theorem L171_0_s0 (n : Nat) (x : T171_0s0) : L171_0 (n + 1) (.s0 x) = (D171_0 x).ev (N171_0.nx n) := Ent.loop_eq fun c => by cases c <;> rfl
noncomputable def D171 (d : Bool) (f : LV) (j : Bool) (i : LV) (l : Int) : PT A171 := .auto 2 <| .ask E224 (F224_ok f) fun ⟨a⟩ => .auto 3 <| .tot O178 (F178_ok d f j i) fun m => .testB (!m) (fun h0 => .auto 2 <| .ret (.a0 d (List.length a) a)) (fun h0 => .auto 1 <| .cut E171_0 (L171_0_ok (.s0 (.mk l i ((i.length : Int)) 0 d f (List.length a) a)) rfl) fun | .e0 (.mk o p q) => (.auto 2 <| .ret (.a0 o p q)) | _ => .fail)
noncomputable def F171 (a : Bool) (d : LV) (f : Bool) (i : LV) (j : Int) : Option A171 := (D171 a d f i j).ev some
theorem F171_ok (a : Bool) (d : LV) (f : Bool) (i : LV) (j : Int) : FU E171 (F171 a d f i j) 171 [V.agg [vb a, lS 2 d], V.agg [vb f, lS 2 i], i64 j] := fu rfl rfl fun x => by kernel_rfl
/-! ## F109 -/
noncomputable abbrev B109 : Code := (Tryz.f109.body).getD .skip
inductive T109_0s0 where
  | mk (a : LV) (d f : Int)
inductive T109_0e0 where
  | mk (a : LV) (d f : Int)
inductive N109_0 where
  | s0 (x : T109_0s0)
  | e0 (x : T109_0e0)
abbrev N109_0.out : N109_0 → VX × S
  | .s0 (.mk a d f) => (vN, S.mk (lS 8 a :: i64 d :: U :: U :: pT 0 :: i64 f :: un 66 []) [oF 2 [[vb false, hS 1 0]], oT 2 []])
  | .e0 (.mk i j l) => (vX 0, S.mk (lS 8 i :: i64 j :: U :: U :: pT 0 :: i64 l :: un 66 []) [oF 2 [[vb false, hS 1 0]], oT 2 []])
abbrev E109_0 := Ent.o2 N109_0.out .s0 .e0 (fun b => by cases b <;> simp)
noncomputable def D109_0 : T109_0s0 → PT N109_0 | .mk d f a => .test (a ≥ 0) (fun h0 => .auto 2 <| .test (0 ≤ a) (fun h1 => .look RW100 (d[Int.toNat a]?) fun i => .auto 5 <| .test (i.c0 > f) (fun h2 => .ret (.s0 (.mk d f (w64 (a - 1))))) (fun h2 => .ret (.e0 (.mk d f a)))) (fun _ => .fail)) (fun h0 => .auto 8 <| .ret (.e0 (.mk d f a)))
noncomputable def L109_0 := E109_0.loop fun | .s0 x => D109_0 x | _ => .fail
theorem L109_0_ok : LU 109 0 B109 0 E109_0 L109_0 :=
  lk (L := notIn []) (fun b hb => by cases b <;> first | (cases hb; done) | (rename_i x; cases x; intro x; kernel_rfl) | (intro x; kernel_rfl))
noncomputable def N109_0.nx (n : Nat) : N109_0 → Option N109_0 | .s0 x => L109_0 n (.s0 x) | .e0 x => some (.e0 x)
theorem L109_0_s0 (n : Nat) (x : T109_0s0) : L109_0 (n + 1) (.s0 x) = (D109_0 x).ev (N109_0.nx n) := Ent.loop_eq fun c => by cases c <;> rfl
noncomputable def D109 (i : LV) (o : Int) : PT A109 := .testB ((i.length : Int) == 0) (fun h0 => .auto 1 <| .ret (.a0 false 0 ([]))) (fun h0 => .cut E109_0 (L109_0_ok (.s0 (.mk i o (w64 ((i.length : Int) - 1)))) rfl) fun | .e0 (.mk f p a) => (.testB (a == -1) (fun h1 => .auto 1 <| .look RW100 (f[(0 : Nat)]?) fun l => .ask E170 (F170_ok l.c1 l.c2) fun ⟨q, s, t⟩ => .auto 1 <| .ret (.a0 q s t)) (fun h1 => .testB (a == w64 ((f.length : Int) - 1)) (fun h2 => .test (0 ≤ a) (fun h3 => .look RW100 (f[Int.toNat a]?) fun m => .ask E170 (F170_ok m.c1 m.c2) fun ⟨u, v, w⟩ => .auto 1 <| .ret (.a0 u v w)) (fun _ => .fail)) (fun h2 => .test (0 ≤ a) (fun h3 => .look RW100 (f[Int.toNat a]?) fun d => .test (0 ≤ w64 (a + 1)) (fun h4 => .look RW100 (f[Int.toNat (w64 (a + (1 : Int)))]?) fun j => .auto 8 <| .ask E136 (F136_ok d.c0 j.c0 p) fun ⟨y⟩ => .ask E135 (F135_ok d.c3 d.c4 d.c5 d.c6 d.c7 y) fun ⟨z⟩ => .ask E171 (F171_ok d.c1 d.c2 j.c1 j.c2 z) fun ⟨d0, d1, d2⟩ => .auto 1 <| .ret (.a0 d0 d1 d2)) (fun _ => .fail)) (fun _ => .fail)))) | _ => .fail)
noncomputable def F109 (a : LV) (d : Int) : Option A109 := (D109 a d).ev some
theorem F109_ok (a : LV) (d : Int) : FU E109 (F109 a d) 109 [lS 8 a, i64 d] := fu rfl rfl fun x => by kernel_rfl
/-! ## F51 -/
noncomputable def D51 (a : W34) (d : Int) : PT A51 := .auto 1 <| .ask E72 (F72_ok a.c2 d 0) fun ⟨f⟩ => .auto 1 <| .ask E72 (F72_ok a.c3 d 0) fun ⟨i⟩ => .auto 1 <| .testB (a.c0 == 0) (fun h0 => .ask E63 (F63_ok f i) fun ⟨j, l, m⟩ => .auto 1 <| .ret (.a0 j l m)) (fun h0 => .testB (a.c0 == 1) (fun h1 => .ask E65 (F65_ok f i) fun ⟨o, p, q⟩ => .auto 1 <| .ret (.a0 o p q)) (fun h1 => .testB (a.c0 == 2) (fun h2 => .auto 1 <| .ask E67 (F67_ok a.c1 f i) fun ⟨s, t, u⟩ => .auto 1 <| .ret (.a0 s t u)) (fun h2 => .testB (a.c0 == 3) (fun h3 => .auto 1 <| .ask E109 (F109_ok a.c4 d) fun ⟨v, w, y⟩ => .auto 1 <| .ret (.a0 v w y)) (fun h3 => .auto 1 <| .ret (.a0 false 0 ([]))))))
noncomputable def F51 (a : W34) (d : Int) : Option A51 := (D51 a d).ev some
theorem F51_ok (a : W34) (d : Int) : FU E51 (F51 a d) 51 [V.agg (W34.cells a), i64 d] := fu rfl rfl fun x => by kernel_rfl
/-! ## F283 -/
noncomputable def D283 (a d : Int) : PT Int := .auto 1 <| .ret (w64 (w64 (↑(BitVec.toNat (BitVec.ofInt (IntKind.bits IntKind.i64) a &&& BitVec.ofInt (IntKind.bits IntKind.i64) d)) : Int) + Int.fdiv (w64 (↑(BitVec.toNat (BitVec.ofInt (IntKind.bits IntKind.i64) a ^^^ BitVec.ofInt (IntKind.bits IntKind.i64) d)) : Int)) 2))
abbrev O283 (a : Int) : V × Store := (i64 a, [])
noncomputable def F283 (a d : Int) : Int := (D283 a d).evT
theorem F283_ok (a d : Int) : UU 283 ([i64 a, i64 d]) ([]) = some (O283 (F283 a d)) :=
  fnT_ok (out := O283) (L := notIn []) rfl rfl (fun x => by kernel_rfl) (by simp [D283, PT.isT])
/-! ## F264 -/
noncomputable def D264 (a d f i : Int) : PT A264 := .auto 2 <| .tot O283 (F283_ok a f) fun j => .auto 2 <| .tot O283 (F283_ok d i) fun l => .auto 1 <| .ret (.a0 j l)
noncomputable def F264 (a d f i : Int) : Option A264 := (D264 a d f i).ev some
theorem F264_ok (a d f i : Int) : FU E264 (F264 a d f i) 264 [V.agg [i64 a, i64 d], V.agg [i64 f, i64 i]] := fu rfl rfl fun x => by kernel_rfl
/-! ## F232v1 -/
abbrev K232v1 := Nat → Int → Int → Int → Int → Int → Int → Int → Int → Int → LV → Option A232v1
abbrev H232v1 (r : K232v1) : Prop := ∀ (a : Nat) (l m o p q s d f i : Int) (j : LV) (b : A232v1), r a l m o p q s d f i j = some b → UU 232 ([hS 0 a, V.agg [i64 l, i64 m], V.agg [i64 o, i64 p], V.agg [i64 q, i64 s], V.agg [i64 d, i64 f], i64 i]) ([oT 2 j]) = some (A232v1.out b)
noncomputable def D232v1 (rF232v1 : K232v1) (hF232v1 : H232v1 rF232v1) (a : Nat) (l m o p q s d f i : Int) (j : LV) : PT A232v1 := .testB (i == 0) (fun h0 => .auto 2 <| .test (0 + a ≤ List.length j ∧ (a + 1) * 16 ≤ 140737488355328 ∧ a + 1 ≤ 140737488355328) (fun h1 => .ret (.a0 (a + 1) (List.take a j ++ [[i64 d, i64 f]]))) (fun _ => .fail)) (fun h0 => .auto 2 <| .ask E264 (F264_ok l m o p) fun ⟨t, u⟩ => .auto 2 <| .ask E264 (F264_ok o p q s) fun ⟨v, w⟩ => .auto 2 <| .ask E264 (F264_ok q s d f) fun ⟨y, z⟩ => .auto 5 <| .ask E264 (F264_ok t u v w) fun ⟨d0, d1⟩ => .auto 2 <| .ask E264 (F264_ok v w y z) fun ⟨d2, d3⟩ => .auto 4 <| .ask E264 (F264_ok d0 d1 d2 d3) fun ⟨d4, d5⟩ => .auto 5 <| .ask E232v1 (hF232v1 a l m t u d0 d1 d4 d5 (w64 (i - 1)) j) fun ⟨d6, d7⟩ => .auto 4 <| .ask E232v1 (hF232v1 d6 d4 d5 d2 d3 y z d f (w64 (i - 1)) d7) fun ⟨d8, d9⟩ => .ret (.a0 d8 d9))
theorem D232v1_ok (rF232v1 : K232v1) (hF232v1 : H232v1 rF232v1) (a : Nat) (d f i j l m o p q : Int) (s : LV) : ∀ b, (D232v1 rF232v1 hF232v1 a d f i j l m o p q s).ev some = some b → UU 232 ([hS 0 a, V.agg [i64 d, i64 f], V.agg [i64 i, i64 j], V.agg [i64 l, i64 m], V.agg [i64 o, i64 p], i64 q]) ([oT 2 s]) = some (A232v1.out b) :=
  fn_ok (E := E232v1) (L := notIn []) rfl rfl (fun x => by kernel_rfl)
noncomputable def G232v1 : Nat → { r : Nat → Int → Int → Int → Int → Int → Int → Int → Int → Int → LV → Option A232v1 // ∀ (a : Nat) (d f i j l m o p q : Int) (s : LV) (b : A232v1), r a d f i j l m o p q s = some b → UU 232 ([hS 0 a, V.agg [i64 d, i64 f], V.agg [i64 i, i64 j], V.agg [i64 l, i64 m], V.agg [i64 o, i64 p], i64 q]) ([oT 2 s]) = some (A232v1.out b) }
  | 0 => ⟨fun _ _ _ _ _ _ _ _ _ _ _ => none, fun _ _ _ _ _ _ _ _ _ _ _ _ h => by cases h⟩
  | n + 1 => ⟨fun a d f i j l m o p q s => (D232v1 (G232v1 n).1 (G232v1 n).2 a d f i j l m o p q s).ev some, fun a d f i j l m o p q s => D232v1_ok (G232v1 n).1 (G232v1 n).2 a d f i j l m o p q s⟩
noncomputable def F232v1 (n a : Nat) (d f i j l m o p q : Int) (s : LV) : Option A232v1 := (G232v1 n).1 a d f i j l m o p q s
theorem F232v1_ok (n a : Nat) (d f i j l m o p q : Int) (s : LV) : ∀ b, F232v1 n a d f i j l m o p q s = some b → UU 232 ([hS 0 a, V.agg [i64 d, i64 f], V.agg [i64 i, i64 j], V.agg [i64 l, i64 m], V.agg [i64 o, i64 p], i64 q]) ([oT 2 s]) = some (A232v1.out b) := (G232v1 n).2 a d f i j l m o p q s
theorem F232v1_succ (n a : Nat) (d f i j l m o p q : Int) (s : LV) : F232v1 (n + 1) a d f i j l m o p q s = (D232v1 (F232v1 n) (F232v1_ok n) a d f i j l m o p q s).ev some := rfl
/-! ## F232 -/
abbrev K232 := Int → Int → Int → Int → Int → Int → Int → Int → Int → Option A232
abbrev H232 (r : K232) : Prop := ∀ (i j l m o p a d f : Int) (b : A232), r i j l m o p a d f = some b → UU 232 ([V.nilS, V.agg [i64 i, i64 j], V.agg [i64 l, i64 m], V.agg [i64 o, i64 p], V.agg [i64 a, i64 d], i64 f]) ([]) = some (A232.out b)
noncomputable def D232 (rF232 : K232) (hF232 : H232 rF232) (i j l m o p a d f : Int) : PT A232 := .testB (f == 0) (fun h0 => .auto 3 <| .ret (.a0 1 ([[i64 a, i64 d]]))) (fun h0 => .auto 2 <| .ask E264 (F264_ok i j l m) fun ⟨q, s⟩ => .auto 2 <| .ask E264 (F264_ok l m o p) fun ⟨t, u⟩ => .auto 2 <| .ask E264 (F264_ok o p a d) fun ⟨v, w⟩ => .auto 5 <| .ask E264 (F264_ok q s t u) fun ⟨y, z⟩ => .auto 2 <| .ask E264 (F264_ok t u v w) fun ⟨d0, d1⟩ => .auto 4 <| .ask E264 (F264_ok y z d0 d1) fun ⟨d2, d3⟩ => .auto 5 <| .ask E232 (hF232 i j q s y z d2 d3 (w64 (f - 1))) fun ⟨d4, d5⟩ => .auto 4 <| .ask E232v1 (F232v1_ok 100000 d4 d2 d3 d0 d1 v w a d (w64 (f - 1)) d5) fun ⟨d6, d7⟩ => .ret (.a0 d6 d7))
theorem D232_ok (rF232 : K232) (hF232 : H232 rF232) (a d f i j l m o p : Int) : ∀ b, (D232 rF232 hF232 a d f i j l m o p).ev some = some b → UU 232 ([V.nilS, V.agg [i64 a, i64 d], V.agg [i64 f, i64 i], V.agg [i64 j, i64 l], V.agg [i64 m, i64 o], i64 p]) ([]) = some (A232.out b) :=
  fn_ok (E := E232) (L := notIn []) rfl rfl (fun x => by kernel_rfl)
noncomputable def G232 : Nat → { r : Int → Int → Int → Int → Int → Int → Int → Int → Int → Option A232 // ∀ (a d f i j l m o p : Int) (b : A232), r a d f i j l m o p = some b → UU 232 ([V.nilS, V.agg [i64 a, i64 d], V.agg [i64 f, i64 i], V.agg [i64 j, i64 l], V.agg [i64 m, i64 o], i64 p]) ([]) = some (A232.out b) }
  | 0 => ⟨fun _ _ _ _ _ _ _ _ _ => none, fun _ _ _ _ _ _ _ _ _ _ h => by cases h⟩
  | n + 1 => ⟨fun a d f i j l m o p => (D232 (G232 n).1 (G232 n).2 a d f i j l m o p).ev some, fun a d f i j l m o p => D232_ok (G232 n).1 (G232 n).2 a d f i j l m o p⟩
noncomputable def F232 (n : Nat) (a d f i j l m o p : Int) : Option A232 := (G232 n).1 a d f i j l m o p
theorem F232_ok (n : Nat) (a d f i j l m o p : Int) : ∀ b, F232 n a d f i j l m o p = some b → UU 232 ([V.nilS, V.agg [i64 a, i64 d], V.agg [i64 f, i64 i], V.agg [i64 j, i64 l], V.agg [i64 m, i64 o], i64 p]) ([]) = some (A232.out b) := (G232 n).2 a d f i j l m o p
theorem F232_succ (n : Nat) (a d f i j l m o p : Int) : F232 (n + 1) a d f i j l m o p = (D232 (F232 n) (F232_ok n) a d f i j l m o p).ev some := rfl
/-! ## F192 -/
noncomputable def D192 (a d f i j l m o : Int) : PT A192 := .auto 4 <| .ask E232 (F232_ok 100000 a d f i j l m o 3) fun ⟨p, q⟩ => .ret (.a0 p q)
noncomputable def F192 (a d f i j l m o : Int) : Option A192 := (D192 a d f i j l m o).ev some
theorem F192_ok (a d f i j l m o : Int) : FU E192 (F192 a d f i j l m o) 192 [V.agg [i64 a, i64 d], V.agg [i64 f, i64 i], V.agg [i64 j, i64 l], V.agg [i64 m, i64 o]] := fu rfl rfl fun x => by kernel_rfl
/-! ## F138 -/
noncomputable abbrev B138 : Code := (Tryz.f138.body).getD .skip
inductive T138_r8s0 where
  | mk (a : Nat) (d : Int) (f : Bool) (i j : LV) (l m o p q s t u : Int)
abbrev T138_r8s0.st : T138_r8s0 → S
  | .mk a d f i j l m o p q s t u => S.mk (U :: pT 0 :: pT 1 :: hS 2 a :: i64 d :: pT 3 :: pT 4 :: pT 5 :: pT 6 :: un 69 []) [oF 2 [[vb f, lS 2 i]], oF 2 [[vb false, hS 7 0]], oT 2 j, oF 2 [[i64 l, i64 m]], oF 2 [[i64 o, i64 p]], oF 2 [[i64 q, i64 s]], oF 2 [[i64 t, i64 u]], oT 2 []]
inductive T138_r8e0 where
  | mk (a : Nat) (d : Int) (f i : Bool) (j l : LV) (m o p q s t u v : Int)
inductive N138_r8 where
  | e0 (x : T138_r8e0)
abbrev N138_r8.out : N138_r8 → VX × S
  | .e0 (.mk a d f i j l m o p q s t u v) => (vN, S.mk (U :: pT 0 :: pT 1 :: hS 2 a :: i64 d :: pT 3 :: pT 4 :: pT 5 :: pT 6 :: un 53 (vb f :: un 15 [])) [oF 2 [[vb i, lS 2 j]], oF 2 [[vb false, hS 7 0]], oT 2 l, oF 2 [[i64 m, i64 o]], oF 2 [[i64 p, i64 q]], oF 2 [[i64 s, i64 t]], oF 2 [[i64 u, i64 v]], oT 2 []])
abbrev E138_r8 := Ent.o1 N138_r8.out .e0 fun ⟨x⟩ => ⟨x, rfl⟩
noncomputable def D138_r8 : T138_r8s0 → PT N138_r8 | .mk p q s t u a d f i j l m o => .auto 2 <| .testB (f == a && (i == d && true)) (fun h0 => .auto 5 <| .ret (.e0 (.mk p q (j == m && (l == o && true)) s t u a d f i j l m o))) (fun h0 => .auto 3 <| .ret (.e0 (.mk p q false s t u a d f i j l m o)))
noncomputable def J138_r8 (y : T138_r8s0) : Option N138_r8 := (D138_r8 y).ev some
theorem J138_r8_ok (y : T138_r8s0) : ∀ b, J138_r8 y = some b → regP Tryz.prog X CC 138 0 B138 8 y.st = some (E138_r8.out b) := by
  cases y; exact reg_ok (E := E138_r8) (fun x => by kernel_rfl)
inductive T138_0s0 where
  | mk (a : Nat) (d : Int) (f : Bool) (i j : LV)
inductive T138_0e0 where
  | mk (a : Nat) (d : Bool) (f i : LV)
inductive N138_0 where
  | s0 (x : T138_0s0)
  | e0 (x : T138_0e0)
abbrev N138_0.out : N138_0 → VX × S
  | .s0 (.mk a d f i j) => (vN, S.mk (U :: pT 0 :: pT 1 :: hS 2 a :: i64 d :: un 73 []) [oF 2 [[vb f, lS 2 i]], oF 2 [[vb false, hS 3 0]], oT 2 j, oT 2 []])
  | .e0 (.mk l m o p) => (vX 0, S.mk (U :: pT 0 :: pT 1 :: hS 2 l :: un 74 []) [oF 2 [[vb m, lS 2 o]], oF 2 [[vb false, hS 3 0]], oT 2 p, oT 2 []])
abbrev E138_0 := Ent.o2 N138_0.out .s0 .e0 (fun b => by cases b <;> simp)
noncomputable def D138_0 : T138_0s0 → PT N138_0 | .mk m a o f p => .auto 1 <| .test (w64 (a + 3) < (f.length : Int)) (fun h0 => .auto 1 <| .test (0 ≤ a) (fun h1 => .look RW28 (f[Int.toNat a]?) fun q => .auto 1 <| .test (0 ≤ w64 (a + 1)) (fun h2 => .look RW28 (f[Int.toNat (w64 (a + (1 : Int)))]?) fun s => .auto 1 <| .test (0 ≤ w64 (a + 2)) (fun h3 => .look RW28 (f[Int.toNat (w64 (a + (2 : Int)))]?) fun t => .auto 1 <| .test (0 ≤ w64 (a + 3)) (fun h4 => .look RW28 (f[Int.toNat (w64 (a + (3 : Int)))]?) fun u => .auto 4 <| .cut E138_r8 (J138_r8_ok (.mk m a o f p q.c0 q.c1 s.c0 s.c1 t.c0 t.c1 u.c0 u.c1)) fun | .e0 (.mk d v d1 w y l d2 d3 d4 d5 d6 d7 z d0) => .testB d1 (fun h5 => .auto 2 <| .test (0 + d ≤ List.length l ∧ (d + 1) * 16 ≤ 140737488355328 ∧ d + 1 ≤ 140737488355328) (fun h6 => .ret (.s0 (.mk (d + 1) (w64 (v + 3)) w y (List.take d l ++ [[i64 z, i64 d0]])))) (fun _ => .fail)) (fun h5 => .auto 4 <| .ask E192 (F192_ok d2 d3 d4 d5 d6 d7 z d0) fun ⟨i, j⟩ => .test (0 + i ≤ List.length j) (fun h6 => .test (0 + d ≤ List.length l ∧ (d + List.length (List.take i j)) * 16 ≤ 140737488355328 ∧ d + List.length (List.take i j) ≤ 140737488355328) (fun h7 => .ret (.s0 (.mk (d + List.length (List.take i j)) (w64 (v + 3)) w y (List.take d l ++ List.take i j)))) (fun _ => .fail)) (fun _ => .fail))) (fun _ => .fail)) (fun _ => .fail)) (fun _ => .fail)) (fun _ => .fail)) (fun h0 => .ret (.e0 (.mk m o f p)))
noncomputable def L138_0 := E138_0.loop fun | .s0 x => D138_0 x | _ => .fail
theorem L138_0_ok : LU 138 0 B138 0 E138_0 L138_0 :=
  lk (L := notIn []) (fun b hb => by cases b <;> first | (cases hb; done) | (rename_i x; cases x; intro x; kernel_rfl) | (intro x; kernel_rfl))
noncomputable def N138_0.nx (n : Nat) : N138_0 → Option N138_0 | .s0 x => L138_0 n (.s0 x) | .e0 x => some (.e0 x)
theorem L138_0_s0 (n : Nat) (x : T138_0s0) : L138_0 (n + 1) (.s0 x) = (D138_0 x).ev (N138_0.nx n) := Ent.loop_eq fun c => by cases c <;> rfl
inductive T138_r1s0 where
  | mk (a : Bool) (d : LV)
abbrev T138_r1s0.st : T138_r1s0 → S
  | .mk a d => S.mk (U :: pT 0 :: pT 1 :: un 75 []) [oF 2 [[vb a, lS 2 d]], oF 2 [[vb false, hS 2 0]], oT 2 []]
inductive T138_r1e0 where
  | mk (a d : Bool) (f : LV)
inductive N138_r1 where
  | e0 (x : T138_r1e0)
abbrev N138_r1.out : N138_r1 → VX × S
  | .e0 (.mk a d f) => (vN, S.mk (U :: pT 0 :: pT 1 :: un 12 (vb a :: un 62 [])) [oF 2 [[vb d, lS 2 f]], oF 2 [[vb false, hS 2 0]], oT 2 []])
abbrev E138_r1 := Ent.o1 N138_r1.out .e0 fun ⟨x⟩ => ⟨x, rfl⟩
noncomputable def D138_r1 : T138_r1s0 → PT N138_r1 | .mk a d => .auto 1 <| .tot O146 (F146_ok a d) fun f => .testB f (fun h0 => .auto 3 <| .ret (.e0 (.mk true a d))) (fun h0 => .auto 2 <| .ask E177 (F177_ok a d) fun ⟨i⟩ => .auto 2 <| .ret (.e0 (.mk (!i) a d)))
noncomputable def J138_r1 (y : T138_r1s0) : Option N138_r1 := (D138_r1 y).ev some
theorem J138_r1_ok (y : T138_r1s0) : ∀ b, J138_r1 y = some b → regP Tryz.prog X CC 138 0 B138 1 y.st = some (E138_r1.out b) := by
  cases y; exact reg_ok (E := E138_r1) (fun x => by kernel_rfl)
noncomputable def D138 (i : Bool) (j : LV) : PT A138 := .cut E138_r1 (J138_r1_ok (.mk i j)) fun | .e0 (.mk l a d) => .testB l (fun h0 => .auto 2 <| .ret (.a0 a 0 ([]))) (fun h0 => .auto 2 <| .look RW28 (d[(0 : Nat)]?) fun f => .cut E138_0 (L138_0_ok (.s0 (.mk 1 0 a d ([[i64 f.c0, i64 f.c1]]))) rfl) fun | .e0 (.mk m o q p) => (.auto 2 <| .ret (.a0 o m p)) | _ => .fail)
noncomputable def F138 (a : Bool) (d : LV) : Option A138 := (D138 a d).ev some
theorem F138_ok (a : Bool) (d : LV) : FU E138 (F138 a d) 138 [V.agg [vb a, lS 2 d]] := fu rfl rfl fun x => by kernel_rfl
/-! ## F233 -/
noncomputable def D233 (d f i j l m o p q : Int) : PT A233 := .tot O132 (F132_ok q) fun a => .auto 5 <| .tot O74 (F74_ok (w64 (w64 d + Int.fdiv (w64 (w64 (w64 l - w64 d) * a)) 65536)) 0 255) fun s => .auto 6 <| .tot O74 (F74_ok (w64 (w64 f + Int.fdiv (w64 (w64 (w64 m - w64 f) * a)) 65536)) 0 255) fun t => .auto 6 <| .tot O74 (F74_ok (w64 (w64 i + Int.fdiv (w64 (w64 (w64 o - w64 i) * a)) 65536)) 0 255) fun u => .auto 6 <| .tot O74 (F74_ok (w64 (w64 j + Int.fdiv (w64 (w64 (w64 p - w64 j) * a)) 65536)) 0 255) fun v => .auto 4 <| .ret (.a0 (IntKind.wrap IntKind.u8 s) (IntKind.wrap IntKind.u8 t) (IntKind.wrap IntKind.u8 u) (IntKind.wrap IntKind.u8 v))
noncomputable def F233 (a d f i j l m o p : Int) : Option A233 := (D233 a d f i j l m o p).ev some
theorem F233_ok (a d f i j l m o p : Int) : ∀ b, F233 a d f i j l m o p = some b → UU 233 ([V.agg [u8 a, u8 d, u8 f, u8 i], V.agg [u8 j, u8 l, u8 m, u8 o], i64 p]) ([]) = some (A233.out b) :=
  fn_ok (E := E233) (L := notIn [0]) rfl rfl (fun x => by kernel_rfl)
/-! ## F193 -/
noncomputable abbrev B193 : Code := (Tryz.f193.body).getD .skip
inductive T193_0s0 where
  | mk (a : LV) (d f : Int)
inductive T193_0e0 where
  | mk (a : LV) (d f : Int)
inductive N193_0 where
  | s0 (x : T193_0s0)
  | e0 (x : T193_0e0)
abbrev N193_0.out : N193_0 → VX × S
  | .s0 (.mk a d f) => (vN, S.mk (lS 10 a :: i64 d :: un 4 (pT 0 :: i64 f :: un 64 [])) [oF 4 [[u8 0, u8 0, u8 0, u8 0]]])
  | .e0 (.mk i j l) => (vX 0, S.mk (lS 10 i :: i64 j :: un 4 (pT 0 :: i64 l :: un 64 [])) [oF 4 [[u8 0, u8 0, u8 0, u8 0]]])
abbrev E193_0 := Ent.o2 N193_0.out .s0 .e0 (fun b => by cases b <;> simp)
noncomputable def D193_0 : T193_0s0 → PT N193_0 | .mk d f a => .test (a ≥ 0) (fun h0 => .auto 2 <| .test (0 ≤ a) (fun h1 => .look RW108 (d[Int.toNat a]?) fun i => .auto 5 <| .test (i.c0 > f) (fun h2 => .ret (.s0 (.mk d f (w64 (a - 1))))) (fun h2 => .ret (.e0 (.mk d f a)))) (fun _ => .fail)) (fun h0 => .auto 8 <| .ret (.e0 (.mk d f a)))
noncomputable def L193_0 := E193_0.loop fun | .s0 x => D193_0 x | _ => .fail
theorem L193_0_ok : LU 193 0 B193 0 E193_0 L193_0 :=
  lk (L := notIn []) (fun b hb => by cases b <;> first | (cases hb; done) | (rename_i x; cases x; intro x; kernel_rfl) | (intro x; kernel_rfl))
noncomputable def N193_0.nx (n : Nat) : N193_0 → Option N193_0 | .s0 x => L193_0 n (.s0 x) | .e0 x => some (.e0 x)
theorem L193_0_s0 (n : Nat) (x : T193_0s0) : L193_0 (n + 1) (.s0 x) = (D193_0 x).ev (N193_0.nx n) := Ent.loop_eq fun c => by cases c <;> rfl
noncomputable def D193 (m : LV) (o p q s t : Int) : PT A193 := .testB ((m.length : Int) == 0) (fun h0 => .auto 2 <| .ret (.a0 p q s t)) (fun h0 => .cut E193_0 (L193_0_ok (.s0 (.mk m o (w64 ((m.length : Int) - 1)))) rfl) fun | .e0 (.mk f u d) => (.testB (d == -1) (fun h1 => .auto 1 <| .look RW108 (f[(0 : Nat)]?) fun j => .auto 1 <| .ret (.a0 j.c1 j.c2 j.c3 j.c4)) (fun h1 => .testB (d == w64 ((f.length : Int) - 1)) (fun h2 => .test (0 ≤ d) (fun h3 => .look RW108 (f[Int.toNat d]?) fun l => .auto 1 <| .ret (.a0 l.c1 l.c2 l.c3 l.c4)) (fun _ => .fail)) (fun h2 => .test (0 ≤ d) (fun h3 => .look RW108 (f[Int.toNat d]?) fun a => .test (0 ≤ w64 (d + 1)) (fun h4 => .look RW108 (f[Int.toNat (w64 (d + (1 : Int)))]?) fun i => .auto 8 <| .ask E136 (F136_ok a.c0 i.c0 u) fun ⟨v⟩ => .ask E135 (F135_ok a.c5 a.c6 a.c7 a.c8 a.c9 v) fun ⟨w⟩ => .ask E233 (F233_ok a.c1 a.c2 a.c3 a.c4 i.c1 i.c2 i.c3 i.c4 w) fun ⟨y, z, d0, d1⟩ => .auto 1 <| .ret (.a0 y z d0 d1)) (fun _ => .fail)) (fun _ => .fail)))) | _ => .fail)
noncomputable def F193 (a : LV) (d f i j l : Int) : Option A193 := (D193 a d f i j l).ev some
theorem F193_ok (a : LV) (d f i j l : Int) : FU E193 (F193 a d f i j l) 193 [lS 10 a, i64 d, V.agg [u8 f, u8 i, u8 j, u8 l]] := fu rfl rfl fun x => by kernel_rfl
/-! ## F241 -/
noncomputable def D241 (a : Int) : PT Int := .tot O74 (F74_ok a (-536870912) 536870912) fun d => .ret d
abbrev O241 (a : Int) : V × Store := (i64 a, [])
noncomputable def F241 (a : Int) : Int := (D241 a).evT
theorem F241_ok (a : Int) : UU 241 ([i64 a]) ([]) = some (O241 (F241 a)) :=
  fnT_ok (out := O241) (L := notIn []) rfl rfl (fun x => by kernel_rfl) (by simp [D241, PT.isT])
/-! ## F198 -/
noncomputable def D198 (a : W59) (d f : Int) : PT A198 := .auto 4 <| .ask E137 (F137_ok a.c0 d a.c2 f) fun ⟨i⟩ => .auto 1 <| .tot O131 (F131_ok i a.c4) fun j => .tot O241 (F241_ok j) fun l => .auto 4 <| .ask E137 (F137_ok a.c1 d a.c3 f) fun ⟨m⟩ => .auto 1 <| .tot O131 (F131_ok m a.c5) fun o => .tot O241 (F241_ok o) fun p => .auto 1 <| .ret (.a0 l p)
noncomputable def F198 (a : W59) (d f : Int) : Option A198 := (D198 a d f).ev some
theorem F198_ok (a : W59) (d f : Int) : FU E198 (F198 a d f) 198 [V.agg (W59.cells a), V.agg [i64 d, i64 f]] := fu rfl rfl fun x => by kernel_rfl
/-! ## F147 -/
noncomputable abbrev B147 : Code := (Tryz.f147.body).getD .skip
inductive T147_2s0 where
  | mk (a : Nat) (d : LV) (f i : Int) (j : LV) (l m : Int) (o : W59) (p : LV) (q : Bool) (s : Nat) (t : LV)
inductive T147_2e0 where
  | mk (a : Nat) (d : LV) (f i : Int) (j : W59) (l : LV) (m : Bool) (o : Nat) (p : LV)
inductive N147_2 where
  | s0 (x : T147_2s0)
  | e0 (x : T147_2e0)
abbrev N147_2.out : N147_2 → VX × S
  | .s0 (.mk a d f i j l m o p q s t) => (vN, S.mk (U :: U :: pT 0 :: U :: U :: hS 1 a :: U :: U :: pT 2 :: U :: U :: lS 2 d :: i64 f :: i64 i :: un 7 (lS 2 j :: i64 l :: i64 m :: un 18 [])) [oF 6 [W59.cells o], oT 2 p, oF 2 [[vb q, hS 3 s]], oT 2 t])
  | .e0 (.mk u v w y z d0 d1 d2 d3) => (vX 2, S.mk (U :: U :: pT 0 :: U :: U :: hS 1 u :: U :: U :: pT 2 :: U :: U :: lS 2 v :: i64 w :: i64 y :: un 28 []) [oF 6 [W59.cells z], oT 2 d0, oF 2 [[vb d1, hS 3 d2]], oT 2 d3])
abbrev E147_2 := Ent.o2 N147_2.out .s0 .e0 (fun b => by cases b <;> simp)
noncomputable def D147_2 : T147_2s0 → PT N147_2 | .mk j l m o p q d f s t a i => .test (d < q) (fun h0 => .test (0 ≤ d) (fun h1 => .look RW28 (p[Int.toNat d]?) fun u => .auto 4 <| .ask E198 (F198_ok f u.c0 u.c1) fun ⟨v, w⟩ => .auto 1 <| .test (0 + a ≤ List.length i ∧ (a + 1) * 16 ≤ 140737488355328 ∧ a + 1 ≤ 140737488355328) (fun h2 => .auto 1 <| .ret (.s0 (.mk j l m o p q (w64 (d + 1)) f s t (a + 1) (List.take a i ++ [[i64 v, i64 w]])))) (fun _ => .fail)) (fun _ => .fail)) (fun h0 => .ret (.e0 (.mk j l m o f s t a i)))
noncomputable def L147_2 := E147_2.loop fun | .s0 x => D147_2 x | _ => .fail
theorem L147_2_ok : LU 147 0 B147 2 E147_2 L147_2 :=
  lk (L := notIn []) (fun b hb => by cases b <;> first | (cases hb; done) | (rename_i x; cases x; intro x; kernel_rfl) | (intro x; kernel_rfl))
noncomputable def N147_2.nx (n : Nat) : N147_2 → Option N147_2 | .s0 x => L147_2 n (.s0 x) | .e0 x => some (.e0 x)
theorem L147_2_s0 (n : Nat) (x : T147_2s0) : L147_2 (n + 1) (.s0 x) = (D147_2 x).ev (N147_2.nx n) := Ent.loop_eq fun c => by cases c <;> rfl
inductive T147_0s0 where
  | mk (a : Nat) (d : LV) (f i : Int) (j : W59) (l : LV)
inductive T147_0e0 where
  | mk (a : Nat) (d : LV)
inductive N147_0 where
  | s0 (x : T147_0s0)
  | e0 (x : T147_0e0)
abbrev N147_0.out : N147_0 → VX × S
  | .s0 (.mk a d f i j l) => (vN, S.mk (U :: U :: pT 0 :: U :: U :: hS 1 a :: un 5 (lS 2 d :: i64 f :: i64 i :: un 28 [])) [oF 6 [W59.cells j], oT 2 l])
  | .e0 (.mk m o) => (vX 0, S.mk (un 5 (hS 0 m :: un 36 [])) [oT 2 o])
abbrev E147_0 := Ent.o2 N147_0.out .s0 .e0 (fun b => by cases b <;> simp)
noncomputable def D147_0 : T147_0s0 → PT N147_0 | .mk i j l d s m => .test (d < l) (fun h0 => .test (0 ≤ d) (fun h1 => .look RW88 (j[Int.toNat d]?) fun f => .auto 4 <| .cut E147_2 (L147_2_ok (.s0 (.mk i j l d f.c1 (((List.length f.c1) : Int)) 0 s m f.c0 0 ([]))) rfl) fun | .e0 (.mk a t u v w o y p q) => (.auto 1 <| .test (0 + p ≤ List.length q) (fun h2 => .auto 1 <| .test (0 + a ≤ List.length o ∧ (a + 1) * 32 ≤ 140737488355328 ∧ a + 1 ≤ 140737488355328) (fun h3 => .ret (.s0 (.mk (a + 1) t u (w64 (v + 1)) w (List.take a o ++ [[vb y, lS 2 (List.take p q)]])))) (fun _ => .fail)) (fun _ => .fail)) | _ => .fail) (fun _ => .fail)) (fun h0 => .ret (.e0 (.mk i m)))
noncomputable def L147_0 := E147_0.loop fun | .s0 x => D147_0 x | _ => .fail
theorem L147_0_ok : LU 147 0 B147 0 E147_0 L147_0 :=
  lk (L := notIn []) (fun b hb => by cases b <;> first | (cases hb; done) | (rename_i x; cases x; intro x; kernel_rfl) | (intro x; kernel_rfl))
noncomputable def N147_0.nx (n : Nat) : N147_0 → Option N147_0 | .s0 x => L147_0 n (.s0 x) | .e0 x => some (.e0 x)
theorem L147_0_s0 (n : Nat) (x : T147_0s0) : L147_0 (n + 1) (.s0 x) = (D147_0 x).ev (N147_0.nx n) := Ent.loop_eq fun c => by cases c <;> rfl
noncomputable def D147 (d : W59) (a : LV) : PT A147 := .cut E147_0 (L147_0_ok (.s0 (.mk 0 a ((a.length : Int)) 0 d ([]))) rfl) fun | .e0 (.mk f i) => .ret (.a0 f i) | _ => .fail
noncomputable def F147 (a : W59) (d : LV) : Option A147 := (D147 a d).ev some
theorem F147_ok (a : W59) (d : LV) : FU E147 (F147 a d) 147 [V.agg (W59.cells a), lS 2 d] := fu rfl rfl fun x => by kernel_rfl
end Go.Proofs.YtifalphladcdcaaGreat.H
