/- What the functions compute, and that they do so over the machine of plain values (printed by this session's program wip/vm/Walk.lean). No condition beyond those stated. -/
import Derived.Test.YtifalphladcdcaaGreatWk
import Derived.Test.YtifalphladcdcaaGreatPBb
set_option linter.unusedVariables false
set_option linter.unusedSimpArgs false
namespace Go.Proofs.YtifalphladcdcaaGreat.H
open Go Go.VM
set_option maxRecDepth 100000
/-! ## F171 -/
noncomputable abbrev B171 : Code := (Tryz.f171.body).getD .skip
inductive T171_0s0 where
  | mk (a : Int) (d : LV) (f i : Int) (j : Bool) (l : LV) (m : Nat) (o : LV)
inductive T171_0e0 where
  | mk (a : Bool) (d : Nat) (f : LV)
inductive N171_0 where
  | s0 (x : T171_0s0)
  | e0 (x : T171_0e0)
@[reducible] def N171_0.out : N171_0 → VX × S
  | .s0 (.mk d f i j a l m o) => (vN, S.mk (U :: U :: i64 d :: pT 0 :: U :: U :: pT 1 :: pT 2 :: un 14 (lS 2 f :: i64 i :: i64 j :: un 31 [])) [oF 2 [[vb a, lS 2 l]], oF 2 [[vb false, hS 3 0]], oF 2 [[vb a, hS 4 m]], oT 2 [], oT 2 o])
  | .e0 (.mk p q s) => (vX 0, S.mk (un 6 (pT 0 :: pT 1 :: un 48 [])) [oF 2 [[vb false, hS 2 0]], oF 2 [[vb p, hS 3 q]], oT 2 [], oT 2 s])
abbrev E171_0 : Ent (VX × S) := ⟨N171_0, N171_0.out, fun g => (∃ x, g (.s0 x)) ∨ (∃ x, g (.e0 x)), fun g => ⟨fun h => match h with
  | .inl ⟨_, h⟩ => ⟨_, h⟩
  | .inr (⟨_, h⟩) => ⟨_, h⟩, fun ⟨b, h⟩ => match b, h with
  | .s0 _, h => .inl ⟨_, h⟩
  | .e0 _, h => .inr (⟨_, h⟩)⟩⟩
noncomputable def D171_0 : T171_0s0 → PT N171_0
  | .mk d l m a o f i j =>
   .test (a < m)
    (fun h0 =>
    .test (0 ≤ a)
     (fun h1 =>
     .look RW28 (l[Int.toNat a]?) fun p =>
     .auto 3 <|
     .known (decide_eq_true h1) <|
     .look RW28 (f[Int.toNat a]?) fun q =>
     .auto 1 <|
     .ask E134 (F134_ok q.c0 p.c0 d) fun (r : A134) => match r with
     | .a0 s =>
      .auto 1 <|
      .known (decide_eq_true h1) <|
      .look RW28 (f[Int.toNat a]?) fun t =>
      .auto 1 <|
      .ask E134 (F134_ok t.c1 p.c1 d) fun (r : A134) => match r with
      | .a0 u =>
       .test (0 ≤ a ∧ a < (↑i : Int))
        (fun h2 =>
        .look RW28 (j[(0 : Nat) + Int.toNat a]?) fun v =>
        .ret (.s0 (.mk d l m (w64 (a + 1)) o f i (List.set j (0 + Int.toNat a) [i64 s, i64 u])))
        )
        (fun _ => .fail)
     )
     (fun _ => .fail)
    )
    (fun h0 =>
    .ret (.e0 (.mk o i j))
    )
noncomputable def S171_0 : N171_0 → PT N171_0
  | .s0 x => D171_0 x
  | _ => .fail
def N171_0.off : N171_0 → Bool
  | .s0 _ => false
  | _ => true
noncomputable def L171_0 (n : Nat) (b : N171_0) : Option N171_0 := PT.loop S171_0 N171_0.off n b
theorem L171_0_ok : ∀ (n : Nat) (b : N171_0), N171_0.off b = false → ∀ c, L171_0 n b = some c → loopP Tryz.prog X CC 171 0 18446744073709551616 B171 0 n (E171_0.out b).2 = some (E171_0.out c) :=
  loop_ok (E := E171_0) (step := S171_0) (L := notIn []) (fun b hb => by cases b <;> first | (cases hb; done) | (rename_i x; cases x; intro x; kernel_rfl) | (intro x; kernel_rfl)) (fun b => by cases b <;> rfl)
noncomputable def N171_0.nx (n : Nat) (c : N171_0) : Option N171_0 := match N171_0.off c with
  | true => some c
  | false => L171_0 n c
theorem L171_0_s0 (n : Nat) (x : T171_0s0) : L171_0 (n + 1) (.s0 x) = (D171_0 x).ev (N171_0.nx n) := rfl
theorem N171_0.nx_s0 (n : Nat) (x : T171_0s0) : N171_0.nx n (.s0 x) = L171_0 n (.s0 x) := rfl
theorem N171_0.nx_e0 (n : Nat) (x : T171_0e0) : N171_0.nx n (.e0 x) = some (.e0 x) := rfl
noncomputable def D171 (d : Bool) (f : LV) (j : Bool) (i : LV) (l : Int) : PT A171 :=
  .auto 2 <|
  .ask E224 (F224_ok f) fun (r : A224) => match r with
  | .a0 a =>
   .auto 3 <|
   .tot O178 (F178_ok d f j i) fun m =>
   .testB (!m)
    (fun h0 =>
    .auto 2 <|
    .ret (.a0 d (List.length a) a)
    )
    (fun h0 =>
    .auto 1 <|
    .cut E171_0 (L171_0_ok 18446744073709551616 (.s0 (.mk l i ((↑(List.length i) : Int)) 0 d f (List.length a) a)) rfl) fun (r : N171_0) => match r with
    | .e0 (.mk o p q) =>
     .auto 2 <|
     .ret (.a0 o p q)
    | _ => .fail
    )
noncomputable def F171 (a : Bool) (d : LV) (f : Bool) (i : LV) (j : Int) : Option A171 := (D171 a d f i j).ev some
theorem F171_ok (a : Bool) (d : LV) (f : Bool) (i : LV) (j : Int) : ∀ b, F171 a d f i j = some b → UU 171 ([V.agg [vb a, lS 2 d], V.agg [vb f, lS 2 i], i64 j]) ([]) = some (A171.out b) :=
  fn_ok (E := E171) (L := notIn []) rfl rfl (fun x => by kernel_rfl)
/-! ## F109 -/
noncomputable abbrev B109 : Code := (Tryz.f109.body).getD .skip
inductive T109_0s0 where
  | mk (a : LV) (d f : Int)
inductive T109_0e0 where
  | mk (a : LV) (d f : Int)
inductive N109_0 where
  | s0 (x : T109_0s0)
  | e0 (x : T109_0e0)
@[reducible] def N109_0.out : N109_0 → VX × S
  | .s0 (.mk a d f) => (vN, S.mk (lS 8 a :: i64 d :: U :: U :: pT 0 :: i64 f :: un 66 []) [oF 2 [[vb false, hS 1 0]], oT 2 []])
  | .e0 (.mk i j l) => (vX 0, S.mk (lS 8 i :: i64 j :: U :: U :: pT 0 :: i64 l :: un 66 []) [oF 2 [[vb false, hS 1 0]], oT 2 []])
abbrev E109_0 : Ent (VX × S) := ⟨N109_0, N109_0.out, fun g => (∃ x, g (.s0 x)) ∨ (∃ x, g (.e0 x)), fun g => ⟨fun h => match h with
  | .inl ⟨_, h⟩ => ⟨_, h⟩
  | .inr (⟨_, h⟩) => ⟨_, h⟩, fun ⟨b, h⟩ => match b, h with
  | .s0 _, h => .inl ⟨_, h⟩
  | .e0 _, h => .inr (⟨_, h⟩)⟩⟩
noncomputable def D109_0 : T109_0s0 → PT N109_0
  | .mk d f a =>
   .test (a ≥ 0)
    (fun h0 =>
    .auto 2 <|
    .test (0 ≤ a)
     (fun h1 =>
     .look RW100 (d[Int.toNat a]?) fun i =>
     .auto 5 <|
     .test (i.c0 > f)
      (fun h2 =>
      .ret (.s0 (.mk d f (w64 (a - 1))))
      )
      (fun h2 =>
      .ret (.e0 (.mk d f a))
      )
     )
     (fun _ => .fail)
    )
    (fun h0 =>
    .auto 8 <|
    .ret (.e0 (.mk d f a))
    )
noncomputable def S109_0 : N109_0 → PT N109_0
  | .s0 x => D109_0 x
  | _ => .fail
def N109_0.off : N109_0 → Bool
  | .s0 _ => false
  | _ => true
noncomputable def L109_0 (n : Nat) (b : N109_0) : Option N109_0 := PT.loop S109_0 N109_0.off n b
theorem L109_0_ok : ∀ (n : Nat) (b : N109_0), N109_0.off b = false → ∀ c, L109_0 n b = some c → loopP Tryz.prog X CC 109 0 18446744073709551616 B109 0 n (E109_0.out b).2 = some (E109_0.out c) :=
  loop_ok (E := E109_0) (step := S109_0) (L := notIn []) (fun b hb => by cases b <;> first | (cases hb; done) | (rename_i x; cases x; intro x; kernel_rfl) | (intro x; kernel_rfl)) (fun b => by cases b <;> rfl)
noncomputable def N109_0.nx (n : Nat) (c : N109_0) : Option N109_0 := match N109_0.off c with
  | true => some c
  | false => L109_0 n c
theorem L109_0_s0 (n : Nat) (x : T109_0s0) : L109_0 (n + 1) (.s0 x) = (D109_0 x).ev (N109_0.nx n) := rfl
theorem N109_0.nx_s0 (n : Nat) (x : T109_0s0) : N109_0.nx n (.s0 x) = L109_0 n (.s0 x) := rfl
theorem N109_0.nx_e0 (n : Nat) (x : T109_0e0) : N109_0.nx n (.e0 x) = some (.e0 x) := rfl
noncomputable def D109 (i : LV) (o : Int) : PT A109 :=
  .testB ((↑(List.length i) : Int) == 0)
   (fun h0 =>
   .auto 1 <|
   .ret (.a0 false 0 ([]))
   )
   (fun h0 =>
   .cut E109_0 (L109_0_ok 18446744073709551616 (.s0 (.mk i o (w64 ((↑(List.length i) : Int) - 1)))) rfl) fun (r : N109_0) => match r with
   | .e0 (.mk f p a) =>
    .testB (a == -1)
     (fun h1 =>
     .auto 1 <|
     .look RW100 (f[(0 : Nat)]?) fun l =>
     .ask E170 (F170_ok l.c1 l.c2) fun (r : A170) => match r with
     | .a0 q s t =>
      .auto 1 <|
      .ret (.a0 q s t)
     )
     (fun h1 =>
     .testB (a == w64 ((↑(List.length f) : Int) - 1))
      (fun h2 =>
      .test (0 ≤ a)
       (fun h3 =>
       .look RW100 (f[Int.toNat a]?) fun m =>
       .ask E170 (F170_ok m.c1 m.c2) fun (r : A170) => match r with
       | .a0 u v w =>
        .auto 1 <|
        .ret (.a0 u v w)
       )
       (fun _ => .fail)
      )
      (fun h2 =>
      .test (0 ≤ a)
       (fun h3 =>
       .look RW100 (f[Int.toNat a]?) fun d =>
       .test (0 ≤ w64 (a + 1))
        (fun h4 =>
        .look RW100 (f[Int.toNat (w64 (a + (1 : Int)))]?) fun j =>
        .auto 8 <|
        .ask E136 (F136_ok d.c0 j.c0 p) fun (r : A136) => match r with
        | .a0 y =>
         .ask E135 (F135_ok d.c3 d.c4 d.c5 d.c6 d.c7 y) fun (r : A135) => match r with
         | .a0 z =>
          .ask E171 (F171_ok d.c1 d.c2 j.c1 j.c2 z) fun (r : A171) => match r with
          | .a0 d0 d1 d2 =>
           .auto 1 <|
           .ret (.a0 d0 d1 d2)
        )
        (fun _ => .fail)
       )
       (fun _ => .fail)
      )
     )
   | _ => .fail
   )
noncomputable def F109 (a : LV) (d : Int) : Option A109 := (D109 a d).ev some
theorem F109_ok (a : LV) (d : Int) : ∀ b, F109 a d = some b → UU 109 ([lS 8 a, i64 d]) ([]) = some (A109.out b) :=
  fn_ok (E := E109) (L := notIn []) rfl rfl (fun x => by kernel_rfl)
/-! ## F51 -/
noncomputable def D51 (a j : Int) (l m o : LV) (d3 : Bool) (d4 d5 d6 d7 d8 d9 f0 f1 f2 f3 f4 f5 f6 f7 f8 : Int) (f9 : LV) (j0 : Bool) (j1 : LV) (j2 j3 j4 j5 j6 : Int) (j7 j8 j9 : LV) (d : Int) : PT A51 :=
  .auto 1 <|
  .ask E72 (F72_ok l d 0) fun (r : A72) => match r with
  | .a0 f =>
   .auto 1 <|
   .ask E72 (F72_ok m d 0) fun (r : A72) => match r with
   | .a0 i =>
    .auto 1 <|
    .testB (a == 0)
     (fun h0 =>
     .ask E63 (F63_ok f i) fun (r : A63) => match r with
     | .a0 p q s =>
      .auto 1 <|
      .ret (.a0 p q s)
     )
     (fun h0 =>
     .testB (a == 1)
      (fun h1 =>
      .ask E65 (F65_ok f i) fun (r : A65) => match r with
      | .a0 t u v =>
       .auto 1 <|
       .ret (.a0 t u v)
      )
      (fun h1 =>
      .testB (a == 2)
       (fun h2 =>
       .auto 1 <|
       .ask E67 (F67_ok j f i) fun (r : A67) => match r with
       | .a0 w y z =>
        .auto 1 <|
        .ret (.a0 w y z)
       )
       (fun h2 =>
       .testB (a == 3)
        (fun h3 =>
        .auto 1 <|
        .ask E109 (F109_ok o d) fun (r : A109) => match r with
        | .a0 d0 d1 d2 =>
         .auto 1 <|
         .ret (.a0 d0 d1 d2)
        )
        (fun h3 =>
        .auto 1 <|
        .ret (.a0 false 0 ([]))
        )
       )
      )
     )
noncomputable def F51 (a d : Int) (f i j : LV) (l : Bool) (m o p q s t u v w y z d0 d1 d2 d3 : Int) (d4 : LV) (d5 : Bool) (d6 : LV) (d7 d8 d9 f0 f1 : Int) (f2 f3 f4 : LV) (f5 : Int) : Option A51 := (D51 a d f i j l m o p q s t u v w y z d0 d1 d2 d3 d4 d5 d6 d7 d8 d9 f0 f1 f2 f3 f4 f5).ev some
theorem F51_ok (a d : Int) (f i j : LV) (l : Bool) (m o p q s t u v w y z d0 d1 d2 d3 : Int) (d4 : LV) (d5 : Bool) (d6 : LV) (d7 d8 d9 f0 f1 : Int) (f2 f3 f4 : LV) (f5 : Int) : ∀ b, F51 a d f i j l m o p q s t u v w y z d0 d1 d2 d3 d4 d5 d6 d7 d8 d9 f0 f1 f2 f3 f4 f5 = some b → UU 51 ([V.agg [i64 a, i64 d, lS 7 f, lS 7 i, lS 8 j, vb l, i64 m, i64 o, u8 p, u8 q, u8 s, u8 t, u8 u, u8 v, u8 w, u8 y, i64 z, i64 d0, i64 d1, i64 d2, i64 d3, lS 10 d4, vb d5, lS 7 d6, u8 d7, u8 d8, u8 d9, u8 f0, i64 f1, lS 1 f2, lS 7 f3, lS 7 f4], i64 f5]) ([]) = some (A51.out b) :=
  fn_ok (E := E51) (L := notIn []) rfl rfl (fun x => by kernel_rfl)
/-! ## F146 -/
noncomputable def D146 (d : Bool) (a : LV) : PT Bool :=
  .auto 1 <|
  .ret ((↑(List.length a) : Int) == 0)
@[reducible] def O146 (a : Bool) : V × Store := (vb a, [])
noncomputable def F146 (a : Bool) (d : LV) : Bool := (D146 a d).evT
theorem F146_ok (a : Bool) (d : LV) : UU 146 ([V.agg [vb a, lS 2 d]]) ([]) = some (O146 (F146 a d)) :=
  fnT_ok (out := O146) (L := notIn []) rfl rfl (fun x => by kernel_rfl) (by simp [D146, PT.isT])
/-! ## F228 -/
noncomputable def D228 (a : Int) : PT Bool :=
  .test (a ≥ -67108864)
   (fun h0 =>
   .auto 2 <|
   .ret (decide (a ≤ 67108864))
   )
   (fun h0 =>
   .auto 2 <|
   .ret false
   )
@[reducible] def O228 (a : Bool) : V × Store := (vb a, [])
noncomputable def F228 (a : Int) : Bool := (D228 a).evT
theorem F228_ok (a : Int) : UU 228 ([i64 a]) ([]) = some (O228 (F228 a)) :=
  fnT_ok (out := O228) (L := notIn []) rfl rfl (fun x => by kernel_rfl) (by simp [D228, PT.isT])
/-! ## F227 -/
noncomputable def D227 (a d : Int) : PT Bool :=
  .auto 1 <|
  .tot O228 (F228_ok a) fun f =>
  .testB (!f)
   (fun h0 =>
   .auto 4 <|
   .ret true
   )
   (fun h0 =>
   .auto 3 <|
   .tot O228 (F228_ok d) fun i =>
   .auto 2 <|
   .ret (!i)
   )
@[reducible] def O227 (a : Bool) : V × Store := (vb a, [])
noncomputable def F227 (a d : Int) : Bool := (D227 a d).evT
theorem F227_ok (a d : Int) : UU 227 ([V.agg [i64 a, i64 d]]) ([]) = some (O227 (F227 a d)) :=
  fnT_ok (out := O227) (L := notIn []) rfl rfl (fun x => by kernel_rfl) (by simp [D227, PT.isT])
/-! ## F262 -/
noncomputable abbrev B262 : Code := (Tryz.f262.body).getD .skip
inductive T262_0s0 where
  | mk (a : LV) (d f : Int)
inductive T262_0e0 where
  | mk (a : Int)
inductive N262_0 where
  | s0 (x : T262_0s0)
  | e0 (x : T262_0e0)
  | e1
@[reducible] def N262_0.out : N262_0 → VX × S
  | .s0 (.mk a d f) => (vN, S.mk (lS 2 a :: V.fn 227 [] :: un 5 (i64 d :: i64 f :: un 10 [])) [])
  | .e0 (.mk i) => (VX.ret, S.mk (un 4 (i64 i :: un 14 [])) [])
  | .e1 => (vX 0, S.mk (un 19 []) [])
abbrev E262_0 : Ent (VX × S) := ⟨N262_0, N262_0.out, fun g => (∃ x, g (.s0 x)) ∨ (∃ x, g (.e0 x)) ∨ g .e1, fun g => ⟨fun h => match h with
  | .inl ⟨_, h⟩ => ⟨_, h⟩
  | .inr (.inl ⟨_, h⟩) => ⟨_, h⟩
  | .inr (.inr h) => ⟨_, h⟩, fun ⟨b, h⟩ => match b, h with
  | .s0 _, h => .inl ⟨_, h⟩
  | .e0 _, h => .inr (.inl ⟨_, h⟩)
  | .e1, h => .inr (.inr h)⟩⟩
noncomputable def D262_0 : T262_0s0 → PT N262_0
  | .mk d f a =>
   .test (a < f)
    (fun h0 =>
    .test (0 ≤ a)
     (fun h1 =>
     .look RW28 (d[Int.toNat a]?) fun i =>
     .tot O227 (F227_ok i.c0 i.c1) fun j =>
     .testB j
      (fun h2 =>
      .ret (.e0 (.mk a))
      )
      (fun h2 =>
      .ret (.s0 (.mk d f (w64 (a + 1))))
      )
     )
     (fun _ => .fail)
    )
    (fun h0 =>
    .ret .e1
    )
noncomputable def S262_0 : N262_0 → PT N262_0
  | .s0 x => D262_0 x
  | _ => .fail
def N262_0.off : N262_0 → Bool
  | .s0 _ => false
  | _ => true
noncomputable def L262_0 (n : Nat) (b : N262_0) : Option N262_0 := PT.loop S262_0 N262_0.off n b
theorem L262_0_ok : ∀ (n : Nat) (b : N262_0), N262_0.off b = false → ∀ c, L262_0 n b = some c → loopP Tryz.prog X CC 262 0 18446744073709551616 B262 0 n (E262_0.out b).2 = some (E262_0.out c) :=
  loop_ok (E := E262_0) (step := S262_0) (L := notIn []) (fun b hb => by cases b <;> first | (cases hb; done) | (rename_i x; cases x; intro x; kernel_rfl) | (intro x; kernel_rfl)) (fun b => by cases b <;> rfl)
noncomputable def N262_0.nx (n : Nat) (c : N262_0) : Option N262_0 := match N262_0.off c with
  | true => some c
  | false => L262_0 n c
theorem L262_0_s0 (n : Nat) (x : T262_0s0) : L262_0 (n + 1) (.s0 x) = (D262_0 x).ev (N262_0.nx n) := rfl
theorem N262_0.nx_s0 (n : Nat) (x : T262_0s0) : N262_0.nx n (.s0 x) = L262_0 n (.s0 x) := rfl
theorem N262_0.nx_e0 (n : Nat) (x : T262_0e0) : N262_0.nx n (.e0 x) = some (.e0 x) := rfl
theorem N262_0.nx_e1 (n : Nat) : N262_0.nx n .e1 = some .e1 := rfl
noncomputable def D262 (a : LV) : PT A262 :=
  .cut E262_0 (L262_0_ok 18446744073709551616 (.s0 (.mk a ((↑(List.length a) : Int)) 0)) rfl) fun (r : N262_0) => match r with
  | .e0 (.mk d) =>
   .ret (.a0 d)
  | .e1 =>
   .ret (.a0 (-1))
  | _ => .fail
noncomputable def F262 (a : LV) : Option A262 := (D262 a).ev some
theorem F262_ok (a : LV) : ∀ b, F262 a = some b → UU 262 ([lS 2 a, V.fn 227 []]) ([]) = some (A262.out b) :=
  fn_ok (E := E262) (L := notIn []) rfl rfl (fun x => by kernel_rfl)
/-! ## F226 -/
noncomputable def D226 (a : LV) : PT A226 :=
  .ask E262 (F262_ok a) fun (r : A262) => match r with
  | .a0 d =>
   .ret (.a0 (decide (d ≥ 0)))
noncomputable def F226 (a : LV) : Option A226 := (D226 a).ev some
theorem F226_ok (a : LV) : ∀ b, F226 a = some b → UU 226 ([lS 2 a, V.fn 227 []]) ([]) = some (A226.out b) :=
  fn_ok (E := E226) (L := notIn []) rfl rfl (fun x => by kernel_rfl)
/-! ## F177 -/
noncomputable def D177 (d : Bool) (a : LV) : PT A177 :=
  .auto 1 <|
  .testB ((↑(List.length a) : Int) == 0)
   (fun h0 =>
   .auto 1 <|
   .ret (.a0 (!d))
   )
   (fun h0 =>
   .test ((↑(List.length a) : Int) ≥ 4)
    (fun h1 =>
    .auto 2 <|
    .test ((↑(List.length a) : Int) ≤ 97)
     (fun h2 =>
     .auto 4 <|
     .testB (Int.tmod (↑(List.length a) : Int) 3 == 1)
      (fun h3 =>
      .auto 3 <|
      .ask E226 (F226_ok a) fun (r : A226) => match r with
      | .a0 f =>
       .auto 2 <|
       .ret (.a0 (!f))
      )
      (fun h3 =>
      .auto 4 <|
      .ret (.a0 false)
      )
     )
     (fun h2 =>
     .auto 8 <|
     .ret (.a0 false)
     )
    )
    (fun h1 =>
    .auto 11 <|
    .ret (.a0 false)
    )
   )
noncomputable def F177 (a : Bool) (d : LV) : Option A177 := (D177 a d).ev some
theorem F177_ok (a : Bool) (d : LV) : ∀ b, F177 a d = some b → UU 177 ([V.agg [vb a, lS 2 d]]) ([]) = some (A177.out b) :=
  fn_ok (E := E177) (L := notIn []) rfl rfl (fun x => by kernel_rfl)
/-! ## F283 -/
noncomputable def D283 (a d : Int) : PT Int :=
  .auto 1 <|
  .ret (w64 (w64 (↑(BitVec.toNat (BitVec.ofInt (IntKind.bits IntKind.i64) a &&& BitVec.ofInt (IntKind.bits IntKind.i64) d)) : Int) + Int.fdiv (w64 (↑(BitVec.toNat (BitVec.ofInt (IntKind.bits IntKind.i64) a ^^^ BitVec.ofInt (IntKind.bits IntKind.i64) d)) : Int)) 2))
@[reducible] def O283 (a : Int) : V × Store := (i64 a, [])
noncomputable def F283 (a d : Int) : Int := (D283 a d).evT
theorem F283_ok (a d : Int) : UU 283 ([i64 a, i64 d]) ([]) = some (O283 (F283 a d)) :=
  fnT_ok (out := O283) (L := notIn []) rfl rfl (fun x => by kernel_rfl) (by simp [D283, PT.isT])
/-! ## F264 -/
noncomputable def D264 (a d f i : Int) : PT A264 :=
  .auto 2 <|
  .tot O283 (F283_ok a f) fun j =>
  .auto 2 <|
  .tot O283 (F283_ok d i) fun l =>
  .auto 1 <|
  .ret (.a0 j l)
noncomputable def F264 (a d f i : Int) : Option A264 := (D264 a d f i).ev some
theorem F264_ok (a d f i : Int) : ∀ b, F264 a d f i = some b → UU 264 ([V.agg [i64 a, i64 d], V.agg [i64 f, i64 i]]) ([]) = some (A264.out b) :=
  fn_ok (E := E264) (L := notIn []) rfl rfl (fun x => by kernel_rfl)
/-! ## F232v1 -/
noncomputable def D232v1 (rF232v1 : Nat → Int → Int → Int → Int → Int → Int → Int → Int → Int → LV → Option A232v1) (hF232v1 : ∀ (a : Nat) (l m o p q s d f i : Int) (j : LV) (b : A232v1), rF232v1 a l m o p q s d f i j = some b → UU 232 ([hS 0 a, V.agg [i64 l, i64 m], V.agg [i64 o, i64 p], V.agg [i64 q, i64 s], V.agg [i64 d, i64 f], i64 i]) ([oT 2 j]) = some (A232v1.out b)) (a : Nat) (l m o p q s d f i : Int) (j : LV) : PT A232v1 :=
  .testB (i == 0)
   (fun h0 =>
   .auto 2 <|
   .test (0 + a ≤ List.length j ∧ (a + 1) * 16 ≤ 140737488355328 ∧ a + 1 ≤ 140737488355328)
    (fun h1 =>
    .ret (.a0 (a + 1) (List.take a j ++ [[i64 d, i64 f]]))
    )
    (fun _ => .fail)
   )
   (fun h0 =>
   .auto 2 <|
   .ask E264 (F264_ok l m o p) fun (r : A264) => match r with
   | .a0 t u =>
    .auto 2 <|
    .ask E264 (F264_ok o p q s) fun (r : A264) => match r with
    | .a0 v w =>
     .auto 2 <|
     .ask E264 (F264_ok q s d f) fun (r : A264) => match r with
     | .a0 y z =>
      .auto 5 <|
      .ask E264 (F264_ok t u v w) fun (r : A264) => match r with
      | .a0 d0 d1 =>
       .auto 2 <|
       .ask E264 (F264_ok v w y z) fun (r : A264) => match r with
       | .a0 d2 d3 =>
        .auto 4 <|
        .ask E264 (F264_ok d0 d1 d2 d3) fun (r : A264) => match r with
        | .a0 d4 d5 =>
         .auto 5 <|
         .ask E232v1 (hF232v1 a l m t u d0 d1 d4 d5 (w64 (i - 1)) j) fun (r : A232v1) => match r with
         | .a0 d6 d7 =>
          .auto 4 <|
          .ask E232v1 (hF232v1 d6 d4 d5 d2 d3 y z d f (w64 (i - 1)) d7) fun (r : A232v1) => match r with
          | .a0 d8 d9 =>
           .ret (.a0 d8 d9)
   )
theorem D232v1_ok (rF232v1 : Nat → Int → Int → Int → Int → Int → Int → Int → Int → Int → LV → Option A232v1) (hF232v1 : ∀ (a : Nat) (d f i j l m o p q : Int) (s : LV) (b : A232v1), rF232v1 a d f i j l m o p q s = some b → UU 232 ([hS 0 a, V.agg [i64 d, i64 f], V.agg [i64 i, i64 j], V.agg [i64 l, i64 m], V.agg [i64 o, i64 p], i64 q]) ([oT 2 s]) = some (A232v1.out b)) (a : Nat) (d f i j l m o p q : Int) (s : LV) : ∀ b, (D232v1 rF232v1 hF232v1 a d f i j l m o p q s).ev some = some b → UU 232 ([hS 0 a, V.agg [i64 d, i64 f], V.agg [i64 i, i64 j], V.agg [i64 l, i64 m], V.agg [i64 o, i64 p], i64 q]) ([oT 2 s]) = some (A232v1.out b) :=
  fn_ok (E := E232v1) (L := notIn []) rfl rfl (fun x => by kernel_rfl)
noncomputable def G232v1 : Nat → { r : Nat → Int → Int → Int → Int → Int → Int → Int → Int → Int → LV → Option A232v1 // ∀ (a : Nat) (d f i j l m o p q : Int) (s : LV) (b : A232v1), r a d f i j l m o p q s = some b → UU 232 ([hS 0 a, V.agg [i64 d, i64 f], V.agg [i64 i, i64 j], V.agg [i64 l, i64 m], V.agg [i64 o, i64 p], i64 q]) ([oT 2 s]) = some (A232v1.out b) }
  | 0 => ⟨fun _ _ _ _ _ _ _ _ _ _ _ => none, fun _ _ _ _ _ _ _ _ _ _ _ _ h => by cases h⟩
  | n + 1 => ⟨fun a d f i j l m o p q s => (D232v1 (G232v1 n).1 (G232v1 n).2 a d f i j l m o p q s).ev some, fun a d f i j l m o p q s => D232v1_ok (G232v1 n).1 (G232v1 n).2 a d f i j l m o p q s⟩
noncomputable def F232v1 (n a : Nat) (d f i j l m o p q : Int) (s : LV) : Option A232v1 := (G232v1 n).1 a d f i j l m o p q s
theorem F232v1_ok (n a : Nat) (d f i j l m o p q : Int) (s : LV) : ∀ b, F232v1 n a d f i j l m o p q s = some b → UU 232 ([hS 0 a, V.agg [i64 d, i64 f], V.agg [i64 i, i64 j], V.agg [i64 l, i64 m], V.agg [i64 o, i64 p], i64 q]) ([oT 2 s]) = some (A232v1.out b) := (G232v1 n).2 a d f i j l m o p q s
theorem F232v1_succ (n a : Nat) (d f i j l m o p q : Int) (s : LV) : F232v1 (n + 1) a d f i j l m o p q s = (D232v1 (F232v1 n) (F232v1_ok n) a d f i j l m o p q s).ev some := rfl
/-! ## F232 -/
noncomputable def D232 (rF232 : Int → Int → Int → Int → Int → Int → Int → Int → Int → Option A232) (hF232 : ∀ (i j l m o p a d f : Int) (b : A232), rF232 i j l m o p a d f = some b → UU 232 ([V.nilS, V.agg [i64 i, i64 j], V.agg [i64 l, i64 m], V.agg [i64 o, i64 p], V.agg [i64 a, i64 d], i64 f]) ([]) = some (A232.out b)) (i j l m o p a d f : Int) : PT A232 :=
  .testB (f == 0)
   (fun h0 =>
   .auto 3 <|
   .ret (.a0 1 ([[i64 a, i64 d]]))
   )
   (fun h0 =>
   .auto 2 <|
   .ask E264 (F264_ok i j l m) fun (r : A264) => match r with
   | .a0 q s =>
    .auto 2 <|
    .ask E264 (F264_ok l m o p) fun (r : A264) => match r with
    | .a0 t u =>
     .auto 2 <|
     .ask E264 (F264_ok o p a d) fun (r : A264) => match r with
     | .a0 v w =>
      .auto 5 <|
      .ask E264 (F264_ok q s t u) fun (r : A264) => match r with
      | .a0 y z =>
       .auto 2 <|
       .ask E264 (F264_ok t u v w) fun (r : A264) => match r with
       | .a0 d0 d1 =>
        .auto 4 <|
        .ask E264 (F264_ok y z d0 d1) fun (r : A264) => match r with
        | .a0 d2 d3 =>
         .auto 5 <|
         .ask E232 (hF232 i j q s y z d2 d3 (w64 (f - 1))) fun (r : A232) => match r with
         | .a0 d4 d5 =>
          .auto 4 <|
          .ask E232v1 (F232v1_ok 100000 d4 d2 d3 d0 d1 v w a d (w64 (f - 1)) d5) fun (r : A232v1) => match r with
          | .a0 d6 d7 =>
           .ret (.a0 d6 d7)
   )
theorem D232_ok (rF232 : Int → Int → Int → Int → Int → Int → Int → Int → Int → Option A232) (hF232 : ∀ (a d f i j l m o p : Int) (b : A232), rF232 a d f i j l m o p = some b → UU 232 ([V.nilS, V.agg [i64 a, i64 d], V.agg [i64 f, i64 i], V.agg [i64 j, i64 l], V.agg [i64 m, i64 o], i64 p]) ([]) = some (A232.out b)) (a d f i j l m o p : Int) : ∀ b, (D232 rF232 hF232 a d f i j l m o p).ev some = some b → UU 232 ([V.nilS, V.agg [i64 a, i64 d], V.agg [i64 f, i64 i], V.agg [i64 j, i64 l], V.agg [i64 m, i64 o], i64 p]) ([]) = some (A232.out b) :=
  fn_ok (E := E232) (L := notIn []) rfl rfl (fun x => by kernel_rfl)
noncomputable def G232 : Nat → { r : Int → Int → Int → Int → Int → Int → Int → Int → Int → Option A232 // ∀ (a d f i j l m o p : Int) (b : A232), r a d f i j l m o p = some b → UU 232 ([V.nilS, V.agg [i64 a, i64 d], V.agg [i64 f, i64 i], V.agg [i64 j, i64 l], V.agg [i64 m, i64 o], i64 p]) ([]) = some (A232.out b) }
  | 0 => ⟨fun _ _ _ _ _ _ _ _ _ => none, fun _ _ _ _ _ _ _ _ _ _ h => by cases h⟩
  | n + 1 => ⟨fun a d f i j l m o p => (D232 (G232 n).1 (G232 n).2 a d f i j l m o p).ev some, fun a d f i j l m o p => D232_ok (G232 n).1 (G232 n).2 a d f i j l m o p⟩
noncomputable def F232 (n : Nat) (a d f i j l m o p : Int) : Option A232 := (G232 n).1 a d f i j l m o p
theorem F232_ok (n : Nat) (a d f i j l m o p : Int) : ∀ b, F232 n a d f i j l m o p = some b → UU 232 ([V.nilS, V.agg [i64 a, i64 d], V.agg [i64 f, i64 i], V.agg [i64 j, i64 l], V.agg [i64 m, i64 o], i64 p]) ([]) = some (A232.out b) := (G232 n).2 a d f i j l m o p
theorem F232_succ (n : Nat) (a d f i j l m o p : Int) : F232 (n + 1) a d f i j l m o p = (D232 (F232 n) (F232_ok n) a d f i j l m o p).ev some := rfl
/-! ## F192 -/
noncomputable def D192 (a d f i j l m o : Int) : PT A192 :=
  .auto 4 <|
  .ask E232 (F232_ok 100000 a d f i j l m o 3) fun (r : A232) => match r with
  | .a0 p q =>
   .ret (.a0 p q)
noncomputable def F192 (a d f i j l m o : Int) : Option A192 := (D192 a d f i j l m o).ev some
theorem F192_ok (a d f i j l m o : Int) : ∀ b, F192 a d f i j l m o = some b → UU 192 ([V.agg [i64 a, i64 d], V.agg [i64 f, i64 i], V.agg [i64 j, i64 l], V.agg [i64 m, i64 o]]) ([]) = some (A192.out b) :=
  fn_ok (E := E192) (L := notIn []) rfl rfl (fun x => by kernel_rfl)
/-! ## F138 -/
noncomputable abbrev B138 : Code := (Tryz.f138.body).getD .skip
inductive T138_r8s0 where
  | mk (a : Nat) (d : Int) (f : Bool) (i j : LV) (l m o p q s t u : Int)
@[reducible] def T138_r8s0.st : T138_r8s0 → S
  | .mk a d f i j l m o p q s t u => S.mk (U :: pT 0 :: pT 1 :: hS 2 a :: i64 d :: pT 3 :: pT 4 :: pT 5 :: pT 6 :: un 69 []) [oF 2 [[vb f, lS 2 i]], oF 2 [[vb false, hS 7 0]], oT 2 j, oF 2 [[i64 l, i64 m]], oF 2 [[i64 o, i64 p]], oF 2 [[i64 q, i64 s]], oF 2 [[i64 t, i64 u]], oT 2 []]
inductive T138_r8e0 where
  | mk (a : Nat) (d : Int) (f i : Bool) (j l : LV) (m o p q s t u v : Int)
inductive N138_r8 where
  | e0 (x : T138_r8e0)
@[reducible] def N138_r8.out : N138_r8 → VX × S
  | .e0 (.mk a d f i j l m o p q s t u v) => (vN, S.mk (U :: pT 0 :: pT 1 :: hS 2 a :: i64 d :: pT 3 :: pT 4 :: pT 5 :: pT 6 :: un 53 (vb f :: un 15 [])) [oF 2 [[vb i, lS 2 j]], oF 2 [[vb false, hS 7 0]], oT 2 l, oF 2 [[i64 m, i64 o]], oF 2 [[i64 p, i64 q]], oF 2 [[i64 s, i64 t]], oF 2 [[i64 u, i64 v]], oT 2 []])
abbrev E138_r8 : Ent (VX × S) := ⟨N138_r8, N138_r8.out, fun g => (∃ x, g (.e0 x)), fun g => ⟨fun h => match h with
  | ⟨_, h⟩ => ⟨_, h⟩, fun ⟨b, h⟩ => match b, h with
  | .e0 _, h => ⟨_, h⟩⟩⟩
noncomputable def D138_r8 : T138_r8s0 → PT N138_r8
  | .mk p q s t u a d f i j l m o =>
   .auto 2 <|
   .testB (f == a && (i == d && true))
    (fun h0 =>
    .auto 5 <|
    .ret (.e0 (.mk p q (j == m && (l == o && true)) s t u a d f i j l m o))
    )
    (fun h0 =>
    .auto 3 <|
    .ret (.e0 (.mk p q false s t u a d f i j l m o))
    )
noncomputable def J138_r8 (y : T138_r8s0) : Option N138_r8 := (D138_r8 y).ev some
theorem J138_r8_ok (y : T138_r8s0) : ∀ b, J138_r8 y = some b → regP Tryz.prog X CC 138 0 B138 8 y.st = some (E138_r8.out b) := by
  cases y; exact reg_ok (E := E138_r8) (fun x => by kernel_rfl)
inductive T138_0s0 where
  | mk (a : Nat) (d : Int) (f : Bool) (i j : LV)
inductive T138_0e0 where
  | mk (a : Nat) (d : Bool) (f i : LV)
inductive N138_0 where
  | s0 (x : T138_0s0)
  | e0 (x : T138_0e0)
@[reducible] def N138_0.out : N138_0 → VX × S
  | .s0 (.mk a d f i j) => (vN, S.mk (U :: pT 0 :: pT 1 :: hS 2 a :: i64 d :: un 73 []) [oF 2 [[vb f, lS 2 i]], oF 2 [[vb false, hS 3 0]], oT 2 j, oT 2 []])
  | .e0 (.mk l m o p) => (vX 0, S.mk (U :: pT 0 :: pT 1 :: hS 2 l :: un 74 []) [oF 2 [[vb m, lS 2 o]], oF 2 [[vb false, hS 3 0]], oT 2 p, oT 2 []])
abbrev E138_0 : Ent (VX × S) := ⟨N138_0, N138_0.out, fun g => (∃ x, g (.s0 x)) ∨ (∃ x, g (.e0 x)), fun g => ⟨fun h => match h with
  | .inl ⟨_, h⟩ => ⟨_, h⟩
  | .inr (⟨_, h⟩) => ⟨_, h⟩, fun ⟨b, h⟩ => match b, h with
  | .s0 _, h => .inl ⟨_, h⟩
  | .e0 _, h => .inr (⟨_, h⟩)⟩⟩
noncomputable def D138_0 : T138_0s0 → PT N138_0
  | .mk m a o f p =>
   .auto 1 <|
   .test (w64 (a + 3) < (↑(List.length f) : Int))
    (fun h0 =>
    .auto 1 <|
    .test (0 ≤ a)
     (fun h1 =>
     .look RW28 (f[Int.toNat a]?) fun q =>
     .auto 1 <|
     .test (0 ≤ w64 (a + 1))
      (fun h2 =>
      .look RW28 (f[Int.toNat (w64 (a + (1 : Int)))]?) fun s =>
      .auto 1 <|
      .test (0 ≤ w64 (a + 2))
       (fun h3 =>
       .look RW28 (f[Int.toNat (w64 (a + (2 : Int)))]?) fun t =>
       .auto 1 <|
       .test (0 ≤ w64 (a + 3))
        (fun h4 =>
        .look RW28 (f[Int.toNat (w64 (a + (3 : Int)))]?) fun u =>
        .auto 4 <|
        .cut E138_r8 (J138_r8_ok (.mk m a o f p q.c0 q.c1 s.c0 s.c1 t.c0 t.c1 u.c0 u.c1)) fun (r : N138_r8) => match r with
        | .e0 (.mk d v d1 w y l d2 d3 d4 d5 d6 d7 z d0) =>
         .testB d1
          (fun h5 =>
          .auto 2 <|
          .test (0 + d ≤ List.length l ∧ (d + 1) * 16 ≤ 140737488355328 ∧ d + 1 ≤ 140737488355328)
           (fun h6 =>
           .ret (.s0 (.mk (d + 1) (w64 (v + 3)) w y (List.take d l ++ [[i64 z, i64 d0]])))
           )
           (fun _ => .fail)
          )
          (fun h5 =>
          .auto 4 <|
          .ask E192 (F192_ok d2 d3 d4 d5 d6 d7 z d0) fun (r : A192) => match r with
          | .a0 i j =>
           .test (0 + i ≤ List.length j)
            (fun h6 =>
            .test (0 + d ≤ List.length l ∧ (d + List.length (List.take i j)) * 16 ≤ 140737488355328 ∧ d + List.length (List.take i j) ≤ 140737488355328)
             (fun h7 =>
             .ret (.s0 (.mk (d + List.length (List.take i j)) (w64 (v + 3)) w y (List.take d l ++ List.take i j)))
             )
             (fun _ => .fail)
            )
            (fun _ => .fail)
          )
        )
        (fun _ => .fail)
       )
       (fun _ => .fail)
      )
      (fun _ => .fail)
     )
     (fun _ => .fail)
    )
    (fun h0 =>
    .ret (.e0 (.mk m o f p))
    )
noncomputable def S138_0 : N138_0 → PT N138_0
  | .s0 x => D138_0 x
  | _ => .fail
def N138_0.off : N138_0 → Bool
  | .s0 _ => false
  | _ => true
noncomputable def L138_0 (n : Nat) (b : N138_0) : Option N138_0 := PT.loop S138_0 N138_0.off n b
theorem L138_0_ok : ∀ (n : Nat) (b : N138_0), N138_0.off b = false → ∀ c, L138_0 n b = some c → loopP Tryz.prog X CC 138 0 18446744073709551616 B138 0 n (E138_0.out b).2 = some (E138_0.out c) :=
  loop_ok (E := E138_0) (step := S138_0) (L := notIn []) (fun b hb => by cases b <;> first | (cases hb; done) | (rename_i x; cases x; intro x; kernel_rfl) | (intro x; kernel_rfl)) (fun b => by cases b <;> rfl)
noncomputable def N138_0.nx (n : Nat) (c : N138_0) : Option N138_0 := match N138_0.off c with
  | true => some c
  | false => L138_0 n c
theorem L138_0_s0 (n : Nat) (x : T138_0s0) : L138_0 (n + 1) (.s0 x) = (D138_0 x).ev (N138_0.nx n) := rfl
theorem N138_0.nx_s0 (n : Nat) (x : T138_0s0) : N138_0.nx n (.s0 x) = L138_0 n (.s0 x) := rfl
theorem N138_0.nx_e0 (n : Nat) (x : T138_0e0) : N138_0.nx n (.e0 x) = some (.e0 x) := rfl
inductive T138_r1s0 where
  | mk (a : Bool) (d : LV)
@[reducible] def T138_r1s0.st : T138_r1s0 → S
  | .mk a d => S.mk (U :: pT 0 :: pT 1 :: un 75 []) [oF 2 [[vb a, lS 2 d]], oF 2 [[vb false, hS 2 0]], oT 2 []]
inductive T138_r1e0 where
  | mk (a d : Bool) (f : LV)
inductive N138_r1 where
  | e0 (x : T138_r1e0)
@[reducible] def N138_r1.out : N138_r1 → VX × S
  | .e0 (.mk a d f) => (vN, S.mk (U :: pT 0 :: pT 1 :: un 12 (vb a :: un 62 [])) [oF 2 [[vb d, lS 2 f]], oF 2 [[vb false, hS 2 0]], oT 2 []])
abbrev E138_r1 : Ent (VX × S) := ⟨N138_r1, N138_r1.out, fun g => (∃ x, g (.e0 x)), fun g => ⟨fun h => match h with
  | ⟨_, h⟩ => ⟨_, h⟩, fun ⟨b, h⟩ => match b, h with
  | .e0 _, h => ⟨_, h⟩⟩⟩
noncomputable def D138_r1 : T138_r1s0 → PT N138_r1
  | .mk a d =>
   .auto 1 <|
   .tot O146 (F146_ok a d) fun f =>
   .testB f
    (fun h0 =>
    .auto 3 <|
    .ret (.e0 (.mk true a d))
    )
    (fun h0 =>
    .auto 2 <|
    .ask E177 (F177_ok a d) fun (r : A177) => match r with
    | .a0 i =>
     .auto 2 <|
     .ret (.e0 (.mk (!i) a d))
    )
noncomputable def J138_r1 (y : T138_r1s0) : Option N138_r1 := (D138_r1 y).ev some
theorem J138_r1_ok (y : T138_r1s0) : ∀ b, J138_r1 y = some b → regP Tryz.prog X CC 138 0 B138 1 y.st = some (E138_r1.out b) := by
  cases y; exact reg_ok (E := E138_r1) (fun x => by kernel_rfl)
noncomputable def D138 (i : Bool) (j : LV) : PT A138 :=
  .cut E138_r1 (J138_r1_ok (.mk i j)) fun (r : N138_r1) => match r with
  | .e0 (.mk l a d) =>
   .testB l
    (fun h0 =>
    .auto 2 <|
    .ret (.a0 a 0 ([]))
    )
    (fun h0 =>
    .auto 2 <|
    .look RW28 (d[(0 : Nat)]?) fun f =>
    .cut E138_0 (L138_0_ok 18446744073709551616 (.s0 (.mk 1 0 a d ([[i64 f.c0, i64 f.c1]]))) rfl) fun (r : N138_0) => match r with
    | .e0 (.mk m o q p) =>
     .auto 2 <|
     .ret (.a0 o m p)
    | _ => .fail
    )
noncomputable def F138 (a : Bool) (d : LV) : Option A138 := (D138 a d).ev some
theorem F138_ok (a : Bool) (d : LV) : ∀ b, F138 a d = some b → UU 138 ([V.agg [vb a, lS 2 d]]) ([]) = some (A138.out b) :=
  fn_ok (E := E138) (L := notIn []) rfl rfl (fun x => by kernel_rfl)
/-! ## F233 -/
noncomputable def D233 (d f i j l m o p q : Int) : PT A233 :=
  .tot O132 (F132_ok q) fun a =>
  .auto 5 <|
  .tot O74 (F74_ok (w64 (w64 d + Int.fdiv (w64 (w64 (w64 l - w64 d) * a)) 65536)) 0 255) fun s =>
  .auto 6 <|
  .tot O74 (F74_ok (w64 (w64 f + Int.fdiv (w64 (w64 (w64 m - w64 f) * a)) 65536)) 0 255) fun t =>
  .auto 6 <|
  .tot O74 (F74_ok (w64 (w64 i + Int.fdiv (w64 (w64 (w64 o - w64 i) * a)) 65536)) 0 255) fun u =>
  .auto 6 <|
  .tot O74 (F74_ok (w64 (w64 j + Int.fdiv (w64 (w64 (w64 p - w64 j) * a)) 65536)) 0 255) fun v =>
  .auto 4 <|
  .ret (.a0 (IntKind.wrap IntKind.u8 s) (IntKind.wrap IntKind.u8 t) (IntKind.wrap IntKind.u8 u) (IntKind.wrap IntKind.u8 v))
noncomputable def F233 (a d f i j l m o p : Int) : Option A233 := (D233 a d f i j l m o p).ev some
theorem F233_ok (a d f i j l m o p : Int) : ∀ b, F233 a d f i j l m o p = some b → UU 233 ([V.agg [u8 a, u8 d, u8 f, u8 i], V.agg [u8 j, u8 l, u8 m, u8 o], i64 p]) ([]) = some (A233.out b) :=
  fn_ok (E := E233) (L := notIn [0]) rfl rfl (fun x => by kernel_rfl)
/-! ## F193 -/
noncomputable abbrev B193 : Code := (Tryz.f193.body).getD .skip
inductive T193_0s0 where
  | mk (a : LV) (d f : Int)
inductive T193_0e0 where
  | mk (a : LV) (d f : Int)
inductive N193_0 where
  | s0 (x : T193_0s0)
  | e0 (x : T193_0e0)
@[reducible] def N193_0.out : N193_0 → VX × S
  | .s0 (.mk a d f) => (vN, S.mk (lS 10 a :: i64 d :: un 4 (pT 0 :: i64 f :: un 64 [])) [oF 4 [[u8 0, u8 0, u8 0, u8 0]]])
  | .e0 (.mk i j l) => (vX 0, S.mk (lS 10 i :: i64 j :: un 4 (pT 0 :: i64 l :: un 64 [])) [oF 4 [[u8 0, u8 0, u8 0, u8 0]]])
abbrev E193_0 : Ent (VX × S) := ⟨N193_0, N193_0.out, fun g => (∃ x, g (.s0 x)) ∨ (∃ x, g (.e0 x)), fun g => ⟨fun h => match h with
  | .inl ⟨_, h⟩ => ⟨_, h⟩
  | .inr (⟨_, h⟩) => ⟨_, h⟩, fun ⟨b, h⟩ => match b, h with
  | .s0 _, h => .inl ⟨_, h⟩
  | .e0 _, h => .inr (⟨_, h⟩)⟩⟩
noncomputable def D193_0 : T193_0s0 → PT N193_0
  | .mk d f a =>
   .test (a ≥ 0)
    (fun h0 =>
    .auto 2 <|
    .test (0 ≤ a)
     (fun h1 =>
     .look RW108 (d[Int.toNat a]?) fun i =>
     .auto 5 <|
     .test (i.c0 > f)
      (fun h2 =>
      .ret (.s0 (.mk d f (w64 (a - 1))))
      )
      (fun h2 =>
      .ret (.e0 (.mk d f a))
      )
     )
     (fun _ => .fail)
    )
    (fun h0 =>
    .auto 8 <|
    .ret (.e0 (.mk d f a))
    )
noncomputable def S193_0 : N193_0 → PT N193_0
  | .s0 x => D193_0 x
  | _ => .fail
def N193_0.off : N193_0 → Bool
  | .s0 _ => false
  | _ => true
noncomputable def L193_0 (n : Nat) (b : N193_0) : Option N193_0 := PT.loop S193_0 N193_0.off n b
theorem L193_0_ok : ∀ (n : Nat) (b : N193_0), N193_0.off b = false → ∀ c, L193_0 n b = some c → loopP Tryz.prog X CC 193 0 18446744073709551616 B193 0 n (E193_0.out b).2 = some (E193_0.out c) :=
  loop_ok (E := E193_0) (step := S193_0) (L := notIn []) (fun b hb => by cases b <;> first | (cases hb; done) | (rename_i x; cases x; intro x; kernel_rfl) | (intro x; kernel_rfl)) (fun b => by cases b <;> rfl)
noncomputable def N193_0.nx (n : Nat) (c : N193_0) : Option N193_0 := match N193_0.off c with
  | true => some c
  | false => L193_0 n c
theorem L193_0_s0 (n : Nat) (x : T193_0s0) : L193_0 (n + 1) (.s0 x) = (D193_0 x).ev (N193_0.nx n) := rfl
theorem N193_0.nx_s0 (n : Nat) (x : T193_0s0) : N193_0.nx n (.s0 x) = L193_0 n (.s0 x) := rfl
theorem N193_0.nx_e0 (n : Nat) (x : T193_0e0) : N193_0.nx n (.e0 x) = some (.e0 x) := rfl
noncomputable def D193 (m : LV) (o p q s t : Int) : PT A193 :=
  .testB ((↑(List.length m) : Int) == 0)
   (fun h0 =>
   .auto 2 <|
   .ret (.a0 p q s t)
   )
   (fun h0 =>
   .cut E193_0 (L193_0_ok 18446744073709551616 (.s0 (.mk m o (w64 ((↑(List.length m) : Int) - 1)))) rfl) fun (r : N193_0) => match r with
   | .e0 (.mk f u d) =>
    .testB (d == -1)
     (fun h1 =>
     .auto 1 <|
     .look RW108 (f[(0 : Nat)]?) fun j =>
     .auto 1 <|
     .ret (.a0 j.c1 j.c2 j.c3 j.c4)
     )
     (fun h1 =>
     .testB (d == w64 ((↑(List.length f) : Int) - 1))
      (fun h2 =>
      .test (0 ≤ d)
       (fun h3 =>
       .look RW108 (f[Int.toNat d]?) fun l =>
       .auto 1 <|
       .ret (.a0 l.c1 l.c2 l.c3 l.c4)
       )
       (fun _ => .fail)
      )
      (fun h2 =>
      .test (0 ≤ d)
       (fun h3 =>
       .look RW108 (f[Int.toNat d]?) fun a =>
       .test (0 ≤ w64 (d + 1))
        (fun h4 =>
        .look RW108 (f[Int.toNat (w64 (d + (1 : Int)))]?) fun i =>
        .auto 8 <|
        .ask E136 (F136_ok a.c0 i.c0 u) fun (r : A136) => match r with
        | .a0 v =>
         .ask E135 (F135_ok a.c5 a.c6 a.c7 a.c8 a.c9 v) fun (r : A135) => match r with
         | .a0 w =>
          .ask E233 (F233_ok a.c1 a.c2 a.c3 a.c4 i.c1 i.c2 i.c3 i.c4 w) fun (r : A233) => match r with
          | .a0 y z d0 d1 =>
           .auto 1 <|
           .ret (.a0 y z d0 d1)
        )
        (fun _ => .fail)
       )
       (fun _ => .fail)
      )
     )
   | _ => .fail
   )
noncomputable def F193 (a : LV) (d f i j l : Int) : Option A193 := (D193 a d f i j l).ev some
theorem F193_ok (a : LV) (d f i j l : Int) : ∀ b, F193 a d f i j l = some b → UU 193 ([lS 10 a, i64 d, V.agg [u8 f, u8 i, u8 j, u8 l]]) ([]) = some (A193.out b) :=
  fn_ok (E := E193) (L := notIn []) rfl rfl (fun x => by kernel_rfl)
/-! ## F241 -/
noncomputable def D241 (a : Int) : PT Int :=
  .tot O74 (F74_ok a (-536870912) 536870912) fun d =>
  .ret d
@[reducible] def O241 (a : Int) : V × Store := (i64 a, [])
noncomputable def F241 (a : Int) : Int := (D241 a).evT
theorem F241_ok (a : Int) : UU 241 ([i64 a]) ([]) = some (O241 (F241 a)) :=
  fnT_ok (out := O241) (L := notIn []) rfl rfl (fun x => by kernel_rfl) (by simp [D241, PT.isT])
/-! ## F198 -/
noncomputable def D198 (a : W59) (d f : Int) : PT A198 :=
  .auto 4 <|
  .ask E137 (F137_ok a.c0 d a.c2 f) fun (r : A137) => match r with
  | .a0 i =>
   .auto 1 <|
   .tot O131 (F131_ok i a.c4) fun j =>
   .tot O241 (F241_ok j) fun l =>
   .auto 4 <|
   .ask E137 (F137_ok a.c1 d a.c3 f) fun (r : A137) => match r with
   | .a0 m =>
    .auto 1 <|
    .tot O131 (F131_ok m a.c5) fun o =>
    .tot O241 (F241_ok o) fun p =>
    .auto 1 <|
    .ret (.a0 l p)
noncomputable def F198 (a : W59) (d f : Int) : Option A198 := (D198 a d f).ev some
theorem F198_ok (a : W59) (d f : Int) : ∀ b, F198 a d f = some b → UU 198 ([V.agg (W59.cells a), V.agg [i64 d, i64 f]]) ([]) = some (A198.out b) :=
  fn_ok (E := E198) (L := notIn []) rfl rfl (fun x => by kernel_rfl)
/-! ## F147 -/
noncomputable abbrev B147 : Code := (Tryz.f147.body).getD .skip
inductive T147_2s0 where
  | mk (a : Nat) (d : LV) (f i : Int) (j : LV) (l m : Int) (o : W59) (p : LV) (q : Bool) (s : Nat) (t : LV)
inductive T147_2e0 where
  | mk (a : Nat) (d : LV) (f i : Int) (j : W59) (l : LV) (m : Bool) (o : Nat) (p : LV)
inductive N147_2 where
  | s0 (x : T147_2s0)
  | e0 (x : T147_2e0)
@[reducible] def N147_2.out : N147_2 → VX × S
  | .s0 (.mk a d f i j l m o p q s t) => (vN, S.mk (U :: U :: pT 0 :: U :: U :: hS 1 a :: U :: U :: pT 2 :: U :: U :: lS 2 d :: i64 f :: i64 i :: un 7 (lS 2 j :: i64 l :: i64 m :: un 18 [])) [oF 6 [W59.cells o], oT 2 p, oF 2 [[vb q, hS 3 s]], oT 2 t])
  | .e0 (.mk u v w y z d0 d1 d2 d3) => (vX 2, S.mk (U :: U :: pT 0 :: U :: U :: hS 1 u :: U :: U :: pT 2 :: U :: U :: lS 2 v :: i64 w :: i64 y :: un 28 []) [oF 6 [W59.cells z], oT 2 d0, oF 2 [[vb d1, hS 3 d2]], oT 2 d3])
abbrev E147_2 : Ent (VX × S) := ⟨N147_2, N147_2.out, fun g => (∃ x, g (.s0 x)) ∨ (∃ x, g (.e0 x)), fun g => ⟨fun h => match h with
  | .inl ⟨_, h⟩ => ⟨_, h⟩
  | .inr (⟨_, h⟩) => ⟨_, h⟩, fun ⟨b, h⟩ => match b, h with
  | .s0 _, h => .inl ⟨_, h⟩
  | .e0 _, h => .inr (⟨_, h⟩)⟩⟩
noncomputable def D147_2 : T147_2s0 → PT N147_2
  | .mk j l m o p q d f s t a i =>
   .test (d < q)
    (fun h0 =>
    .test (0 ≤ d)
     (fun h1 =>
     .look RW28 (p[Int.toNat d]?) fun u =>
     .auto 4 <|
     .ask E198 (F198_ok f u.c0 u.c1) fun (r : A198) => match r with
     | .a0 v w =>
      .auto 1 <|
      .test (0 + a ≤ List.length i ∧ (a + 1) * 16 ≤ 140737488355328 ∧ a + 1 ≤ 140737488355328)
       (fun h2 =>
       .auto 1 <|
       .ret (.s0 (.mk j l m o p q (w64 (d + 1)) f s t (a + 1) (List.take a i ++ [[i64 v, i64 w]])))
       )
       (fun _ => .fail)
     )
     (fun _ => .fail)
    )
    (fun h0 =>
    .ret (.e0 (.mk j l m o f s t a i))
    )
noncomputable def S147_2 : N147_2 → PT N147_2
  | .s0 x => D147_2 x
  | _ => .fail
def N147_2.off : N147_2 → Bool
  | .s0 _ => false
  | _ => true
noncomputable def L147_2 (n : Nat) (b : N147_2) : Option N147_2 := PT.loop S147_2 N147_2.off n b
theorem L147_2_ok : ∀ (n : Nat) (b : N147_2), N147_2.off b = false → ∀ c, L147_2 n b = some c → loopP Tryz.prog X CC 147 0 18446744073709551616 B147 2 n (E147_2.out b).2 = some (E147_2.out c) :=
  loop_ok (E := E147_2) (step := S147_2) (L := notIn []) (fun b hb => by cases b <;> first | (cases hb; done) | (rename_i x; cases x; intro x; kernel_rfl) | (intro x; kernel_rfl)) (fun b => by cases b <;> rfl)
noncomputable def N147_2.nx (n : Nat) (c : N147_2) : Option N147_2 := match N147_2.off c with
  | true => some c
  | false => L147_2 n c
theorem L147_2_s0 (n : Nat) (x : T147_2s0) : L147_2 (n + 1) (.s0 x) = (D147_2 x).ev (N147_2.nx n) := rfl
theorem N147_2.nx_s0 (n : Nat) (x : T147_2s0) : N147_2.nx n (.s0 x) = L147_2 n (.s0 x) := rfl
theorem N147_2.nx_e0 (n : Nat) (x : T147_2e0) : N147_2.nx n (.e0 x) = some (.e0 x) := rfl
inductive T147_0s0 where
  | mk (a : Nat) (d : LV) (f i : Int) (j : W59) (l : LV)
inductive T147_0e0 where
  | mk (a : Nat) (d : LV)
inductive N147_0 where
  | s0 (x : T147_0s0)
  | e0 (x : T147_0e0)
@[reducible] def N147_0.out : N147_0 → VX × S
  | .s0 (.mk a d f i j l) => (vN, S.mk (U :: U :: pT 0 :: U :: U :: hS 1 a :: un 5 (lS 2 d :: i64 f :: i64 i :: un 28 [])) [oF 6 [W59.cells j], oT 2 l])
  | .e0 (.mk m o) => (vX 0, S.mk (un 5 (hS 0 m :: un 36 [])) [oT 2 o])
abbrev E147_0 : Ent (VX × S) := ⟨N147_0, N147_0.out, fun g => (∃ x, g (.s0 x)) ∨ (∃ x, g (.e0 x)), fun g => ⟨fun h => match h with
  | .inl ⟨_, h⟩ => ⟨_, h⟩
  | .inr (⟨_, h⟩) => ⟨_, h⟩, fun ⟨b, h⟩ => match b, h with
  | .s0 _, h => .inl ⟨_, h⟩
  | .e0 _, h => .inr (⟨_, h⟩)⟩⟩
noncomputable def D147_0 : T147_0s0 → PT N147_0
  | .mk i j l d s m =>
   .test (d < l)
    (fun h0 =>
    .test (0 ≤ d)
     (fun h1 =>
     .look RW88 (j[Int.toNat d]?) fun f =>
     .auto 4 <|
     .cut E147_2 (L147_2_ok 18446744073709551616 (.s0 (.mk i j l d f.c1 ((↑(List.length f.c1) : Int)) 0 s m f.c0 0 ([]))) rfl) fun (r : N147_2) => match r with
     | .e0 (.mk a t u v w o y p q) =>
      .auto 1 <|
      .test (0 + p ≤ List.length q)
       (fun h2 =>
       .auto 1 <|
       .test (0 + a ≤ List.length o ∧ (a + 1) * 32 ≤ 140737488355328 ∧ a + 1 ≤ 140737488355328)
        (fun h3 =>
        .ret (.s0 (.mk (a + 1) t u (w64 (v + 1)) w (List.take a o ++ [[vb y, lS 2 (List.take p q)]])))
        )
        (fun _ => .fail)
       )
       (fun _ => .fail)
     | _ => .fail
     )
     (fun _ => .fail)
    )
    (fun h0 =>
    .ret (.e0 (.mk i m))
    )
noncomputable def S147_0 : N147_0 → PT N147_0
  | .s0 x => D147_0 x
  | _ => .fail
def N147_0.off : N147_0 → Bool
  | .s0 _ => false
  | _ => true
noncomputable def L147_0 (n : Nat) (b : N147_0) : Option N147_0 := PT.loop S147_0 N147_0.off n b
theorem L147_0_ok : ∀ (n : Nat) (b : N147_0), N147_0.off b = false → ∀ c, L147_0 n b = some c → loopP Tryz.prog X CC 147 0 18446744073709551616 B147 0 n (E147_0.out b).2 = some (E147_0.out c) :=
  loop_ok (E := E147_0) (step := S147_0) (L := notIn []) (fun b hb => by cases b <;> first | (cases hb; done) | (rename_i x; cases x; intro x; kernel_rfl) | (intro x; kernel_rfl)) (fun b => by cases b <;> rfl)
noncomputable def N147_0.nx (n : Nat) (c : N147_0) : Option N147_0 := match N147_0.off c with
  | true => some c
  | false => L147_0 n c
theorem L147_0_s0 (n : Nat) (x : T147_0s0) : L147_0 (n + 1) (.s0 x) = (D147_0 x).ev (N147_0.nx n) := rfl
theorem N147_0.nx_s0 (n : Nat) (x : T147_0s0) : N147_0.nx n (.s0 x) = L147_0 n (.s0 x) := rfl
theorem N147_0.nx_e0 (n : Nat) (x : T147_0e0) : N147_0.nx n (.e0 x) = some (.e0 x) := rfl
noncomputable def D147 (d : W59) (a : LV) : PT A147 :=
  .cut E147_0 (L147_0_ok 18446744073709551616 (.s0 (.mk 0 a ((↑(List.length a) : Int)) 0 d ([]))) rfl) fun (r : N147_0) => match r with
  | .e0 (.mk f i) =>
   .ret (.a0 f i)
  | _ => .fail
noncomputable def F147 (a : W59) (d : LV) : Option A147 := (D147 a d).ev some
theorem F147_ok (a : W59) (d : LV) : ∀ b, F147 a d = some b → UU 147 ([V.agg (W59.cells a), lS 2 d]) ([]) = some (A147.out b) :=
  fn_ok (E := E147) (L := notIn []) rfl rfl (fun x => by kernel_rfl)
/-! ## F284 -/
noncomputable abbrev B284 : Code := (Tryz.f284.body).getD .skip
inductive T284_0s0 where
  | mk (a d f : Int)
inductive T284_0e0 where
  | mk (a : Int)
inductive N284_0 where
  | s0 (x : T284_0s0)
  | e0 (x : T284_0e0)
@[reducible] def N284_0.out : N284_0 → VX × S
  | .s0 (.mk a d f) => (vN, S.mk (V.int IntKind.u64 a :: U :: U :: V.int IntKind.u64 d :: V.int IntKind.u64 f :: un 16 []) [])
  | .e0 (.mk i) => (vX 0, S.mk (U :: U :: U :: V.int IntKind.u64 i :: un 17 []) [])
abbrev E284_0 : Ent (VX × S) := ⟨N284_0, N284_0.out, fun g => (∃ x, g (.s0 x)) ∨ (∃ x, g (.e0 x)), fun g => ⟨fun h => match h with
  | .inl ⟨_, h⟩ => ⟨_, h⟩
  | .inr (⟨_, h⟩) => ⟨_, h⟩, fun ⟨b, h⟩ => match b, h with
  | .s0 _, h => .inl ⟨_, h⟩
  | .e0 _, h => .inr (⟨_, h⟩)⟩⟩
noncomputable def D284_0 : T284_0s0 → PT N284_0
  | .mk f d a =>
   .test (a > 0)
    (fun h0 =>
    .test (IntKind.wrap IntKind.u64 (IntKind.wrap IntKind.u64 (↑(BitVec.toNat (BitVec.ofInt (IntKind.bits IntKind.u64) d ||| BitVec.ofInt (IntKind.bits IntKind.u64) a)) : Int) * IntKind.wrap IntKind.u64 (↑(BitVec.toNat (BitVec.ofInt (IntKind.bits IntKind.u64) d ||| BitVec.ofInt (IntKind.bits IntKind.u64) a)) : Int)) ≤ f)
     (fun h1 =>
     .auto 1 <|
     .ret (.s0 (.mk f (IntKind.wrap IntKind.u64 (↑(BitVec.toNat (BitVec.ofInt (IntKind.bits IntKind.u64) d ||| BitVec.ofInt (IntKind.bits IntKind.u64) a)) : Int)) (Int.fdiv a 2)))
     )
     (fun h1 =>
     .auto 1 <|
     .ret (.s0 (.mk f d (Int.fdiv a 2)))
     )
    )
    (fun h0 =>
    .ret (.e0 (.mk d))
    )
noncomputable def S284_0 : N284_0 → PT N284_0
  | .s0 x => D284_0 x
  | _ => .fail
def N284_0.off : N284_0 → Bool
  | .s0 _ => false
  | _ => true
noncomputable def L284_0 (n : Nat) (b : N284_0) : Option N284_0 := PT.loop S284_0 N284_0.off n b
theorem L284_0_ok : ∀ (n : Nat) (b : N284_0), N284_0.off b = false → ∀ c, L284_0 n b = some c → loopP Tryz.prog X CC 284 0 18446744073709551616 B284 0 n (E284_0.out b).2 = some (E284_0.out c) :=
  loop_ok (E := E284_0) (step := S284_0) (L := notIn []) (fun b hb => by cases b <;> first | (cases hb; done) | (rename_i x; cases x; intro x; kernel_rfl) | (intro x; kernel_rfl)) (fun b => by cases b <;> rfl)
noncomputable def N284_0.nx (n : Nat) (c : N284_0) : Option N284_0 := match N284_0.off c with
  | true => some c
  | false => L284_0 n c
theorem L284_0_s0 (n : Nat) (x : T284_0s0) : L284_0 (n + 1) (.s0 x) = (D284_0 x).ev (N284_0.nx n) := rfl
theorem N284_0.nx_s0 (n : Nat) (x : T284_0s0) : N284_0.nx n (.s0 x) = L284_0 n (.s0 x) := rfl
theorem N284_0.nx_e0 (n : Nat) (x : T284_0e0) : N284_0.nx n (.e0 x) = some (.e0 x) := rfl
noncomputable def D284 (a : Int) : PT A284 :=
  .cut E284_0 (L284_0_ok 18446744073709551616 (.s0 (.mk a 0 2147483648)) rfl) fun (r : N284_0) => match r with
  | .e0 (.mk d) =>
   .ret (.a0 (w64 d))
  | _ => .fail
noncomputable def F284 (a : Int) : Option A284 := (D284 a).ev some
theorem F284_ok (a : Int) : ∀ b, F284 a = some b → UU 284 ([V.int IntKind.u64 a]) ([]) = some (A284.out b) :=
  fn_ok (E := E284) (L := notIn []) rfl rfl (fun x => by kernel_rfl)
/-! ## F265 -/
noncomputable def D265 (f i : Int) : PT A265 :=
  .tot O74 (F74_ok f (-1073741824) 1073741824) fun a =>
  .tot O74 (F74_ok i (-1073741824) 1073741824) fun d =>
  .ask E284 (F284_ok (IntKind.wrap IntKind.u64 (w64 (w64 (a * a) + w64 (d * d))))) fun (r : A284) => match r with
  | .a0 j =>
   .tot O132 (F132_ok j) fun l =>
   .ret (.a0 l)
noncomputable def F265 (a d : Int) : Option A265 := (D265 a d).ev some
theorem F265_ok (a d : Int) : ∀ b, F265 a d = some b → UU 265 ([i64 a, i64 d]) ([]) = some (A265.out b) :=
  fn_ok (E := E265) (L := notIn []) rfl rfl (fun x => by kernel_rfl)
/-! ## F234 -/
noncomputable def D234 (a : W59) : PT A234 :=
  .auto 2 <|
  .ask E265 (F265_ok a.c0 a.c1) fun (r : A265) => match r with
  | .a0 d =>
   .ret (.a0 d)
noncomputable def F234 (a : W59) : Option A234 := (D234 a).ev some
theorem F234_ok (a : W59) : ∀ b, F234 a = some b → UU 234 ([V.agg (W59.cells a)]) ([]) = some (A234.out b) :=
  fn_ok (E := E234) (L := notIn []) rfl rfl (fun x => by kernel_rfl)
/-! ## F194 -/
noncomputable def D194 (a : W59) (d f i j l m o p q s t u v w : Int) : PT A194 :=
  .auto 2 <|
  .ask E198 (F198_ok a s t) fun (r : A198) => match r with
  | .a0 y z =>
   .auto 2 <|
   .ask E198 (F198_ok a u v) fun (r : A198) => match r with
   | .a0 d0 d1 =>
    .auto 2 <|
    .ask E234 (F234_ok a) fun (r : A234) => match r with
    | .a0 d2 =>
     .ask E125 (F125_ok w d2) fun (r : A125) => match r with
     | .a0 d3 =>
      .auto 5 <|
      .ret (.a0 d f i j l m o p q y z d0 d1 d3)
noncomputable def F194 (a : W59) (d f i j l m o p q s t u v w : Int) : Option A194 := (D194 a d f i j l m o p q s t u v w).ev some
theorem F194_ok (a : W59) (d f i j l m o p q s t u v w : Int) : ∀ b, F194 a d f i j l m o p q s t u v w = some b → UU 194 ([V.agg (W59.cells a), V.agg [i64 d, u8 f, u8 i, u8 j, u8 l, u8 m, u8 o, u8 p, u8 q, i64 s, i64 t, i64 u, i64 v, i64 w]]) ([]) = some (A194.out b) :=
  fn_ok (E := E194) (L := notIn []) rfl rfl (fun x => by kernel_rfl)
/-! ## F139 -/
noncomputable def D139 (j3 j4 : Int) (j5 j6 j7 : LV) (j8 : Bool) (d f i j l m o p q s t u v w y : Int) (z : LV) (j9 : Bool) (l0 : LV) (l1 l2 l3 l4 l5 : Int) (l6 l7 l8 : LV) (d0 : Int) (a : W59) (d1 : Int) (d2 : LV) : PT A139 :=
  .auto 4 <|
  .ask E193 (F193_ok z d0 i j l m) fun (r : A193) => match r with
  | .a0 d3 d4 d5 d6 =>
   .auto 2 <|
   .ask E147 (F147_ok a d2) fun (r : A147) => match r with
   | .a0 d7 d8 =>
    .auto 3 <|
    .ask E194 (F194_ok a f d3 d4 d5 d6 o p q s t u v w y) fun (r : A194) => match r with
    | .a0 d9 f0 f1 f2 f3 f4 f5 f6 f7 f8 f9 j0 j1 j2 =>
     .auto 1 <|
     .ret (.a0 d7 d d9 f0 f1 f2 f3 f4 f5 f6 f7 f8 f9 j0 j1 j2 d1 d8)
noncomputable def F139 (a d : Int) (f i j : LV) (l : Bool) (m o p q s t u v w y z d0 d1 d2 d3 : Int) (d4 : LV) (d5 : Bool) (d6 : LV) (d7 d8 d9 f0 f1 : Int) (f2 f3 f4 : LV) (f5 : Int) (f6 : W59) (f7 : Int) (f8 : LV) : Option A139 := (D139 a d f i j l m o p q s t u v w y z d0 d1 d2 d3 d4 d5 d6 d7 d8 d9 f0 f1 f2 f3 f4 f5 f6 f7 f8).ev some
theorem F139_ok (a d : Int) (f i j : LV) (l : Bool) (m o p q s t u v w y z d0 d1 d2 d3 : Int) (d4 : LV) (d5 : Bool) (d6 : LV) (d7 d8 d9 f0 f1 : Int) (f2 f3 f4 : LV) (f5 : Int) (f6 : W59) (f7 : Int) (f8 : LV) : ∀ b, F139 a d f i j l m o p q s t u v w y z d0 d1 d2 d3 d4 d5 d6 d7 d8 d9 f0 f1 f2 f3 f4 f5 f6 f7 f8 = some b → UU 139 ([V.agg [i64 a, i64 d, lS 7 f, lS 7 i, lS 8 j, vb l, i64 m, i64 o, u8 p, u8 q, u8 s, u8 t, u8 u, u8 v, u8 w, u8 y, i64 z, i64 d0, i64 d1, i64 d2, i64 d3, lS 10 d4, vb d5, lS 7 d6, u8 d7, u8 d8, u8 d9, u8 f0, i64 f1, lS 1 f2, lS 7 f3, lS 7 f4], i64 f5, V.agg (W59.cells f6), i64 f7, lS 2 f8]) ([]) = some (A139.out b) :=
  fn_ok (E := E139) (L := notIn []) rfl rfl (fun x => by kernel_rfl)
/-! ## F235 -/
noncomputable def D235 (f i : Int) : PT A235 :=
  .tot O74 (F74_ok f 0 65536) fun a =>
  .tot O74 (F74_ok i 0 65536) fun d =>
  .ret (.a0 (if d < a then d else a) (if d > a then d else a))
noncomputable def F235 (a d : Int) : Option A235 := (D235 a d).ev some
theorem F235_ok (a d : Int) : ∀ b, F235 a d = some b → UU 235 ([i64 a, i64 d]) ([]) = some (A235.out b) :=
  fn_ok (E := E235) (L := notIn []) rfl rfl (fun x => by kernel_rfl)
/-! ## F266 -/
noncomputable def D266 (d : Bool) (a : LV) : PT Int :=
  .auto 2 <|
  .testB d
   (fun h0 =>
   .auto 2 <|
   .test ((↑(List.length a) : Int) ≥ 2)
    (fun h1 =>
    .ret ((↑(List.length a) : Int))
    )
    (fun h1 =>
    .ret (if w64 ((↑(List.length a) : Int) - 1) > 0 then w64 ((↑(List.length a) : Int) - 1) else 0)
    )
   )
   (fun h0 =>
   .auto 3 <|
   .ret (if w64 ((↑(List.length a) : Int) - 1) > 0 then w64 ((↑(List.length a) : Int) - 1) else 0)
   )
@[reducible] def O266 (a : Int) : V × Store := (i64 a, [])
noncomputable def F266 (a : Bool) (d : LV) : Int := (D266 a d).evT
theorem F266_ok (a : Bool) (d : LV) : UU 266 ([V.agg [vb a, lS 2 d]]) ([]) = some (O266 (F266 a d)) :=
  fnT_ok (out := O266) (L := notIn []) rfl rfl (fun x => by kernel_rfl) (by simp [D266, PT.isT])
/-! ## F285 -/
noncomputable def D285 (a d : Int) : PT A285 :=
  .auto 1 <|
  .tot O241 (F241_ok a) fun f =>
  .auto 1 <|
  .tot O241 (F241_ok d) fun i =>
  .auto 1 <|
  .ret (.a0 f i)
noncomputable def F285 (a d : Int) : Option A285 := (D285 a d).ev some
theorem F285_ok (a d : Int) : ∀ b, F285 a d = some b → UU 285 ([V.agg [i64 a, i64 d]]) ([]) = some (A285.out b) :=
  fn_ok (E := E285) (L := notIn []) rfl rfl (fun x => by kernel_rfl)
/-! ## F267 -/
noncomputable def D267 (q : Bool) (a : LV) (d : Int) : PT A267 :=
  .auto 1 <|
  .test (0 ≤ d)
   (fun h0 =>
   .look RW28 (a[Int.toNat d]?) fun f =>
   .ask E285 (F285_ok f.c0 f.c1) fun (r : A285) => match r with
   | .a0 i j =>
    .auto 2 <|
    .test ((↑(List.length a) : Int) = 0)
     (fun _ => .fail)
     (fun h1 =>
     .test (0 ≤ Int.tmod (w64 (d + 1)) (↑(List.length a) : Int))
      (fun h2 =>
      .look RW28 (a[Int.toNat (Int.tmod (w64 (d + (1 : Int))) (↑(List.length a) : Int))]?) fun l =>
      .ask E285 (F285_ok l.c0 l.c1) fun (r : A285) => match r with
      | .a0 m o =>
       .auto 8 <|
       .ask E265 (F265_ok (w64 (m - i)) (w64 (o - j))) fun (r : A265) => match r with
       | .a0 p =>
        .auto 2 <|
        .ret (.a0 i j m o p)
      )
      (fun _ => .fail)
     )
   )
   (fun _ => .fail)
noncomputable def F267 (a : Bool) (d : LV) (f : Int) : Option A267 := (D267 a d f).ev some
theorem F267_ok (a : Bool) (d : LV) (f : Int) : ∀ b, F267 a d f = some b → UU 267 ([V.agg [vb a, lS 2 d], i64 f]) ([]) = some (A267.out b) :=
  fn_ok (E := E267) (L := notIn []) rfl rfl (fun x => by kernel_rfl)
/-! ## F236 -/
noncomputable abbrev B236 : Code := (Tryz.f236.body).getD .skip
inductive T236_0s0 where
  | mk (a d f : Int) (i : Bool) (j : LV)
inductive T236_0e0 where
  | mk (a : Int)
inductive N236_0 where
  | s0 (x : T236_0s0)
  | e0 (x : T236_0e0)
@[reducible] def N236_0.out : N236_0 → VX × S
  | .s0 (.mk a d f i j) => (vN, S.mk (U :: pT 0 :: U :: i64 a :: un 5 (i64 d :: i64 f :: un 14 [])) [oF 2 [[vb i, lS 2 j]]])
  | .e0 (.mk l) => (vX 0, S.mk (U :: U :: U :: i64 l :: un 21 []) [])
abbrev E236_0 : Ent (VX × S) := ⟨N236_0, N236_0.out, fun g => (∃ x, g (.s0 x)) ∨ (∃ x, g (.e0 x)), fun g => ⟨fun h => match h with
  | .inl ⟨_, h⟩ => ⟨_, h⟩
  | .inr (⟨_, h⟩) => ⟨_, h⟩, fun ⟨b, h⟩ => match b, h with
  | .s0 _, h => .inl ⟨_, h⟩
  | .e0 _, h => .inr (⟨_, h⟩)⟩⟩
noncomputable def D236_0 : T236_0s0 → PT N236_0
  | .mk d f a i j =>
   .test (a < f)
    (fun h0 =>
    .auto 1 <|
    .ask E267 (F267_ok i j a) fun (r : A267) => match r with
    | .a0 o p q s l =>
     .auto 2 <|
     .tot O131 (F131_ok d l) fun m =>
     .ret (.s0 (.mk m f (w64 (a + 1)) i j))
    )
    (fun h0 =>
    .ret (.e0 (.mk d))
    )
noncomputable def S236_0 : N236_0 → PT N236_0
  | .s0 x => D236_0 x
  | _ => .fail
def N236_0.off : N236_0 → Bool
  | .s0 _ => false
  | _ => true
noncomputable def L236_0 (n : Nat) (b : N236_0) : Option N236_0 := PT.loop S236_0 N236_0.off n b
theorem L236_0_ok : ∀ (n : Nat) (b : N236_0), N236_0.off b = false → ∀ c, L236_0 n b = some c → loopP Tryz.prog X CC 236 0 18446744073709551616 B236 0 n (E236_0.out b).2 = some (E236_0.out c) :=
  loop_ok (E := E236_0) (step := S236_0) (L := notIn []) (fun b hb => by cases b <;> first | (cases hb; done) | (rename_i x; cases x; intro x; kernel_rfl) | (intro x; kernel_rfl)) (fun b => by cases b <;> rfl)
noncomputable def N236_0.nx (n : Nat) (c : N236_0) : Option N236_0 := match N236_0.off c with
  | true => some c
  | false => L236_0 n c
theorem L236_0_s0 (n : Nat) (x : T236_0s0) : L236_0 (n + 1) (.s0 x) = (D236_0 x).ev (N236_0.nx n) := rfl
theorem N236_0.nx_s0 (n : Nat) (x : T236_0s0) : N236_0.nx n (.s0 x) = L236_0 n (.s0 x) := rfl
theorem N236_0.nx_e0 (n : Nat) (x : T236_0e0) : N236_0.nx n (.e0 x) = some (.e0 x) := rfl
noncomputable def D236 (a : Bool) (d : LV) : PT A236 :=
  .auto 1 <|
  .tot O266 (F266_ok a d) fun f =>
  .cut E236_0 (L236_0_ok 18446744073709551616 (.s0 (.mk 0 f 0 a d)) rfl) fun (r : N236_0) => match r with
  | .e0 (.mk i) =>
   .ret (.a0 i)
  | _ => .fail
noncomputable def F236 (a : Bool) (d : LV) : Option A236 := (D236 a d).ev some
theorem F236_ok (a : Bool) (d : LV) : ∀ b, F236 a d = some b → UU 236 ([V.agg [vb a, lS 2 d]]) ([]) = some (A236.out b) :=
  fn_ok (E := E236) (L := notIn []) rfl rfl (fun x => by kernel_rfl)
/-! ## F269 -/
noncomputable def D269 (f i : Int) : PT A269 :=
  .tot O132 (F132_ok f) fun d =>
  .auto 1 <|
  .tot O132 (F132_ok i) fun a =>
  .testB (a == 0)
   (fun h0 =>
   .ret (.a0 0)
   )
   (fun h0 =>
   .test (a = 0)
    (fun _ => .fail)
    (fun h1 =>
    .known (decide_eq_false h1) <|
    .testB (Int.tmod (w64 (d * 65536)) a != 0)
     (fun h2 =>
     .auto 5 <|
     .testB (!decide (w64 (d * 65536) < 0) == decide (a < 0))
      (fun h3 =>
      .tot O132 (F132_ok (w64 (w64 (Int.tdiv (w64 (d * 65536)) a) - 1))) fun j =>
      .ret (.a0 j)
      )
      (fun h3 =>
      .tot O132 (F132_ok (w64 (Int.tdiv (w64 (d * 65536)) a))) fun l =>
      .ret (.a0 l)
      )
     )
     (fun h2 =>
     .auto 6 <|
     .tot O132 (F132_ok (w64 (Int.tdiv (w64 (d * 65536)) a))) fun m =>
     .ret (.a0 m)
     )
    )
   )
noncomputable def F269 (a d : Int) : Option A269 := (D269 a d).ev some
theorem F269_ok (a d : Int) : ∀ b, F269 a d = some b → UU 269 ([i64 a, i64 d]) ([]) = some (A269.out b) :=
  fn_ok (E := E269) (L := notIn []) rfl rfl (fun x => by kernel_rfl)
/-! ## F268 -/
noncomputable def D268 (o p q s a d : Int) : PT A268 :=
  .auto 1 <|
  .ask E285 (F285_ok o p) fun (r : A285) => match r with
  | .a0 f i =>
   .auto 1 <|
   .ask E285 (F285_ok q s) fun (r : A285) => match r with
   | .a0 j l =>
    .auto 2 <|
    .test (a ≤ 0)
     (fun h0 =>
     .auto 2 <|
     .ret (.a0 f i)
     )
     (fun h0 =>
     .test (a ≥ d)
      (fun h1 =>
      .auto 2 <|
      .ret (.a0 j l)
      )
      (fun h1 =>
      .ask E269 (F269_ok a d) fun (r : A269) => match r with
      | .a0 m =>
       .auto 2 <|
       .ask E134 (F134_ok f j m) fun (r : A134) => match r with
       | .a0 t =>
        .auto 2 <|
        .ask E134 (F134_ok i l m) fun (r : A134) => match r with
        | .a0 u =>
         .auto 1 <|
         .ret (.a0 t u)
      )
     )
noncomputable def F268 (a d f i j l : Int) : Option A268 := (D268 a d f i j l).ev some
theorem F268_ok (a d f i j l : Int) : ∀ b, F268 a d f i j l = some b → UU 268 ([V.agg [i64 a, i64 d], V.agg [i64 f, i64 i], i64 j, i64 l]) ([]) = some (A268.out b) :=
  fn_ok (E := E268) (L := notIn []) rfl rfl (fun x => by kernel_rfl)
/-! ## F237 -/
noncomputable abbrev B237 : Code := (Tryz.f237.body).getD .skip
inductive T237_c50s0 where
  | mk (a d f i j l : Int) (m o : Bool) (p : LV) (q : Nat) (s t u v : Int) (w : LV)
@[reducible] def T237_c50s0.st : T237_c50s0 → S
  | .mk a d f i j l m o p q s t u v w => S.mk (U :: i64 a :: i64 d :: pT 0 :: U :: U :: pT 1 :: pT 2 :: i64 f :: U :: pT 3 :: pT 4 :: i64 i :: un 9 (i64 j :: i64 l :: un 26 (vb m :: un 29 []))) [oF 2 [[vb o, lS 2 p]], oF 2 [[vb false, hS 5 0]], oF 2 [[vb false, hS 6 q]], oF 2 [[i64 s, i64 t]], oF 2 [[i64 u, i64 v]], oT 2 [], oT 2 w]
inductive T237_c50e0 where
  | mk (a d f i j l : Int) (m : Bool) (o : LV) (p : Nat) (q s t u : Int) (v : LV)
inductive N237_c50 where
  | e0 (x : T237_c50e0)
@[reducible] def N237_c50.out : N237_c50 → VX × S
  | .e0 (.mk a d f i j l m o p q s t u v) => (vN, S.mk (U :: i64 a :: i64 d :: pT 0 :: U :: U :: pT 1 :: pT 2 :: i64 f :: U :: pT 3 :: pT 4 :: i64 i :: un 9 (i64 j :: i64 l :: un 56 [])) [oF 2 [[vb m, lS 2 o]], oF 2 [[vb false, hS 5 0]], oF 2 [[vb false, hS 6 p]], oF 2 [[i64 q, i64 s]], oF 2 [[i64 t, i64 u]], oT 2 [], oT 2 v])
abbrev E237_c50 : Ent (VX × S) := ⟨N237_c50, N237_c50.out, fun g => (∃ x, g (.e0 x)), fun g => ⟨fun h => match h with
  | ⟨_, h⟩ => ⟨_, h⟩, fun ⟨b, h⟩ => match b, h with
  | .e0 _, h => ⟨_, h⟩⟩⟩
noncomputable def D237_c50 : T237_c50s0 → PT N237_c50
  | .mk d q f i s t w u v a j l m o p =>
   .testB w
    (fun h0 =>
    .auto 3 <|
    .ask E268 (F268_ok j l m o (w64 (d - f)) i) fun (r : A268) => match r with
    | .a0 y z =>
     .auto 1 <|
     .test (0 + a ≤ List.length p ∧ (a + 1) * 16 ≤ 140737488355328 ∧ a + 1 ≤ 140737488355328)
      (fun h1 =>
      .auto 1 <|
      .ret (.e0 (.mk d q f i s t u v (a + 1) j l m o (List.take a p ++ [[i64 y, i64 z]])))
      )
      (fun _ => .fail)
    )
    (fun h0 =>
    .ret (.e0 (.mk d q f i s t u v a j l m o p))
    )
noncomputable def J237_c50 (y : T237_c50s0) : Option N237_c50 := (D237_c50 y).ev some
theorem J237_c50_ok (y : T237_c50s0) : ∀ b, J237_c50 y = some b → condP Tryz.prog X CC 237 0 18446744073709551616 B237 50 y.st = some (E237_c50.out b) := by
  cases y; exact cond_ok (E := E237_c50) (L := notIn []) (fun x => by kernel_rfl)
inductive T237_r10s0 where
  | mk (a d f i j l : Int) (m : Bool) (o : LV) (p : Nat) (q s t u : Int) (v : LV)
@[reducible] def T237_r10s0.st : T237_r10s0 → S
  | .mk a d f i j l m o p q s t u v => S.mk (U :: i64 a :: i64 d :: pT 0 :: U :: U :: pT 1 :: pT 2 :: i64 f :: U :: pT 3 :: pT 4 :: i64 i :: un 9 (i64 j :: i64 l :: un 56 [])) [oF 2 [[vb m, lS 2 o]], oF 2 [[vb false, hS 5 0]], oF 2 [[vb false, hS 6 p]], oF 2 [[i64 q, i64 s]], oF 2 [[i64 t, i64 u]], oT 2 [], oT 2 v]
inductive T237_r10e0 where
  | mk (a d f i j l : Int) (m o : Bool) (p : LV) (q : Nat) (s t u v : Int) (w : LV)
inductive N237_r10 where
  | e0 (x : T237_r10e0)
@[reducible] def N237_r10.out : N237_r10 → VX × S
  | .e0 (.mk a d f i j l m o p q s t u v w) => (vN, S.mk (U :: i64 a :: i64 d :: pT 0 :: U :: U :: pT 1 :: pT 2 :: i64 f :: U :: pT 3 :: pT 4 :: i64 i :: un 9 (i64 j :: i64 l :: un 22 (vb m :: un 33 []))) [oF 2 [[vb o, lS 2 p]], oF 2 [[vb false, hS 5 0]], oF 2 [[vb false, hS 6 q]], oF 2 [[i64 s, i64 t]], oF 2 [[i64 u, i64 v]], oT 2 [], oT 2 w])
abbrev E237_r10 : Ent (VX × S) := ⟨N237_r10, N237_r10.out, fun g => (∃ x, g (.e0 x)), fun g => ⟨fun h => match h with
  | ⟨_, h⟩ => ⟨_, h⟩, fun ⟨b, h⟩ => match b, h with
  | .e0 _, h => ⟨_, h⟩⟩⟩
noncomputable def D237_r10 : T237_r10s0 → PT N237_r10
  | .mk f i a d j l m o p q s t u v =>
   .test (d > 0)
    (fun h0 =>
    .auto 2 <|
    .tot O131 (F131_ok a d) fun w =>
    .auto 3 <|
    .test (w > f)
     (fun h1 =>
     .auto 3 <|
     .ret (.e0 (.mk f i a d j l (decide (a < i)) m o p q s t u v))
     )
     (fun h1 =>
     .auto 3 <|
     .ret (.e0 (.mk f i a d j l false m o p q s t u v))
     )
    )
    (fun h0 =>
    .auto 9 <|
    .ret (.e0 (.mk f i a d j l false m o p q s t u v))
    )
noncomputable def J237_r10 (y : T237_r10s0) : Option N237_r10 := (D237_r10 y).ev some
theorem J237_r10_ok (y : T237_r10s0) : ∀ b, J237_r10 y = some b → regP Tryz.prog X CC 237 0 B237 10 y.st = some (E237_r10.out b) := by
  cases y; exact reg_ok (E := E237_r10) (fun x => by kernel_rfl)
inductive T237_0s0 where
  | mk (a d f i j : Int) (l : Bool) (m : LV) (o : Nat) (p : LV)
inductive T237_0e0 where
  | mk (a : Nat) (d : LV)
inductive N237_0 where
  | s0 (x : T237_0s0)
  | e0 (x : T237_0e0)
@[reducible] def N237_0.out : N237_0 → VX × S
  | .s0 (.mk a d f i j l m o p) => (vN, S.mk (U :: i64 a :: i64 d :: pT 0 :: U :: U :: pT 1 :: pT 2 :: i64 f :: un 13 (i64 i :: i64 j :: un 56 [])) [oF 2 [[vb l, lS 2 m]], oF 2 [[vb false, hS 3 0]], oF 2 [[vb false, hS 4 o]], oT 2 [], oT 2 p])
  | .e0 (.mk q s) => (vX 0, S.mk (un 6 (pT 0 :: pT 1 :: un 72 [])) [oF 2 [[vb false, hS 2 0]], oF 2 [[vb false, hS 3 q]], oT 2 [], oT 2 s])
abbrev E237_0 : Ent (VX × S) := ⟨N237_0, N237_0.out, fun g => (∃ x, g (.s0 x)) ∨ (∃ x, g (.e0 x)), fun g => ⟨fun h => match h with
  | .inl ⟨_, h⟩ => ⟨_, h⟩
  | .inr (⟨_, h⟩) => ⟨_, h⟩, fun ⟨b, h⟩ => match b, h with
  | .s0 _, h => .inl ⟨_, h⟩
  | .e0 _, h => .inr (⟨_, h⟩)⟩⟩
noncomputable def D237_0 : T237_0s0 → PT N237_0
  | .mk d4 d5 d6 i d j l m o =>
   .test (d < i)
    (fun h0 =>
    .auto 1 <|
    .ask E267 (F267_ok j l d) fun (r : A267) => match r with
    | .a0 d7 d8 d9 f0 f1 =>
     .auto 2 <|
     .cut E237_r10 (J237_r10_ok (.mk d4 d5 d6 f1 i d j l m d7 d8 d9 f0 o)) fun (r : N237_r10) => match r with
     | .e0 (.mk p q s t u v f2 w y f f3 f4 f5 f6 z) =>
      .testB f2
       (fun h1 =>
       .auto 1 <|
       .cut E237_c50 (J237_c50_ok (.mk p q s t u v ((↑f : Int) == 0) w y f f3 f4 f5 f6 z)) fun (r : N237_c50) => match r with
       | .e0 (.mk f7 d0 d1 d2 f8 f9 j0 j1 a j2 j3 j4 j5 d3) =>
        .auto 3 <|
        .ask E268 (F268_ok j2 j3 j4 j5 (w64 (d0 - d1)) d2) fun (r : A268) => match r with
        | .a0 j6 j7 =>
         .auto 1 <|
         .test (0 + a ≤ List.length d3 ∧ (a + 1) * 16 ≤ 140737488355328 ∧ a + 1 ≤ 140737488355328)
          (fun h2 =>
          .auto 1 <|
          .tot O131 (F131_ok d1 d2) fun j8 =>
          .ret (.s0 (.mk f7 d0 j8 f8 (w64 (f9 + 1)) j0 j1 (a + 1) (List.take a d3 ++ [[i64 j6, i64 j7]])))
          )
          (fun _ => .fail)
       )
       (fun h1 =>
       .tot O131 (F131_ok s t) fun j9 =>
       .ret (.s0 (.mk p q j9 u (w64 (v + 1)) w y f z))
       )
    )
    (fun h0 =>
    .ret (.e0 (.mk m o))
    )
noncomputable def S237_0 : N237_0 → PT N237_0
  | .s0 x => D237_0 x
  | _ => .fail
def N237_0.off : N237_0 → Bool
  | .s0 _ => false
  | _ => true
noncomputable def L237_0 (n : Nat) (b : N237_0) : Option N237_0 := PT.loop S237_0 N237_0.off n b
theorem L237_0_ok : ∀ (n : Nat) (b : N237_0), N237_0.off b = false → ∀ c, L237_0 n b = some c → loopP Tryz.prog X CC 237 0 18446744073709551616 B237 0 n (E237_0.out b).2 = some (E237_0.out c) :=
  loop_ok (E := E237_0) (step := S237_0) (L := notIn []) (fun b hb => by cases b <;> first | (cases hb; done) | (rename_i x; cases x; intro x; kernel_rfl) | (intro x; kernel_rfl)) (fun b => by cases b <;> rfl)
noncomputable def N237_0.nx (n : Nat) (c : N237_0) : Option N237_0 := match N237_0.off c with
  | true => some c
  | false => L237_0 n c
theorem L237_0_s0 (n : Nat) (x : T237_0s0) : L237_0 (n + 1) (.s0 x) = (D237_0 x).ev (N237_0.nx n) := rfl
theorem N237_0.nx_s0 (n : Nat) (x : T237_0s0) : N237_0.nx n (.s0 x) = L237_0 n (.s0 x) := rfl
theorem N237_0.nx_e0 (n : Nat) (x : T237_0e0) : N237_0.nx n (.e0 x) = some (.e0 x) := rfl
noncomputable def D237 (a : Bool) (d : LV) (j l : Int) : PT A237 :=
  .tot O132 (F132_ok j) fun f =>
  .tot O132 (F132_ok l) fun i =>
  .test (f ≥ i)
   (fun h0 =>
   .auto 2 <|
   .ret (.a0 false 0 ([]))
   )
   (fun h0 =>
   .auto 1 <|
   .tot O266 (F266_ok a d) fun m =>
   .cut E237_0 (L237_0_ok 18446744073709551616 (.s0 (.mk f i 0 m 0 a d 0 ([]))) rfl) fun (r : N237_0) => match r with
   | .e0 (.mk o p) =>
    .auto 2 <|
    .ret (.a0 false o p)
   | _ => .fail
   )
noncomputable def F237 (a : Bool) (d : LV) (f i : Int) : Option A237 := (D237 a d f i).ev some
theorem F237_ok (a : Bool) (d : LV) (f i : Int) : ∀ b, F237 a d f i = some b → UU 237 ([V.agg [vb a, lS 2 d], i64 f, i64 i]) ([]) = some (A237.out b) :=
  fn_ok (E := E237) (L := notIn []) rfl rfl (fun x => by kernel_rfl)
/-! ## F195 -/
noncomputable abbrev B195 : Code := (Tryz.f195.body).getD .skip
inductive T195_r6s0 where
  | mk (a d : Int) (f : Nat) (i : LV) (j l : Int) (m : LV) (o : Bool) (p : LV)
@[reducible] def T195_r6s0.st : T195_r6s0 → S
  | .mk a d f i j l m o p => S.mk (U :: i64 a :: i64 d :: un 4 (hS 0 f :: U :: pT 1 :: un 8 (lS 2 i :: i64 j :: i64 l :: un 38 []))) [oT 2 m, oF 2 [[vb o, lS 2 p]]]
inductive T195_r6e0 where
  | mk (a d : Int) (f : Nat) (i : LV) (j l : Int) (m : Bool) (o : LV) (p : Bool) (q : LV)
inductive N195_r6 where
  | e0 (x : T195_r6e0)
@[reducible] def N195_r6.out : N195_r6 → VX × S
  | .e0 (.mk a d f i j l m o p q) => (vN, S.mk (U :: i64 a :: i64 d :: un 4 (hS 0 f :: U :: pT 1 :: un 8 (lS 2 i :: i64 j :: i64 l :: un 8 (vb m :: un 29 [])))) [oT 2 o, oF 2 [[vb p, lS 2 q]]])
abbrev E195_r6 : Ent (VX × S) := ⟨N195_r6, N195_r6.out, fun g => (∃ x, g (.e0 x)), fun g => ⟨fun h => match h with
  | ⟨_, h⟩ => ⟨_, h⟩, fun ⟨b, h⟩ => match b, h with
  | .e0 _, h => ⟨_, h⟩⟩⟩
noncomputable def D195_r6 : T195_r6s0 → PT N195_r6
  | .mk a d f i j l m o p =>
   .testB (a == 0)
    (fun h0 =>
    .auto 2 <|
    .ret (.e0 (.mk a d f i j l (d == 65536) m o p))
    )
    (fun h0 =>
    .auto 2 <|
    .ret (.e0 (.mk a d f i j l false m o p))
    )
noncomputable def J195_r6 (y : T195_r6s0) : Option N195_r6 := (D195_r6 y).ev some
theorem J195_r6_ok (y : T195_r6s0) : ∀ b, J195_r6 y = some b → regP Tryz.prog X CC 195 0 B195 6 y.st = some (E195_r6.out b) := by
  cases y; exact reg_ok (E := E195_r6) (fun x => by kernel_rfl)
inductive T195_0s0 where
  | mk (a d : Int) (f : Nat) (i : LV) (j l : Int) (m : LV)
inductive T195_0e0 where
  | mk (a : Nat) (d : LV)
inductive N195_0 where
  | s0 (x : T195_0s0)
  | e0 (x : T195_0e0)
@[reducible] def N195_0.out : N195_0 → VX × S
  | .s0 (.mk a d f i j l m) => (vN, S.mk (U :: i64 a :: i64 d :: un 4 (hS 0 f :: un 10 (lS 2 i :: i64 j :: i64 l :: un 38 []))) [oT 2 m])
  | .e0 (.mk o p) => (vX 0, S.mk (un 7 (hS 0 o :: un 51 [])) [oT 2 p])
abbrev E195_0 : Ent (VX × S) := ⟨N195_0, N195_0.out, fun g => (∃ x, g (.s0 x)) ∨ (∃ x, g (.e0 x)), fun g => ⟨fun h => match h with
  | .inl ⟨_, h⟩ => ⟨_, h⟩
  | .inr (⟨_, h⟩) => ⟨_, h⟩, fun ⟨b, h⟩ => match b, h with
  | .s0 _, h => .inl ⟨_, h⟩
  | .e0 _, h => .inr (⟨_, h⟩)⟩⟩
noncomputable def D195_0 : T195_0s0 → PT N195_0
  | .mk d2 d3 u v w f y =>
   .test (f < w)
    (fun h0 =>
    .test (0 ≤ f)
     (fun h1 =>
     .look RW88 (v[Int.toNat f]?) fun z =>
     .auto 1 <|
     .cut E195_r6 (J195_r6_ok (.mk d2 d3 u v w f y z.c0 z.c1)) fun (r : N195_r6) => match r with
     | .e0 (.mk i j a m o p d4 d q s) =>
      .testB d4
       (fun h2 =>
       .auto 2 <|
       .ask E224 (F224_ok s) fun (r : A224) => match r with
       | .a0 l =>
        .test (0 + List.length l ≤ List.length l)
         (fun h3 =>
         .auto 1 <|
         .test (0 + a ≤ List.length d ∧ (a + 1) * 32 ≤ 140737488355328 ∧ a + 1 ≤ 140737488355328)
          (fun h4 =>
          .ret (.s0 (.mk i j (a + 1) m o (w64 (p + 1)) (List.take a d ++ [[vb q, lS 2 (List.take (List.length l) l)]])))
          )
          (fun _ => .fail)
         )
         (fun _ => .fail)
       )
       (fun h2 =>
       .auto 1 <|
       .ask E236 (F236_ok q s) fun (r : A236) => match r with
       | .a0 d0 =>
        .auto 1 <|
        .ask E125 (F125_ok d0 i) fun (r : A125) => match r with
        | .a0 d5 =>
         .ask E125 (F125_ok d0 j) fun (r : A125) => match r with
         | .a0 d6 =>
          .ask E237 (F237_ok q s d5 d6) fun (r : A237) => match r with
          | .a0 d7 t d1 =>
           .auto 2 <|
           .test ((↑t : Int) ≥ 2)
            (fun h3 =>
            .auto 1 <|
            .test (0 + t ≤ List.length d1)
             (fun h4 =>
             .auto 1 <|
             .test (0 + a ≤ List.length d ∧ (a + 1) * 32 ≤ 140737488355328 ∧ a + 1 ≤ 140737488355328)
              (fun h5 =>
              .ret (.s0 (.mk i j (a + 1) m o (w64 (p + 1)) (List.take a d ++ [[vb d7, lS 2 (List.take t d1)]])))
              )
              (fun _ => .fail)
             )
             (fun _ => .fail)
            )
            (fun h3 =>
            .ret (.s0 (.mk i j a m o (w64 (p + 1)) d))
            )
       )
     )
     (fun _ => .fail)
    )
    (fun h0 =>
    .ret (.e0 (.mk u y))
    )
noncomputable def S195_0 : N195_0 → PT N195_0
  | .s0 x => D195_0 x
  | _ => .fail
def N195_0.off : N195_0 → Bool
  | .s0 _ => false
  | _ => true
noncomputable def L195_0 (n : Nat) (b : N195_0) : Option N195_0 := PT.loop S195_0 N195_0.off n b
theorem L195_0_ok : ∀ (n : Nat) (b : N195_0), N195_0.off b = false → ∀ c, L195_0 n b = some c → loopP Tryz.prog X CC 195 0 18446744073709551616 B195 0 n (E195_0.out b).2 = some (E195_0.out c) :=
  loop_ok (E := E195_0) (step := S195_0) (L := notIn []) (fun b hb => by cases b <;> first | (cases hb; done) | (rename_i x; cases x; intro x; kernel_rfl) | (intro x; kernel_rfl)) (fun b => by cases b <;> rfl)
noncomputable def N195_0.nx (n : Nat) (c : N195_0) : Option N195_0 := match N195_0.off c with
  | true => some c
  | false => L195_0 n c
theorem L195_0_s0 (n : Nat) (x : T195_0s0) : L195_0 (n + 1) (.s0 x) = (D195_0 x).ev (N195_0.nx n) := rfl
theorem N195_0.nx_s0 (n : Nat) (x : T195_0s0) : N195_0.nx n (.s0 x) = L195_0 n (.s0 x) := rfl
theorem N195_0.nx_e0 (n : Nat) (x : T195_0e0) : N195_0.nx n (.e0 x) = some (.e0 x) := rfl
noncomputable def D195 (a : LV) (d f : Int) : PT A195 :=
  .ask E235 (F235_ok d f) fun (r : A235) => match r with
  | .a0 i j =>
   .cut E195_0 (L195_0_ok 18446744073709551616 (.s0 (.mk i j 0 a ((↑(List.length a) : Int)) 0 ([]))) rfl) fun (r : N195_0) => match r with
   | .e0 (.mk l m) =>
    .ret (.a0 l m)
   | _ => .fail
noncomputable def F195 (a : LV) (d f : Int) : Option A195 := (D195 a d f).ev some
theorem F195_ok (a : LV) (d f : Int) : ∀ b, F195 a d f = some b → UU 195 ([lS 2 a, i64 d, i64 f]) ([]) = some (A195.out b) :=
  fn_ok (E := E195) (L := notIn []) rfl rfl (fun x => by kernel_rfl)
/-! ## F116 -/
noncomputable def D116 (a : Int) : PT Bool :=
  .test (a < 65536)
   (fun h0 =>
   .auto 2 <|
   .ret true
   )
   (fun h0 =>
   .auto 2 <|
   .ret (decide (a > 67108864))
   )
@[reducible] def O116 (a : Bool) : V × Store := (vb a, [])
noncomputable def F116 (a : Int) : Bool := (D116 a).evT
theorem F116_ok (a : Int) : UU 116 ([i64 a]) ([]) = some (O116 (F116 a)) :=
  fnT_ok (out := O116) (L := notIn []) rfl rfl (fun x => by kernel_rfl) (by simp [D116, PT.isT])
/-! ## F180 -/
noncomputable abbrev B180 : Code := (Tryz.f180.body).getD .skip
inductive T180_0s0 where
  | mk (a : LV) (d f : Int)
inductive T180_0e0 where
  | mk (a : Int)
inductive N180_0 where
  | s0 (x : T180_0s0)
  | e0 (x : T180_0e0)
  | e1
@[reducible] def N180_0.out : N180_0 → VX × S
  | .s0 (.mk a d f) => (vN, S.mk (lS 1 a :: V.fn 116 [] :: un 5 (i64 d :: i64 f :: un 10 [])) [])
  | .e0 (.mk i) => (VX.ret, S.mk (un 4 (i64 i :: un 14 [])) [])
  | .e1 => (vX 0, S.mk (un 19 []) [])
abbrev E180_0 : Ent (VX × S) := ⟨N180_0, N180_0.out, fun g => (∃ x, g (.s0 x)) ∨ (∃ x, g (.e0 x)) ∨ g .e1, fun g => ⟨fun h => match h with
  | .inl ⟨_, h⟩ => ⟨_, h⟩
  | .inr (.inl ⟨_, h⟩) => ⟨_, h⟩
  | .inr (.inr h) => ⟨_, h⟩, fun ⟨b, h⟩ => match b, h with
  | .s0 _, h => .inl ⟨_, h⟩
  | .e0 _, h => .inr (.inl ⟨_, h⟩)
  | .e1, h => .inr (.inr h)⟩⟩
noncomputable def D180_0 : T180_0s0 → PT N180_0
  | .mk d f a =>
   .test (a < f)
    (fun h0 =>
    .test (0 ≤ a)
     (fun h1 =>
     .look RW2 (d[Int.toNat a]?) fun i =>
     .tot O116 (F116_ok i.c0) fun j =>
     .testB j
      (fun h2 =>
      .ret (.e0 (.mk a))
      )
      (fun h2 =>
      .ret (.s0 (.mk d f (w64 (a + 1))))
      )
     )
     (fun _ => .fail)
    )
    (fun h0 =>
    .ret .e1
    )
noncomputable def S180_0 : N180_0 → PT N180_0
  | .s0 x => D180_0 x
  | _ => .fail
def N180_0.off : N180_0 → Bool
  | .s0 _ => false
  | _ => true
noncomputable def L180_0 (n : Nat) (b : N180_0) : Option N180_0 := PT.loop S180_0 N180_0.off n b
theorem L180_0_ok : ∀ (n : Nat) (b : N180_0), N180_0.off b = false → ∀ c, L180_0 n b = some c → loopP Tryz.prog X CC 180 0 18446744073709551616 B180 0 n (E180_0.out b).2 = some (E180_0.out c) :=
  loop_ok (E := E180_0) (step := S180_0) (L := notIn []) (fun b hb => by cases b <;> first | (cases hb; done) | (rename_i x; cases x; intro x; kernel_rfl) | (intro x; kernel_rfl)) (fun b => by cases b <;> rfl)
noncomputable def N180_0.nx (n : Nat) (c : N180_0) : Option N180_0 := match N180_0.off c with
  | true => some c
  | false => L180_0 n c
theorem L180_0_s0 (n : Nat) (x : T180_0s0) : L180_0 (n + 1) (.s0 x) = (D180_0 x).ev (N180_0.nx n) := rfl
theorem N180_0.nx_s0 (n : Nat) (x : T180_0s0) : N180_0.nx n (.s0 x) = L180_0 n (.s0 x) := rfl
theorem N180_0.nx_e0 (n : Nat) (x : T180_0e0) : N180_0.nx n (.e0 x) = some (.e0 x) := rfl
theorem N180_0.nx_e1 (n : Nat) : N180_0.nx n .e1 = some .e1 := rfl
noncomputable def D180 (a : LV) : PT A180 :=
  .cut E180_0 (L180_0_ok 18446744073709551616 (.s0 (.mk a ((↑(List.length a) : Int)) 0)) rfl) fun (r : N180_0) => match r with
  | .e0 (.mk d) =>
   .ret (.a0 d)
  | .e1 =>
   .ret (.a0 (-1))
  | _ => .fail
noncomputable def F180 (a : LV) : Option A180 := (D180 a).ev some
theorem F180_ok (a : LV) : ∀ b, F180 a = some b → UU 180 ([lS 1 a, V.fn 116 []]) ([]) = some (A180.out b) :=
  fn_ok (E := E180) (L := notIn []) rfl rfl (fun x => by kernel_rfl)
/-! ## F115 -/
noncomputable def D115 (a : LV) : PT A115 :=
  .ask E180 (F180_ok a) fun (r : A180) => match r with
  | .a0 d =>
   .ret (.a0 (decide (d ≥ 0)))
noncomputable def F115 (a : LV) : Option A115 := (D115 a).ev some
theorem F115_ok (a : LV) : ∀ b, F115 a = some b → UU 115 ([lS 1 a, V.fn 116 []]) ([]) = some (A115.out b) :=
  fn_ok (E := E115) (L := notIn []) rfl rfl (fun x => by kernel_rfl)
/-! ## F57 -/
noncomputable def D57 (a : LV) : PT A57 :=
  .test ((↑(List.length a) : Int) ≤ 8)
   (fun h0 =>
   .auto 1 <|
   .ask E115 (F115_ok a) fun (r : A115) => match r with
   | .a0 d =>
    .auto 2 <|
    .ret (.a0 (!d))
   )
   (fun h0 =>
   .auto 3 <|
   .ret (.a0 false)
   )
noncomputable def F57 (a : LV) : Option A57 := (D57 a).ev some
theorem F57_ok (a : LV) : ∀ b, F57 a = some b → UU 57 ([lS 1 a]) ([]) = some (A57.out b) :=
  fn_ok (E := E57) (L := notIn []) rfl rfl (fun x => by kernel_rfl)
/-! ## F196 -/
noncomputable abbrev B196 : Code := (Tryz.f196.body).getD .skip
inductive T196_r6s0 where
  | mk (a : LV) (d : Nat) (f i j : Int) (l : Bool) (m o : LV)
@[reducible] def T196_r6s0.st : T196_r6s0 → S
  | .mk a d f i j l m o => S.mk (U :: lS 1 a :: pT 0 :: U :: U :: hS 1 d :: i64 f :: i64 i :: i64 j :: un 56 []) [oF 2 [[vb l, lS 2 m]], oT 2 o]
inductive T196_r6e0 where
  | mk (a : LV) (d : Nat) (f i j : Int) (l m : Bool) (o p : LV)
inductive N196_r6 where
  | e0 (x : T196_r6e0)
@[reducible] def N196_r6.out : N196_r6 → VX × S
  | .e0 (.mk a d f i j l m o p) => (vN, S.mk (U :: lS 1 a :: pT 0 :: U :: U :: hS 1 d :: i64 f :: i64 i :: i64 j :: un 25 (vb l :: un 30 [])) [oF 2 [[vb m, lS 2 o]], oT 2 p])
abbrev E196_r6 : Ent (VX × S) := ⟨N196_r6, N196_r6.out, fun g => (∃ x, g (.e0 x)), fun g => ⟨fun h => match h with
  | ⟨_, h⟩ => ⟨_, h⟩, fun ⟨b, h⟩ => match b, h with
  | .e0 _, h => ⟨_, h⟩⟩⟩
noncomputable def D196_r6 : T196_r6s0 → PT N196_r6
  | .mk i j a d f l m o =>
   .test (f < 128)
    (fun h0 =>
    .auto 3 <|
    .ret (.e0 (.mk i j a d f (decide (d < a)) l m o))
    )
    (fun h0 =>
    .auto 3 <|
    .ret (.e0 (.mk i j a d f false l m o))
    )
noncomputable def J196_r6 (y : T196_r6s0) : Option N196_r6 := (D196_r6 y).ev some
theorem J196_r6_ok (y : T196_r6s0) : ∀ b, J196_r6 y = some b → regP Tryz.prog X CC 196 0 B196 6 y.st = some (E196_r6.out b) := by
  cases y; exact reg_ok (E := E196_r6) (fun x => by kernel_rfl)
inductive T196_0s0 where
  | mk (a : LV) (d : Nat) (f i j : Int) (l : Bool) (m o : LV)
inductive T196_0e0 where
  | mk (a : Nat) (d : LV)
inductive N196_0 where
  | s0 (x : T196_0s0)
  | e0 (x : T196_0e0)
@[reducible] def N196_0.out : N196_0 → VX × S
  | .s0 (.mk a d f i j l m o) => (vN, S.mk (U :: lS 1 a :: pT 0 :: U :: U :: hS 1 d :: i64 f :: i64 i :: i64 j :: un 56 []) [oF 2 [[vb l, lS 2 m]], oT 2 o])
  | .e0 (.mk p q) => (vX 0, S.mk (un 5 (hS 0 p :: un 59 [])) [oT 2 q])
abbrev E196_0 : Ent (VX × S) := ⟨N196_0, N196_0.out, fun g => (∃ x, g (.s0 x)) ∨ (∃ x, g (.e0 x)), fun g => ⟨fun h => match h with
  | .inl ⟨_, h⟩ => ⟨_, h⟩
  | .inr (⟨_, h⟩) => ⟨_, h⟩, fun ⟨b, h⟩ => match b, h with
  | .s0 _, h => .inl ⟨_, h⟩
  | .e0 _, h => .inr (⟨_, h⟩)⟩⟩
noncomputable def D196_0 : T196_0s0 → PT N196_0
  | .mk t u v w y z d0 d1 =>
   .cut E196_r6 (J196_r6_ok (.mk t u v w y z d0 d1)) fun (r : N196_r6) => match r with
   | .e0 (.mk d a p i f d2 l m j) =>
    .testB d2
     (fun h0 =>
     .test ((↑(List.length d) : Int) = 0)
      (fun _ => .fail)
      (fun h1 =>
      .test (0 ≤ Int.tmod f (↑(List.length d) : Int))
       (fun h2 =>
       .look RW2 (d[Int.toNat (Int.tmod f (↑(List.length d) : Int))]?) fun o =>
       .auto 1 <|
       .testB (Int.tmod f 2 == 0)
        (fun h3 =>
        .auto 1 <|
        .ask E237 (F237_ok l m i (w64 (i + o.c0))) fun (r : A237) => match r with
        | .a0 d3 q s =>
         .auto 2 <|
         .test ((↑q : Int) ≥ 2)
          (fun h4 =>
          .auto 1 <|
          .test (0 + q ≤ List.length s)
           (fun h5 =>
           .auto 1 <|
           .test (0 + a ≤ List.length j ∧ (a + 1) * 32 ≤ 140737488355328 ∧ a + 1 ≤ 140737488355328)
            (fun h6 =>
            .ret (.s0 (.mk d (a + 1) p (w64 (i + o.c0)) (w64 (f + 1)) l m (List.take a j ++ [[vb d3, lS 2 (List.take q s)]])))
            )
            (fun _ => .fail)
           )
           (fun _ => .fail)
          )
          (fun h4 =>
          .ret (.s0 (.mk d a p (w64 (i + o.c0)) (w64 (f + 1)) l m j))
          )
        )
        (fun h3 =>
        .ret (.s0 (.mk d a p (w64 (i + o.c0)) (w64 (f + 1)) l m j))
        )
       )
       (fun _ => .fail)
      )
     )
     (fun h0 =>
     .ret (.e0 (.mk a j))
     )
noncomputable def S196_0 : N196_0 → PT N196_0
  | .s0 x => D196_0 x
  | _ => .fail
def N196_0.off : N196_0 → Bool
  | .s0 _ => false
  | _ => true
noncomputable def L196_0 (n : Nat) (b : N196_0) : Option N196_0 := PT.loop S196_0 N196_0.off n b
theorem L196_0_ok : ∀ (n : Nat) (b : N196_0), N196_0.off b = false → ∀ c, L196_0 n b = some c → loopP Tryz.prog X CC 196 0 18446744073709551616 B196 0 n (E196_0.out b).2 = some (E196_0.out c) :=
  loop_ok (E := E196_0) (step := S196_0) (L := notIn []) (fun b hb => by cases b <;> first | (cases hb; done) | (rename_i x; cases x; intro x; kernel_rfl) | (intro x; kernel_rfl)) (fun b => by cases b <;> rfl)
noncomputable def N196_0.nx (n : Nat) (c : N196_0) : Option N196_0 := match N196_0.off c with
  | true => some c
  | false => L196_0 n c
theorem L196_0_s0 (n : Nat) (x : T196_0s0) : L196_0 (n + 1) (.s0 x) = (D196_0 x).ev (N196_0.nx n) := rfl
theorem N196_0.nx_s0 (n : Nat) (x : T196_0s0) : N196_0.nx n (.s0 x) = L196_0 n (.s0 x) := rfl
theorem N196_0.nx_e0 (n : Nat) (x : T196_0e0) : N196_0.nx n (.e0 x) = some (.e0 x) := rfl
inductive T196_r1s0 where
  | mk (a : LV) (d : Bool) (f : LV)
@[reducible] def T196_r1s0.st : T196_r1s0 → S
  | .mk a d f => S.mk (U :: lS 1 a :: pT 0 :: un 62 []) [oF 2 [[vb d, lS 2 f]]]
inductive T196_r1e0 where
  | mk (a : LV) (d f : Bool) (i : LV)
inductive N196_r1 where
  | e0 (x : T196_r1e0)
@[reducible] def N196_r1.out : N196_r1 → VX × S
  | .e0 (.mk a d f i) => (vN, S.mk (U :: lS 1 a :: pT 0 :: un 15 (vb d :: un 46 [])) [oF 2 [[vb f, lS 2 i]]])
abbrev E196_r1 : Ent (VX × S) := ⟨N196_r1, N196_r1.out, fun g => (∃ x, g (.e0 x)), fun g => ⟨fun h => match h with
  | ⟨_, h⟩ => ⟨_, h⟩, fun ⟨b, h⟩ => match b, h with
  | .e0 _, h => ⟨_, h⟩⟩⟩
noncomputable def D196_r1 : T196_r1s0 → PT N196_r1
  | .mk a d f =>
   .testB ((↑(List.length a) : Int) == 0)
    (fun h0 =>
    .auto 3 <|
    .ret (.e0 (.mk a true d f))
    )
    (fun h0 =>
    .auto 1 <|
    .ask E57 (F57_ok a) fun (r : A57) => match r with
    | .a0 i =>
     .auto 2 <|
     .ret (.e0 (.mk a (!i) d f))
    )
noncomputable def J196_r1 (y : T196_r1s0) : Option N196_r1 := (D196_r1 y).ev some
theorem J196_r1_ok (y : T196_r1s0) : ∀ b, J196_r1 y = some b → regP Tryz.prog X CC 196 0 B196 1 y.st = some (E196_r1.out b) := by
  cases y; exact reg_ok (E := E196_r1) (fun x => by kernel_rfl)
noncomputable def D196 (i : Bool) (j l : LV) : PT A196 :=
  .cut E196_r1 (J196_r1_ok (.mk l i j)) fun (r : N196_r1) => match r with
  | .e0 (.mk m o d f) =>
   .testB o
    (fun h0 =>
    .auto 2 <|
    .ask E224 (F224_ok f) fun (r : A224) => match r with
    | .a0 a =>
     .test (0 + List.length a ≤ List.length a)
      (fun h1 =>
      .ret (.a0 1 ([[vb d, lS 2 (List.take (List.length a) a)]]))
      )
      (fun _ => .fail)
    )
    (fun h0 =>
    .auto 1 <|
    .ask E236 (F236_ok d f) fun (r : A236) => match r with
    | .a0 p =>
     .cut E196_0 (L196_0_ok 18446744073709551616 (.s0 (.mk m 0 p 0 0 d f ([]))) rfl) fun (r : N196_0) => match r with
     | .e0 (.mk q s) =>
      .ret (.a0 q s)
     | _ => .fail
    )
noncomputable def F196 (a : Bool) (d f : LV) : Option A196 := (D196 a d f).ev some
theorem F196_ok (a : Bool) (d f : LV) : ∀ b, F196 a d f = some b → UU 196 ([V.agg [vb a, lS 2 d], lS 1 f]) ([]) = some (A196.out b) :=
  fn_ok (E := E196) (L := notIn []) rfl rfl (fun x => by kernel_rfl)
/-! ## F238 -/
noncomputable abbrev B238 : Code := (Tryz.f238.body).getD .skip
inductive T238_0s0 where
  | mk (a : Nat) (d f : Int) (i : Bool) (j l : LV)
inductive T238_0e0 where
  | mk (a : Nat) (d : LV)
inductive N238_0 where
  | s0 (x : T238_0s0)
  | e0 (x : T238_0e0)
@[reducible] def N238_0.out : N238_0 → VX × S
  | .s0 (.mk a d f i j l) => (vN, S.mk (U :: pT 0 :: U :: hS 1 a :: un 5 (i64 d :: i64 f :: un 33 [])) [oF 2 [[vb i, lS 2 j]], oT 6 l])
  | .e0 (.mk m o) => (vX 0, S.mk (U :: U :: U :: hS 0 m :: un 40 []) [oT 6 o])
abbrev E238_0 : Ent (VX × S) := ⟨N238_0, N238_0.out, fun g => (∃ x, g (.s0 x)) ∨ (∃ x, g (.e0 x)), fun g => ⟨fun h => match h with
  | .inl ⟨_, h⟩ => ⟨_, h⟩
  | .inr (⟨_, h⟩) => ⟨_, h⟩, fun ⟨b, h⟩ => match b, h with
  | .s0 _, h => .inl ⟨_, h⟩
  | .e0 _, h => .inr (⟨_, h⟩)⟩⟩
noncomputable def D238_0 : T238_0s0 → PT N238_0
  | .mk a i d j l f =>
   .test (d < i)
    (fun h0 =>
    .auto 1 <|
    .ask E267 (F267_ok j l d) fun (r : A267) => match r with
    | .a0 o p q s m =>
     .auto 2 <|
     .test (m > 0)
      (fun h1 =>
      .auto 4 <|
      .ask E269 (F269_ok (w64 (q - o)) m) fun (r : A269) => match r with
      | .a0 t =>
       .auto 2 <|
       .ask E269 (F269_ok (w64 (s - p)) m) fun (r : A269) => match r with
       | .a0 u =>
        .auto 1 <|
        .test (0 + a ≤ List.length f ∧ (a + 1) * 48 ≤ 140737488355328 ∧ a + 1 ≤ 140737488355328)
         (fun h2 =>
         .ret (.s0 (.mk (a + 1) i (w64 (d + 1)) j l (List.take a f ++ [[i64 o, i64 p, i64 q, i64 s, i64 t, i64 u]])))
         )
         (fun _ => .fail)
      )
      (fun h1 =>
      .ret (.s0 (.mk a i (w64 (d + 1)) j l f))
      )
    )
    (fun h0 =>
    .ret (.e0 (.mk a f))
    )
noncomputable def S238_0 : N238_0 → PT N238_0
  | .s0 x => D238_0 x
  | _ => .fail
def N238_0.off : N238_0 → Bool
  | .s0 _ => false
  | _ => true
noncomputable def L238_0 (n : Nat) (b : N238_0) : Option N238_0 := PT.loop S238_0 N238_0.off n b
theorem L238_0_ok : ∀ (n : Nat) (b : N238_0), N238_0.off b = false → ∀ c, L238_0 n b = some c → loopP Tryz.prog X CC 238 0 18446744073709551616 B238 0 n (E238_0.out b).2 = some (E238_0.out c) :=
  loop_ok (E := E238_0) (step := S238_0) (L := notIn []) (fun b hb => by cases b <;> first | (cases hb; done) | (rename_i x; cases x; intro x; kernel_rfl) | (intro x; kernel_rfl)) (fun b => by cases b <;> rfl)
noncomputable def N238_0.nx (n : Nat) (c : N238_0) : Option N238_0 := match N238_0.off c with
  | true => some c
  | false => L238_0 n c
theorem L238_0_s0 (n : Nat) (x : T238_0s0) : L238_0 (n + 1) (.s0 x) = (D238_0 x).ev (N238_0.nx n) := rfl
theorem N238_0.nx_s0 (n : Nat) (x : T238_0s0) : N238_0.nx n (.s0 x) = L238_0 n (.s0 x) := rfl
theorem N238_0.nx_e0 (n : Nat) (x : T238_0e0) : N238_0.nx n (.e0 x) = some (.e0 x) := rfl
noncomputable def D238 (a : Bool) (d : LV) : PT A238 :=
  .auto 1 <|
  .tot O266 (F266_ok a d) fun f =>
  .cut E238_0 (L238_0_ok 18446744073709551616 (.s0 (.mk 0 f 0 a d ([]))) rfl) fun (r : N238_0) => match r with
  | .e0 (.mk i j) =>
   .ret (.a0 i j)
  | _ => .fail
noncomputable def F238 (a : Bool) (d : LV) : Option A238 := (D238 a d).ev some
theorem F238_ok (a : Bool) (d : LV) : ∀ b, F238 a d = some b → UU 238 ([V.agg [vb a, lS 2 d]]) ([]) = some (A238.out b) :=
  fn_ok (E := E238) (L := notIn []) rfl rfl (fun x => by kernel_rfl)
/-! ## F270 -/
noncomputable def D270 (a : W59) (d : Int) : PT A270 :=
  .auto 1 <|
  .ask E125 (F125_ok (w64 (0 - a.c5)) d) fun (r : A125) => match r with
  | .a0 f =>
   .auto 1 <|
   .ask E125 (F125_ok a.c4 d) fun (r : A125) => match r with
   | .a0 i =>
    .ret (.a0 f i)
noncomputable def F270 (a : W59) (d : Int) : Option A270 := (D270 a d).ev some
theorem F270_ok (a : W59) (d : Int) : ∀ b, F270 a d = some b → UU 270 ([V.agg (W59.cells a), i64 d]) ([]) = some (A270.out b) :=
  fn_ok (E := E270) (L := notIn []) rfl rfl (fun x => by kernel_rfl)
/-! ## F271 -/
noncomputable def D271 (a d f i : Int) : PT A271 :=
  .auto 3 <|
  .ret (.a0 (w64 (a + f)) (w64 (d + i)))
noncomputable def F271 (a d f i : Int) : Option A271 := (D271 a d f i).ev some
theorem F271_ok (a d f i : Int) : ∀ b, F271 a d f i = some b → UU 271 ([V.agg [i64 a, i64 d], i64 f, i64 i]) ([]) = some (A271.out b) :=
  fn_ok (E := E271) (L := notIn []) rfl rfl (fun x => by kernel_rfl)
/-! ## F286 -/
noncomputable def D286 (a d : Int) : PT A286 :=
  .tot O241 (F241_ok a) fun f =>
  .tot O241 (F241_ok d) fun i =>
  .auto 1 <|
  .ret (.a0 f i)
noncomputable def F286 (a d : Int) : Option A286 := (D286 a d).ev some
theorem F286_ok (a d : Int) : ∀ b, F286 a d = some b → UU 286 ([i64 a, i64 d]) ([]) = some (A286.out b) :=
  fn_ok (E := E286) (L := notIn []) rfl rfl (fun x => by kernel_rfl)
/-! ## F295 -/
noncomputable abbrev B295 : Code := (Tryz.f295.body).getD .skip
inductive T295_0s0 where
  | mk (a : LV) (d f i : Int)
inductive T295_0e0 where
  | mk (a : Int)
inductive N295_0 where
  | s0 (x : T295_0s0)
  | e0 (x : T295_0e0)
@[reducible] def N295_0.out : N295_0 → VX × S
  | .s0 (.mk a d f i) => (vN, S.mk (lS 2 a :: U :: U :: i64 d :: U :: U :: U :: lS 2 a :: i64 f :: i64 i :: un 37 []) [])
  | .e0 (.mk j) => (vX 0, S.mk (U :: U :: U :: i64 j :: un 43 []) [])
abbrev E295_0 : Ent (VX × S) := ⟨N295_0, N295_0.out, fun g => (∃ x, g (.s0 x)) ∨ (∃ x, g (.e0 x)), fun g => ⟨fun h => match h with
  | .inl ⟨_, h⟩ => ⟨_, h⟩
  | .inr (⟨_, h⟩) => ⟨_, h⟩, fun ⟨b, h⟩ => match b, h with
  | .s0 _, h => .inl ⟨_, h⟩
  | .e0 _, h => .inr (⟨_, h⟩)⟩⟩
noncomputable def D295_0 : T295_0s0 → PT N295_0
  | .mk a f i d =>
   .test (d < i)
    (fun h0 =>
    .test (0 ≤ d)
     (fun h1 =>
     .look RW28 (a[Int.toNat d]?) fun j =>
     .auto 1 <|
     .test ((↑(List.length a) : Int) = 0)
      (fun _ => .fail)
      (fun h2 =>
      .test (0 ≤ Int.tmod (w64 (d + 1)) (↑(List.length a) : Int))
       (fun h3 =>
       .look RW28 (a[Int.toNat (Int.tmod (w64 (d + (1 : Int))) (↑(List.length a) : Int))]?) fun l =>
       .auto 3 <|
       .ask E286 (F286_ok j.c0 j.c1) fun (r : A286) => match r with
       | .a0 m o =>
        .auto 2 <|
        .ask E286 (F286_ok l.c0 l.c1) fun (r : A286) => match r with
        | .a0 p q =>
         .auto 6 <|
         .ret (.s0 (.mk a (w64 (f + w64 (w64 (m * q) - w64 (p * o)))) i (w64 (d + 1))))
       )
       (fun _ => .fail)
      )
     )
     (fun _ => .fail)
    )
    (fun h0 =>
    .ret (.e0 (.mk f))
    )
noncomputable def S295_0 : N295_0 → PT N295_0
  | .s0 x => D295_0 x
  | _ => .fail
def N295_0.off : N295_0 → Bool
  | .s0 _ => false
  | _ => true
noncomputable def L295_0 (n : Nat) (b : N295_0) : Option N295_0 := PT.loop S295_0 N295_0.off n b
theorem L295_0_ok : ∀ (n : Nat) (b : N295_0), N295_0.off b = false → ∀ c, L295_0 n b = some c → loopP Tryz.prog X CC 295 0 18446744073709551616 B295 0 n (E295_0.out b).2 = some (E295_0.out c) :=
  loop_ok (E := E295_0) (step := S295_0) (L := notIn []) (fun b hb => by cases b <;> first | (cases hb; done) | (rename_i x; cases x; intro x; kernel_rfl) | (intro x; kernel_rfl)) (fun b => by cases b <;> rfl)
noncomputable def N295_0.nx (n : Nat) (c : N295_0) : Option N295_0 := match N295_0.off c with
  | true => some c
  | false => L295_0 n c
theorem L295_0_s0 (n : Nat) (x : T295_0s0) : L295_0 (n + 1) (.s0 x) = (D295_0 x).ev (N295_0.nx n) := rfl
theorem N295_0.nx_s0 (n : Nat) (x : T295_0s0) : N295_0.nx n (.s0 x) = L295_0 n (.s0 x) := rfl
theorem N295_0.nx_e0 (n : Nat) (x : T295_0e0) : N295_0.nx n (.e0 x) = some (.e0 x) := rfl
noncomputable def D295 (a : LV) : PT A295 :=
  .cut E295_0 (L295_0_ok 18446744073709551616 (.s0 (.mk a 0 ((↑(List.length a) : Int)) 0)) rfl) fun (r : N295_0) => match r with
  | .e0 (.mk d) =>
   .ret (.a0 d)
  | _ => .fail
noncomputable def F295 (a : LV) : Option A295 := (D295 a).ev some
theorem F295_ok (a : LV) : ∀ b, F295 a = some b → UU 295 ([lS 2 a]) ([]) = some (A295.out b) :=
  fn_ok (E := E295) (L := notIn []) rfl rfl (fun x => by kernel_rfl)
/-! ## F296 -/
noncomputable abbrev B296 : Code := (Tryz.f296.body).getD .skip
inductive T296_0s0 where
  | mk (a : Nat) (d f : Int) (i : LV)
inductive T296_0e0 where
  | mk (a : LV)
inductive N296_0 where
  | s0 (x : T296_0s0)
  | e0 (x : T296_0e0)
@[reducible] def N296_0.out : N296_0 → VX × S
  | .s0 (.mk a d f i) => (vN, S.mk (hS 0 a :: U :: i64 d :: i64 f :: un 24 []) [oT 2 i])
  | .e0 (.mk j) => (vX 0, S.mk (un 28 []) [oT 2 j])
abbrev E296_0 : Ent (VX × S) := ⟨N296_0, N296_0.out, fun g => (∃ x, g (.s0 x)) ∨ (∃ x, g (.e0 x)), fun g => ⟨fun h => match h with
  | .inl ⟨_, h⟩ => ⟨_, h⟩
  | .inr (⟨_, h⟩) => ⟨_, h⟩, fun ⟨b, h⟩ => match b, h with
  | .s0 _, h => .inl ⟨_, h⟩
  | .e0 _, h => .inr (⟨_, h⟩)⟩⟩
noncomputable def D296_0 : T296_0s0 → PT N296_0
  | .mk j a d f =>
   .test (a < d)
    (fun h0 =>
    .test (0 ≤ d ∧ d < (↑j : Int))
     (fun h1 =>
     .look RW28 (f[(0 : Nat) + Int.toNat d]?) fun i =>
     .test (0 ≤ a ∧ a < (↑j : Int))
      (fun h2 =>
      .look RW28 (f[(0 : Nat) + Int.toNat a]?) fun l =>
      .known (decide_eq_true h2) <|
      .look RW28 (f[(0 : Nat) + Int.toNat a]?) fun m =>
      .known (decide_eq_true h1) <|
      .look RW28 ((List.set f ((0 : Nat) + Int.toNat a) [i64 i.c0, i64 i.c1])[(0 : Nat) + Int.toNat d]?) fun o =>
      .ret (.s0 (.mk j (w64 (a + 1)) (w64 (d - 1)) (List.set (List.set f (0 + Int.toNat a) [i64 i.c0, i64 i.c1]) (0 + Int.toNat d) [i64 l.c0, i64 l.c1])))
      )
      (fun _ => .fail)
     )
     (fun _ => .fail)
    )
    (fun h0 =>
    .ret (.e0 (.mk f))
    )
noncomputable def S296_0 : N296_0 → PT N296_0
  | .s0 x => D296_0 x
  | _ => .fail
def N296_0.off : N296_0 → Bool
  | .s0 _ => false
  | _ => true
noncomputable def L296_0 (n : Nat) (b : N296_0) : Option N296_0 := PT.loop S296_0 N296_0.off n b
theorem L296_0_ok : ∀ (n : Nat) (b : N296_0), N296_0.off b = false → ∀ c, L296_0 n b = some c → loopP Tryz.prog X CC 296 1 18446744073709551616 B296 0 n (E296_0.out b).2 = some (E296_0.out c) :=
  loop_ok (E := E296_0) (step := S296_0) (L := notIn []) (fun b hb => by cases b <;> first | (cases hb; done) | (rename_i x; cases x; intro x; kernel_rfl) | (intro x; kernel_rfl)) (fun b => by cases b <;> rfl)
noncomputable def N296_0.nx (n : Nat) (c : N296_0) : Option N296_0 := match N296_0.off c with
  | true => some c
  | false => L296_0 n c
theorem L296_0_s0 (n : Nat) (x : T296_0s0) : L296_0 (n + 1) (.s0 x) = (D296_0 x).ev (N296_0.nx n) := rfl
theorem N296_0.nx_s0 (n : Nat) (x : T296_0s0) : N296_0.nx n (.s0 x) = L296_0 n (.s0 x) := rfl
theorem N296_0.nx_e0 (n : Nat) (x : T296_0e0) : N296_0.nx n (.e0 x) = some (.e0 x) := rfl
noncomputable def D296 (a : Nat) (d : LV) : PT A296 :=
  .cut E296_0 (L296_0_ok 18446744073709551616 (.s0 (.mk a 0 (w64 ((↑a : Int) - 1)) d)) rfl) fun (r : N296_0) => match r with
  | .e0 (.mk f) =>
   .ret (.a0 f)
  | _ => .fail
noncomputable def F296 (a : Nat) (d : LV) : Option A296 := (D296 a d).ev some
theorem F296_ok (a : Nat) (d : LV) : ∀ b, F296 a d = some b → UU 296 ([hS 0 a]) ([oT 2 d]) = some (A296.out b) :=
  fn_ok (E := E296) (L := notIn []) rfl rfl (fun x => by kernel_rfl)
/-! ## F287 -/
noncomputable def D287 (d : LV) : PT A287 :=
  .ask E224 (F224_ok d) fun (r : A224) => match r with
  | .a0 a =>
   .ask E295 (F295_ok d) fun (r : A295) => match r with
   | .a0 f =>
    .test (f < 0)
     (fun h0 =>
     .ask E296 (F296_ok (List.length a) a) fun (r : A296) => match r with
     | .a0 i =>
      .ret (.a0 (List.length a) i)
     )
     (fun h0 =>
     .ret (.a0 (List.length a) a)
     )
noncomputable def F287 (a : LV) : Option A287 := (D287 a).ev some
theorem F287_ok (a : LV) : ∀ b, F287 a = some b → UU 287 ([lS 2 a]) ([]) = some (A287.out b) :=
  fn_ok (E := E287) (L := notIn []) rfl rfl (fun x => by kernel_rfl)
/-! ## F272 -/
noncomputable abbrev B272 : Code := (Tryz.f272.body).getD .skip
inductive T272_0s0 where
  | mk (a : Nat) (d f : Int) (i : LV)
inductive T272_0e0 where
  | mk (a : Nat) (d : LV)
inductive N272_0 where
  | s0 (x : T272_0s0)
  | e0 (x : T272_0e0)
@[reducible] def N272_0.out : N272_0 → VX × S
  | .s0 (.mk a d f i) => (vN, S.mk (hS 0 a :: U :: pT 1 :: U :: U :: i64 d :: i64 f :: un 20 []) [oT 2 i, oF 2 [[vb false, hS 2 0]], oT 2 []])
  | .e0 (.mk j l) => (vX 0, S.mk (hS 0 j :: U :: pT 1 :: un 24 []) [oT 2 l, oF 2 [[vb false, hS 2 0]], oT 2 []])
abbrev E272_0 : Ent (VX × S) := ⟨N272_0, N272_0.out, fun g => (∃ x, g (.s0 x)) ∨ (∃ x, g (.e0 x)), fun g => ⟨fun h => match h with
  | .inl ⟨_, h⟩ => ⟨_, h⟩
  | .inr (⟨_, h⟩) => ⟨_, h⟩, fun ⟨b, h⟩ => match b, h with
  | .s0 _, h => .inl ⟨_, h⟩
  | .e0 _, h => .inr (⟨_, h⟩)⟩⟩
noncomputable def D272_0 : T272_0s0 → PT N272_0
  | .mk f i a d =>
   .test (a < i)
    (fun h0 =>
    .test (0 ≤ a ∧ a < (↑f : Int))
     (fun h1 =>
     .look RW28 (d[(0 : Nat) + Int.toNat a]?) fun j =>
     .known (decide_eq_true h1) <|
     .look RW28 (d[(0 : Nat) + Int.toNat a]?) fun l =>
     .ask E286 (F286_ok j.c0 l.c1) fun (r : A286) => match r with
     | .a0 m o =>
      .known (decide_eq_true h1) <|
      .look RW28 (d[(0 : Nat) + Int.toNat a]?) fun p =>
      .ret (.s0 (.mk f i (w64 (a + 1)) (List.set d (0 + Int.toNat a) [i64 m, i64 o])))
     )
     (fun _ => .fail)
    )
    (fun h0 =>
    .ret (.e0 (.mk f d))
    )
noncomputable def S272_0 : N272_0 → PT N272_0
  | .s0 x => D272_0 x
  | _ => .fail
def N272_0.off : N272_0 → Bool
  | .s0 _ => false
  | _ => true
noncomputable def L272_0 (n : Nat) (b : N272_0) : Option N272_0 := PT.loop S272_0 N272_0.off n b
theorem L272_0_ok : ∀ (n : Nat) (b : N272_0), N272_0.off b = false → ∀ c, L272_0 n b = some c → loopP Tryz.prog X CC 272 1 18446744073709551616 B272 0 n (E272_0.out b).2 = some (E272_0.out c) :=
  loop_ok (E := E272_0) (step := S272_0) (L := notIn []) (fun b hb => by cases b <;> first | (cases hb; done) | (rename_i x; cases x; intro x; kernel_rfl) | (intro x; kernel_rfl)) (fun b => by cases b <;> rfl)
noncomputable def N272_0.nx (n : Nat) (c : N272_0) : Option N272_0 := match N272_0.off c with
  | true => some c
  | false => L272_0 n c
theorem L272_0_s0 (n : Nat) (x : T272_0s0) : L272_0 (n + 1) (.s0 x) = (D272_0 x).ev (N272_0.nx n) := rfl
theorem N272_0.nx_s0 (n : Nat) (x : T272_0s0) : N272_0.nx n (.s0 x) = L272_0 n (.s0 x) := rfl
theorem N272_0.nx_e0 (n : Nat) (x : T272_0e0) : N272_0.nx n (.e0 x) = some (.e0 x) := rfl
noncomputable def D272 (d : Nat) (i : LV) : PT A272 :=
  .cut E272_0 (L272_0_ok 18446744073709551616 (.s0 (.mk d ((↑d : Int)) 0 i)) rfl) fun (r : N272_0) => match r with
  | .e0 (.mk f a) =>
   .test (0 + f ≤ List.length a)
    (fun h0 =>
    .ask E287 (F287_ok (List.take f a)) fun (r : A287) => match r with
    | .a0 j l =>
     .auto 1 <|
     .ret (.a0 true j a l)
    )
    (fun _ => .fail)
  | _ => .fail
noncomputable def F272 (a : Nat) (d : LV) : Option A272 := (D272 a d).ev some
theorem F272_ok (a : Nat) (d : LV) : ∀ b, F272 a d = some b → UU 272 ([hS 0 a]) ([oT 2 d]) = some (A272.out b) :=
  fn_ok (E := E272) (L := notIn []) rfl rfl (fun x => by kernel_rfl)
/-! ## F239 -/
noncomputable abbrev B239 : Code := (Tryz.f239.body).getD .skip
inductive T239_c40s0 where
  | mk (a d f i : Int) (j : Bool) (l m o p : Int)
@[reducible] def T239_c40s0.st : T239_c40s0 → S
  | .mk a d f i j l m o p => S.mk (un 8 (pT 0 :: i64 a :: i64 d :: i64 f :: i64 i :: pT 1 :: pT 2 :: un 25 (vb j :: un 26 []))) [oF 2 [[vb false, hS 3 0]], oF 2 [[i64 l, i64 m]], oF 2 [[i64 o, i64 p]], oT 2 []]
inductive T239_c40e0 where
  | mk (a d f i j l : Int)
inductive N239_c40 where
  | e0 (x : T239_c40e0)
@[reducible] def N239_c40.out : N239_c40 → VX × S
  | .e0 (.mk a d f i j l) => (vN, S.mk (un 8 (pT 0 :: i64 a :: i64 d :: U :: U :: pT 1 :: pT 2 :: un 52 [])) [oF 2 [[vb false, hS 3 0]], oF 2 [[i64 f, i64 i]], oF 2 [[i64 j, i64 l]], oT 2 []])
abbrev E239_c40 : Ent (VX × S) := ⟨N239_c40, N239_c40.out, fun g => (∃ x, g (.e0 x)), fun g => ⟨fun h => match h with
  | ⟨_, h⟩ => ⟨_, h⟩, fun ⟨b, h⟩ => match b, h with
  | .e0 _, h => ⟨_, h⟩⟩⟩
noncomputable def D239_c40 : T239_c40s0 → PT N239_c40
  | .mk a d m o p f i j l =>
   .testB p
    (fun h0 =>
    .auto 1 <|
    .ask E271 (F271_ok j l m o) fun (r : A271) => match r with
    | .a0 q s =>
     .auto 1 <|
     .ret (.e0 (.mk a d f i q s))
    )
    (fun h0 =>
    .ret (.e0 (.mk a d f i j l))
    )
noncomputable def J239_c40 (y : T239_c40s0) : Option N239_c40 := (D239_c40 y).ev some
theorem J239_c40_ok (y : T239_c40s0) : ∀ b, J239_c40 y = some b → condP Tryz.prog X CC 239 0 18446744073709551616 B239 40 y.st = some (E239_c40.out b) := by
  cases y; exact cond_ok (E := E239_c40) (L := notIn []) (fun x => by kernel_rfl)
inductive T239_c33s0 where
  | mk (a : Bool) (d f i j : Int) (l : Bool) (m o p q : Int)
@[reducible] def T239_c33s0.st : T239_c33s0 → S
  | .mk a d f i j l m o p q => S.mk (U :: U :: U :: vb a :: un 4 (pT 0 :: i64 d :: i64 f :: i64 i :: i64 j :: pT 1 :: pT 2 :: un 18 (vb l :: un 33 []))) [oF 2 [[vb false, hS 3 0]], oF 2 [[i64 m, i64 o]], oF 2 [[i64 p, i64 q]], oT 2 []]
inductive T239_c33e0 where
  | mk (a : Bool) (d f i j l m o p : Int)
inductive N239_c33 where
  | e0 (x : T239_c33e0)
@[reducible] def N239_c33.out : N239_c33 → VX × S
  | .e0 (.mk a d f i j l m o p) => (vN, S.mk (U :: U :: U :: vb a :: un 4 (pT 0 :: i64 d :: i64 f :: i64 i :: i64 j :: pT 1 :: pT 2 :: un 52 [])) [oF 2 [[vb false, hS 3 0]], oF 2 [[i64 l, i64 m]], oF 2 [[i64 o, i64 p]], oT 2 []])
abbrev E239_c33 : Ent (VX × S) := ⟨N239_c33, N239_c33.out, fun g => (∃ x, g (.e0 x)), fun g => ⟨fun h => match h with
  | ⟨_, h⟩ => ⟨_, h⟩, fun ⟨b, h⟩ => match b, h with
  | .e0 _, h => ⟨_, h⟩⟩⟩
noncomputable def D239_c33 : T239_c33s0 → PT N239_c33
  | .mk f i j a d q l m o p =>
   .testB q
    (fun h0 =>
    .auto 1 <|
    .ask E271 (F271_ok l m (w64 (0 - a)) (w64 (0 - d))) fun (r : A271) => match r with
    | .a0 s t =>
     .auto 1 <|
     .ret (.e0 (.mk f i j a d s t o p))
    )
    (fun h0 =>
    .ret (.e0 (.mk f i j a d l m o p))
    )
noncomputable def J239_c33 (y : T239_c33s0) : Option N239_c33 := (D239_c33 y).ev some
theorem J239_c33_ok (y : T239_c33s0) : ∀ b, J239_c33 y = some b → condP Tryz.prog X CC 239 0 18446744073709551616 B239 33 y.st = some (E239_c33.out b) := by
  cases y; exact cond_ok (E := E239_c33) (L := notIn []) (fun x => by kernel_rfl)
noncomputable def D239 (a : W59) (i : Int) (p q : Bool) : PT A239 :=
  .auto 1 <|
  .ask E270 (F270_ok a i) fun (r : A270) => match r with
  | .a0 s t =>
   .auto 1 <|
   .ask E125 (F125_ok a.c4 i) fun (r : A125) => match r with
   | .a0 u =>
    .auto 1 <|
    .ask E125 (F125_ok a.c5 i) fun (r : A125) => match r with
    | .a0 v =>
     .auto 4 <|
     .cut E239_c33 (J239_c33_ok (.mk q s t u v p a.c0 a.c1 a.c2 a.c3)) fun (r : N239_c33) => match r with
     | .e0 (.mk w y z d0 d1 d2 d3 d4 d5) =>
      .cut E239_c40 (J239_c40_ok (.mk y z d0 d1 w d2 d3 d4 d5)) fun (r : N239_c40) => match r with
      | .e0 (.mk d f j l m o) =>
       .auto 1 <|
       .ask E271 (F271_ok j l d f) fun (r : A271) => match r with
       | .a0 d6 d7 =>
        .auto 1 <|
        .ask E271 (F271_ok m o d f) fun (r : A271) => match r with
        | .a0 d8 d9 =>
         .auto 1 <|
         .ask E271 (F271_ok m o (w64 (0 - d)) (w64 (0 - f))) fun (r : A271) => match r with
         | .a0 f0 f1 =>
          .auto 1 <|
          .ask E271 (F271_ok j l (w64 (0 - d)) (w64 (0 - f))) fun (r : A271) => match r with
          | .a0 f2 f3 =>
           .ask E272 (F272_ok 4 ([[i64 d6, i64 d7], [i64 d8, i64 d9], [i64 f0, i64 f1], [i64 f2, i64 f3]])) fun (r : A272) => match r with
           | .a0 f4 f5 f7 f6 =>
            .auto 1 <|
            .ret (.a0 f4 f5 f6)
noncomputable def F239 (a : W59) (d : Int) (f i : Bool) : Option A239 := (D239 a d f i).ev some
theorem F239_ok (a : W59) (d : Int) (f i : Bool) : ∀ b, F239 a d f i = some b → UU 239 ([V.agg (W59.cells a), i64 d, vb f, vb i]) ([]) = some (A239.out b) :=
  fn_ok (E := E239) (L := notIn []) rfl rfl (fun x => by kernel_rfl)
/-! ## F240 -/
noncomputable def D240 (s : W59) (a : W59) (d : Int) : PT A240 :=
  .auto 1 <|
  .ask E270 (F270_ok s d) fun (r : A270) => match r with
  | .a0 f i =>
   .auto 1 <|
   .ask E270 (F270_ok a d) fun (r : A270) => match r with
   | .a0 j l =>
    .auto 4 <|
    .ask E271 (F271_ok a.c0 a.c1 f i) fun (r : A271) => match r with
    | .a0 t u =>
     .auto 1 <|
     .ask E271 (F271_ok a.c0 a.c1 j l) fun (r : A271) => match r with
     | .a0 v w =>
      .ask E272 (F272_ok 3 ([[i64 a.c0, i64 a.c1], [i64 t, i64 u], [i64 v, i64 w]])) fun (r : A272) => match r with
      | .a0 y m d4 o =>
       .auto 2 <|
       .ask E271 (F271_ok a.c0 a.c1 (w64 (0 - f)) (w64 (0 - i))) fun (r : A271) => match r with
       | .a0 z d0 =>
        .auto 1 <|
        .ask E271 (F271_ok a.c0 a.c1 (w64 (0 - j)) (w64 (0 - l))) fun (r : A271) => match r with
        | .a0 d1 d2 =>
         .ask E272 (F272_ok 3 ([[i64 a.c0, i64 a.c1], [i64 z, i64 d0], [i64 d1, i64 d2]])) fun (r : A272) => match r with
         | .a0 d3 p d5 q =>
          .test (0 + m ≤ List.length o)
           (fun h0 =>
           .test (0 + p ≤ List.length q)
            (fun h1 =>
            .ret (.a0 2 ([[vb y, lS 2 (List.take m o)], [vb d3, lS 2 (List.take p q)]]))
            )
            (fun _ => .fail)
           )
           (fun _ => .fail)
noncomputable def F240 (a : W59) (d : W59) (f : Int) : Option A240 := (D240 a d f).ev some
theorem F240_ok (a : W59) (d : W59) (f : Int) : ∀ b, F240 a d f = some b → UU 240 ([V.agg (W59.cells a), V.agg (W59.cells d), i64 f]) ([]) = some (A240.out b) :=
  fn_ok (E := E240) (L := notIn []) rfl rfl (fun x => by kernel_rfl)
end Go.Proofs.YtifalphladcdcaaGreat.H
