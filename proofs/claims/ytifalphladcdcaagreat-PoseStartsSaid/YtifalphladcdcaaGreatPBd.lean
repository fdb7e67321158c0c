/- What the functions compute, and that they do so over the machine of plain values (printed by this session's program wip/vm/Walk.lean). No condition beyond those stated. -/
import Derived.Test.YtifalphladcdcaaGreatWk
import Derived.Test.YtifalphladcdcaaGreatPBc
set_option linter.unusedVariables false
set_option linter.unusedSimpArgs false
namespace Go.Proofs.YtifalphladcdcaaGreat.H
open Go Go.VM
set_option maxRecDepth 100000
/-! ## F197 -/
noncomputable abbrev B197 : Code := (Tryz.f197.body).getD .skip
inductive T197_r16s0 where
  | mk (a : Int) (d f : Nat) (i : Bool) (j l m : LV)
@[reducible] def T197_r16s0.st : T197_r16s0 → S
  | .mk a d f i j l m => S.mk (U :: U :: U :: pT 0 :: U :: U :: U :: i64 a :: hS 1 d :: U :: hS 2 f :: un 84 []) [oF 2 [[vb i, lS 2 j]], oT 6 l, oT 2 m]
inductive T197_r16e0 where
  | mk (a : Int) (d f : Nat) (i : Bool) (j l : LV)
inductive N197_r16 where
  | e0 (x : T197_r16e0)
@[reducible] def N197_r16.out : N197_r16 → VX × S
  | .e0 (.mk a d f i j l) => (vN, S.mk (un 7 (i64 a :: hS 0 d :: U :: hS 1 f :: un 69 (vb i :: un 14 []))) [oT 6 j, oT 2 l])
abbrev E197_r16 : Ent (VX × S) := ⟨N197_r16, N197_r16.out, fun g => (∃ x, g (.e0 x)), fun g => ⟨fun h => match h with
  | ⟨_, h⟩ => ⟨_, h⟩, fun ⟨b, h⟩ => match b, h with
  | .e0 _, h => ⟨_, h⟩⟩⟩
noncomputable def D197_r16 : T197_r16s0 → PT N197_r16
  | .mk d a f l m i j =>
   .auto 1 <|
   .testB l
    (fun h0 =>
    .auto 3 <|
    .ret (.e0 (.mk d a f (decide ((↑a : Int) ≥ 2)) i j))
    )
    (fun h0 =>
    .auto 3 <|
    .ret (.e0 (.mk d a f false i j))
    )
noncomputable def J197_r16 (y : T197_r16s0) : Option N197_r16 := (D197_r16 y).ev some
theorem J197_r16_ok (y : T197_r16s0) : ∀ b, J197_r16 y = some b → regP Tryz.prog X CC 197 0 B197 16 y.st = some (E197_r16.out b) := by
  cases y; exact reg_ok (E := E197_r16) (fun x => by kernel_rfl)
inductive T197_2s0 where
  | mk (a : Int) (d f : Nat) (i : Int) (j : Bool) (l m o : LV)
inductive T197_2e0 where
  | mk (a : Int) (d f : Nat) (i : Bool) (j l m : LV)
inductive N197_2 where
  | s0 (x : T197_2s0)
  | e0 (x : T197_2e0)
@[reducible] def N197_2.out : N197_2 → VX × S
  | .s0 (.mk a d f i j l m o) => (vN, S.mk (U :: U :: U :: pT 0 :: U :: U :: U :: i64 a :: hS 1 d :: U :: hS 2 f :: U :: U :: i64 i :: un 81 []) [oF 2 [[vb j, lS 2 l]], oT 6 m, oT 2 o])
  | .e0 (.mk p q s t u v w) => (vX 2, S.mk (U :: U :: U :: pT 0 :: U :: U :: U :: i64 p :: hS 1 q :: U :: hS 2 s :: un 84 []) [oF 2 [[vb t, lS 2 u]], oT 6 v, oT 2 w])
abbrev E197_2 : Ent (VX × S) := ⟨N197_2, N197_2.out, fun g => (∃ x, g (.s0 x)) ∨ (∃ x, g (.e0 x)), fun g => ⟨fun h => match h with
  | .inl ⟨_, h⟩ => ⟨_, h⟩
  | .inr (⟨_, h⟩) => ⟨_, h⟩, fun ⟨b, h⟩ => match b, h with
  | .s0 _, h => .inl ⟨_, h⟩
  | .e0 _, h => .inr (⟨_, h⟩)⟩⟩
noncomputable def D197_2 : T197_2s0 → PT N197_2
  | .mk p j d a s t o q =>
   .test (a < (↑j : Int))
    (fun h0 =>
    .test (0 ≤ w64 (a - 1) ∧ w64 (a - 1) < (↑j : Int))
     (fun h1 =>
     .look RW223 (o[(0 : Nat) + Int.toNat (w64 (a - (1 : Int)))]?) fun f =>
     .test (0 ≤ a ∧ a < (↑j : Int))
      (fun h2 =>
      .look RW223 (o[(0 : Nat) + Int.toNat a]?) fun i =>
      .ask E240 (F240_ok (W59.mk f.c0 f.c1 f.c2 f.c3 f.c4 f.c5) (W59.mk i.c0 i.c1 i.c2 i.c3 i.c4 i.c5) p) fun (r : A240) => match r with
      | .a0 l m =>
       .test (0 + l ≤ List.length m)
        (fun h3 =>
        .test (0 + d ≤ List.length q ∧ (d + List.length (List.take l m)) * 32 ≤ 140737488355328 ∧ d + List.length (List.take l m) ≤ 140737488355328)
         (fun h4 =>
         .ret (.s0 (.mk p j (d + List.length (List.take l m)) (w64 (a + 1)) s t o (List.take d q ++ List.take l m)))
         )
         (fun _ => .fail)
        )
        (fun _ => .fail)
      )
      (fun _ => .fail)
     )
     (fun _ => .fail)
    )
    (fun h0 =>
    .ret (.e0 (.mk p j d s t o q))
    )
noncomputable def S197_2 : N197_2 → PT N197_2
  | .s0 x => D197_2 x
  | _ => .fail
def N197_2.off : N197_2 → Bool
  | .s0 _ => false
  | _ => true
noncomputable def L197_2 (n : Nat) (b : N197_2) : Option N197_2 := PT.loop S197_2 N197_2.off n b
theorem L197_2_ok : ∀ (n : Nat) (b : N197_2), N197_2.off b = false → ∀ c, L197_2 n b = some c → loopP Tryz.prog X CC 197 0 18446744073709551616 B197 2 n (E197_2.out b).2 = some (E197_2.out c) :=
  loop_ok (E := E197_2) (step := S197_2) (L := notIn []) (fun b hb => by cases b <;> first | (cases hb; done) | (rename_i x; cases x; intro x; kernel_rfl) | (intro x; kernel_rfl)) (fun b => by cases b <;> rfl)
noncomputable def N197_2.nx (n : Nat) (c : N197_2) : Option N197_2 := match N197_2.off c with
  | true => some c
  | false => L197_2 n c
theorem L197_2_s0 (n : Nat) (x : T197_2s0) : L197_2 (n + 1) (.s0 x) = (D197_2 x).ev (N197_2.nx n) := rfl
theorem N197_2.nx_s0 (n : Nat) (x : T197_2s0) : N197_2.nx n (.s0 x) = L197_2 n (.s0 x) := rfl
theorem N197_2.nx_e0 (n : Nat) (x : T197_2e0) : N197_2.nx n (.e0 x) = some (.e0 x) := rfl
inductive T197_0s0 where
  | mk (a : Int) (d : Nat) (f : Bool) (i : Nat) (j l : Int) (m : Bool) (o p q : LV)
inductive T197_0e0 where
  | mk (a : Int) (d f : Nat) (i : Bool) (j l m : LV)
inductive N197_0 where
  | s0 (x : T197_0s0)
  | e0 (x : T197_0e0)
@[reducible] def N197_0.out : N197_0 → VX × S
  | .s0 (.mk d a f i j l m o p q) => (vN, S.mk (U :: U :: U :: pT 0 :: U :: U :: U :: i64 d :: hS 1 a :: vb f :: hS 2 i :: un 17 (hS 1 a :: i64 j :: i64 l :: un 64 [])) [oF 2 [[vb m, lS 2 o]], oT 6 p, oT 2 q])
  | .e0 (.mk s t u v w y z) => (vX 0, S.mk (U :: U :: U :: pT 0 :: U :: U :: U :: i64 s :: hS 1 t :: U :: hS 2 u :: un 84 []) [oF 2 [[vb v, lS 2 w]], oT 6 y, oT 2 z])
abbrev E197_0 : Ent (VX × S) := ⟨N197_0, N197_0.out, fun g => (∃ x, g (.s0 x)) ∨ (∃ x, g (.e0 x)), fun g => ⟨fun h => match h with
  | .inl ⟨_, h⟩ => ⟨_, h⟩
  | .inr (⟨_, h⟩) => ⟨_, h⟩, fun ⟨b, h⟩ => match b, h with
  | .s0 _, h => .inl ⟨_, h⟩
  | .e0 _, h => .inr (⟨_, h⟩)⟩⟩
noncomputable def D197_0 : T197_0s0 → PT N197_0
  | .mk i j o d p f q s m l =>
   .test (f < p)
    (fun h0 =>
    .test (0 ≤ f ∧ f < (↑j : Int))
     (fun h1 =>
     .look RW223 (m[(0 : Nat) + Int.toNat f]?) fun a =>
     .auto 2 <|
     .testB o
      (fun h2 =>
      .auto 2 <|
      .known h2 <|
      .auto 5 <|
      .ask E239 (F239_ok (W59.mk a.c0 a.c1 a.c2 a.c3 a.c4 a.c5) i (f == 0) (f == w64 ((↑j : Int) - 1))) fun (r : A239) => match r with
      | .a0 y t u =>
       .test (0 + t ≤ List.length u)
        (fun h3 =>
        .auto 1 <|
        .test (0 + d ≤ List.length l ∧ (d + 1) * 32 ≤ 140737488355328 ∧ d + 1 ≤ 140737488355328)
         (fun h4 =>
         .ret (.s0 (.mk i j o (d + 1) p (w64 (f + 1)) q s m (List.take d l ++ [[vb y, lS 2 (List.take t u)]])))
         )
         (fun _ => .fail)
        )
        (fun _ => .fail)
      )
      (fun h2 =>
      .auto 2 <|
      .known h2 <|
      .auto 5 <|
      .ask E239 (F239_ok (W59.mk a.c0 a.c1 a.c2 a.c3 a.c4 a.c5) i false false) fun (r : A239) => match r with
      | .a0 z v w =>
       .test (0 + v ≤ List.length w)
        (fun h3 =>
        .auto 1 <|
        .test (0 + d ≤ List.length l ∧ (d + 1) * 32 ≤ 140737488355328 ∧ d + 1 ≤ 140737488355328)
         (fun h4 =>
         .ret (.s0 (.mk i j o (d + 1) p (w64 (f + 1)) q s m (List.take d l ++ [[vb z, lS 2 (List.take v w)]])))
         )
         (fun _ => .fail)
        )
        (fun _ => .fail)
      )
     )
     (fun _ => .fail)
    )
    (fun h0 =>
    .ret (.e0 (.mk i j d q s m l))
    )
noncomputable def S197_0 : N197_0 → PT N197_0
  | .s0 x => D197_0 x
  | _ => .fail
def N197_0.off : N197_0 → Bool
  | .s0 _ => false
  | _ => true
noncomputable def L197_0 (n : Nat) (b : N197_0) : Option N197_0 := PT.loop S197_0 N197_0.off n b
theorem L197_0_ok : ∀ (n : Nat) (b : N197_0), N197_0.off b = false → ∀ c, L197_0 n b = some c → loopP Tryz.prog X CC 197 0 18446744073709551616 B197 0 n (E197_0.out b).2 = some (E197_0.out c) :=
  loop_ok (E := E197_0) (step := S197_0) (L := notIn []) (fun b hb => by cases b <;> first | (cases hb; done) | (rename_i x; cases x; intro x; kernel_rfl) | (intro x; kernel_rfl)) (fun b => by cases b <;> rfl)
noncomputable def N197_0.nx (n : Nat) (c : N197_0) : Option N197_0 := match N197_0.off c with
  | true => some c
  | false => L197_0 n c
theorem L197_0_s0 (n : Nat) (x : T197_0s0) : L197_0 (n + 1) (.s0 x) = (D197_0 x).ev (N197_0.nx n) := rfl
theorem N197_0.nx_s0 (n : Nat) (x : T197_0s0) : N197_0.nx n (.s0 x) = L197_0 n (.s0 x) := rfl
theorem N197_0.nx_e0 (n : Nat) (x : T197_0e0) : N197_0.nx n (.e0 x) = some (.e0 x) := rfl
inductive T197_r5s0 where
  | mk (a d : Int) (f : Nat) (i : Bool) (j l : LV)
@[reducible] def T197_r5s0.st : T197_r5s0 → S
  | .mk a d f i j l => S.mk (U :: U :: i64 a :: pT 0 :: U :: U :: U :: i64 d :: hS 1 f :: un 86 []) [oF 2 [[vb i, lS 2 j]], oT 6 l]
inductive T197_r5e0 where
  | mk (a : Int) (d : Nat) (f i : Bool) (j l : LV)
inductive N197_r5 where
  | e0 (x : T197_r5e0)
@[reducible] def N197_r5.out : N197_r5 → VX × S
  | .e0 (.mk a d f i j l) => (vN, S.mk (U :: U :: U :: pT 0 :: U :: U :: U :: i64 a :: hS 1 d :: vb f :: un 85 []) [oF 2 [[vb i, lS 2 j]], oT 6 l])
abbrev E197_r5 : Ent (VX × S) := ⟨N197_r5, N197_r5.out, fun g => (∃ x, g (.e0 x)), fun g => ⟨fun h => match h with
  | ⟨_, h⟩ => ⟨_, h⟩, fun ⟨b, h⟩ => match b, h with
  | .e0 _, h => ⟨_, h⟩⟩⟩
noncomputable def D197_r5 : T197_r5s0 → PT N197_r5
  | .mk l d f a i j =>
   .testB (l == 1)
    (fun h0 =>
    .auto 4 <|
    .ret (.e0 (.mk d f (!a) a i j))
    )
    (fun h0 =>
    .auto 3 <|
    .ret (.e0 (.mk d f false a i j))
    )
noncomputable def J197_r5 (y : T197_r5s0) : Option N197_r5 := (D197_r5 y).ev some
theorem J197_r5_ok (y : T197_r5s0) : ∀ b, J197_r5 y = some b → regP Tryz.prog X CC 197 0 B197 5 y.st = some (E197_r5.out b) := by
  cases y; exact reg_ok (E := E197_r5) (fun x => by kernel_rfl)
noncomputable def D197 (o : Bool) (p : LV) (u v : Int) : PT A197 :=
  .auto 1 <|
  .tot O74 (F74_ok (Int.fdiv u 2) 0 67108864) fun q =>
  .testB (q == 0)
   (fun h0 =>
   .ret (.a0 0 ([]))
   )
   (fun h0 =>
   .auto 1 <|
   .ask E238 (F238_ok o p) fun (r : A238) => match r with
   | .a0 w y =>
    .cut E197_r5 (J197_r5_ok (.mk v q w o p y)) fun (r : N197_r5) => match r with
    | .e0 (.mk z s d0 d1 d2 d3) =>
     .cut E197_0 (L197_0_ok 18446744073709551616 (.s0 (.mk z s d0 0 ((↑s : Int)) 0 d1 d2 d3 ([]))) rfl) fun (r : N197_0) => match r with
     | .e0 (.mk d4 d5 d6 d7 d8 d9 f0) =>
      .cut E197_2 (L197_2_ok 18446744073709551616 (.s0 (.mk d4 d5 d6 1 d7 d8 d9 f0)) rfl) fun (r : N197_2) => match r with
      | .e0 (.mk f1 f2 f3 f4 f5 f6 f7) =>
       .cut E197_r16 (J197_r16_ok (.mk f1 f2 f3 f4 f5 f6 f7)) fun (r : N197_r16) => match r with
       | .e0 (.mk f8 i a f9 t m) =>
        .testB f9
         (fun h1 =>
         .test (0 ≤ w64 ((↑i : Int) - 1) ∧ w64 ((↑i : Int) - 1) < (↑i : Int))
          (fun h2 =>
          .look RW223 (t[(0 : Nat) + Int.toNat (w64 ((↑i : Int) - (1 : Int)))]?) fun d =>
          .test ((0 : Int) ≤ (0 : Int) ∧ (0 : Int) < (↑i : Int))
           (fun h3 =>
           .look RW223 (t[(0 : Nat)]?) fun f =>
           .ask E240 (F240_ok (W59.mk d.c0 d.c1 d.c2 d.c3 d.c4 d.c5) (W59.mk f.c0 f.c1 f.c2 f.c3 f.c4 f.c5) f8) fun (r : A240) => match r with
           | .a0 j l =>
            .test (0 + j ≤ List.length l)
             (fun h4 =>
             .test (0 + a ≤ List.length m ∧ (a + List.length (List.take j l)) * 32 ≤ 140737488355328 ∧ a + List.length (List.take j l) ≤ 140737488355328)
              (fun h5 =>
              .ret (.a0 (a + List.length (List.take j l)) (List.take a m ++ List.take j l))
              )
              (fun _ => .fail)
             )
             (fun _ => .fail)
           )
           (fun _ => .fail)
          )
          (fun _ => .fail)
         )
         (fun h1 =>
         .ret (.a0 a m)
         )
      | _ => .fail
     | _ => .fail
   )
noncomputable def F197 (a : Bool) (d : LV) (f i : Int) : Option A197 := (D197 a d f i).ev some
theorem F197_ok (a : Bool) (d : LV) (f i : Int) : ∀ b, F197 a d f i = some b → UU 197 ([V.agg [vb a, lS 2 d], i64 f, i64 i]) ([]) = some (A197.out b) :=
  fn_ok (E := E197) (L := notIn []) rfl rfl (fun x => by kernel_rfl)
/-! ## F140 -/
noncomputable abbrev B140 : Code := (Tryz.f140.body).getD .skip
inductive T140_2s0 where
  | mk (a : Int) (d : Nat) (f i : Int) (j : Nat) (l m o p : Int) (q s t : LV) (u : Bool) (v w y z d0 d1 d2 d3 d4 d5 d6 d7 d8 d9 f0 : Int) (f1 : LV) (f2 : Bool) (f3 : LV) (f4 f5 f6 f7 f8 : Int) (f9 j0 j1 : LV) (j2 : W59) (j3 : Nat) (j4 : Int) (j5 j6 j7 : LV)
inductive T140_2e0 where
  | mk (a : Int) (d : Nat) (f i j l : Int) (m o p : LV) (q : Bool) (s t u v w y z d0 d1 d2 d3 d4 d5 d6 d7 : Int) (d8 : LV) (d9 : Bool) (f0 : LV) (f1 f2 f3 f4 f5 : Int) (f6 f7 f8 : LV) (f9 : W59) (j0 : Nat) (j1 : Int) (j2 j3 : LV)
inductive N140_2 where
  | s0 (x : T140_2s0)
  | e0 (x : T140_2e0)
@[reducible] def N140_2.out : N140_2 → VX × S
  | .s0 (.mk p q s t u v w y z d0 d1 d2 d3 d4 d5 d6 d7 d8 d9 f0 f1 f2 f3 f4 f5 f6 f7 f8 f9 j0 j1 a d f i j2 j3 j4 j5 j6 j7 j8 j9 l0 l1) => (vN, S.mk (un 5 (pT 0 :: U :: pT 1 :: U :: U :: pT 2 :: pT 3 :: i64 p :: un 24 (hS 4 q :: i64 s :: i64 t :: un 6 (hS 5 u :: i64 v :: i64 w :: un 17 [])))) [oF 32 [[i64 y, i64 z, lS 7 d0, lS 7 d1, lS 8 d2, vb d3, i64 d4, i64 d5, u8 d6, u8 d7, u8 d8, u8 d9, u8 f0, u8 f1, u8 f2, u8 f3, i64 f4, i64 f5, i64 f6, i64 f7, i64 f8, lS 10 f9, vb j0, lS 7 j1, u8 a, u8 d, u8 f, u8 i, i64 j2, lS 1 j3, lS 7 j4, lS 7 j5]], oF 6 [W59.cells j6], oF 17 [[hS 6 0, i64 0, i64 0, u8 0, u8 0, u8 0, u8 0, u8 0, u8 0, u8 0, u8 0, i64 0, i64 0, i64 0, i64 0, i64 0, i64 0]], oF 17 [[hS 7 j7, i64 0, i64 0, u8 a, u8 d, u8 f, u8 i, u8 a, u8 d, u8 f, u8 i, i64 0, i64 0, i64 0, i64 0, i64 0, i64 j8]], oT 2 j9, oT 2 l0, oT 2 [], oT 2 l1])
  | .e0 (.mk l2 l3 l4 l5 l6 l7 l8 l9 m0 m1 m2 m3 m4 m5 m6 m7 m8 m9 o0 o1 o2 o3 o4 o5 o6 o7 o8 o9 j l m o p0 p1 p2 p3 p4 p5 p6 p7 p8) => (vX 2, S.mk (un 5 (pT 0 :: U :: pT 1 :: U :: U :: pT 2 :: pT 3 :: i64 l2 :: un 24 (hS 4 l3 :: i64 l4 :: i64 l5 :: un 26 []))) [oF 32 [[i64 l6, i64 l7, lS 7 l8, lS 7 l9, lS 8 m0, vb m1, i64 m2, i64 m3, u8 m4, u8 m5, u8 m6, u8 m7, u8 m8, u8 m9, u8 o0, u8 o1, i64 o2, i64 o3, i64 o4, i64 o5, i64 o6, lS 10 o7, vb o8, lS 7 o9, u8 j, u8 l, u8 m, u8 o, i64 p0, lS 1 p1, lS 7 p2, lS 7 p3]], oF 6 [W59.cells p4], oF 17 [[hS 5 0, i64 0, i64 0, u8 0, u8 0, u8 0, u8 0, u8 0, u8 0, u8 0, u8 0, i64 0, i64 0, i64 0, i64 0, i64 0, i64 0]], oF 17 [[hS 6 p5, i64 0, i64 0, u8 j, u8 l, u8 m, u8 o, u8 j, u8 l, u8 m, u8 o, i64 0, i64 0, i64 0, i64 0, i64 0, i64 p6]], oT 2 p7, oT 2 [], oT 2 p8])
abbrev E140_2 : Ent (VX × S) := ⟨N140_2, N140_2.out, fun g => (∃ x, g (.s0 x)) ∨ (∃ x, g (.e0 x)), fun g => ⟨fun h => match h with
  | .inl ⟨_, h⟩ => ⟨_, h⟩
  | .inr (⟨_, h⟩) => ⟨_, h⟩, fun ⟨b, h⟩ => match b, h with
  | .s0 _, h => .inl ⟨_, h⟩
  | .e0 _, h => .inr (⟨_, h⟩)⟩⟩
noncomputable def D140_2 : T140_2s0 → PT N140_2
  | .mk j p q s t u d v w y z d0 d1 d2 d3 d4 d5 d6 d7 d8 d9 f0 f1 f2 f3 f4 f5 f6 f7 f8 f9 j0 j1 j2 j3 l j4 j5 j6 m a j7 j8 j9 o =>
   .test (d < u)
    (fun h0 =>
    .test (0 ≤ d ∧ d < (↑t : Int))
     (fun h1 =>
     .look RW88 (j9[(0 : Nat) + Int.toNat d]?) fun l0 =>
     .auto 5 <|
     .ask E197 (F197_ok l0.c0 l0.c1 j l) fun (r : A197) => match r with
     | .a0 l1 l2 =>
      .test (0 + l1 ≤ List.length l2)
       (fun h2 =>
       .ask E147 (F147_ok m (List.take l1 l2)) fun (r : A147) => match r with
       | .a0 f i =>
        .test (0 + f ≤ List.length i)
         (fun h3 =>
         .test (0 + a ≤ List.length o ∧ (a + List.length (List.take f i)) * 32 ≤ 140737488355328 ∧ a + List.length (List.take f i) ≤ 140737488355328)
          (fun h4 =>
          .auto 1 <|
          .ret (.s0 (.mk j p q s t u (w64 (d + 1)) v w y z d0 d1 d2 d3 d4 d5 d6 d7 d8 d9 f0 f1 f2 f3 f4 f5 f6 f7 f8 f9 j0 j1 j2 j3 l j4 j5 j6 m (a + List.length (List.take f i)) j7 j8 j9 (List.take a o ++ List.take f i)))
          )
          (fun _ => .fail)
         )
         (fun _ => .fail)
       )
       (fun _ => .fail)
     )
     (fun _ => .fail)
    )
    (fun h0 =>
    .ret (.e0 (.mk j p q s v w y z d0 d1 d2 d3 d4 d5 d6 d7 d8 d9 f0 f1 f2 f3 f4 f5 f6 f7 f8 f9 j0 j1 j2 j3 l j4 j5 j6 m a j7 j8 o))
    )
noncomputable def S140_2 : N140_2 → PT N140_2
  | .s0 x => D140_2 x
  | _ => .fail
def N140_2.off : N140_2 → Bool
  | .s0 _ => false
  | _ => true
noncomputable def L140_2 (n : Nat) (b : N140_2) : Option N140_2 := PT.loop S140_2 N140_2.off n b
theorem L140_2_ok : ∀ (n : Nat) (b : N140_2), N140_2.off b = false → ∀ c, L140_2 n b = some c → loopP Tryz.prog X CC 140 0 18446744073709551616 B140 2 n (E140_2.out b).2 = some (E140_2.out c) :=
  loop_ok (E := E140_2) (step := S140_2) (L := notIn []) (fun b hb => by cases b <;> first | (cases hb; done) | (rename_i x; cases x; intro x; kernel_rfl) | (intro x; kernel_rfl)) (fun b => by cases b <;> rfl)
noncomputable def N140_2.nx (n : Nat) (c : N140_2) : Option N140_2 := match N140_2.off c with
  | true => some c
  | false => L140_2 n c
theorem L140_2_s0 (n : Nat) (x : T140_2s0) : L140_2 (n + 1) (.s0 x) = (D140_2 x).ev (N140_2.nx n) := rfl
theorem N140_2.nx_s0 (n : Nat) (x : T140_2s0) : N140_2.nx n (.s0 x) = L140_2 n (.s0 x) := rfl
theorem N140_2.nx_e0 (n : Nat) (x : T140_2e0) : N140_2.nx n (.e0 x) = some (.e0 x) := rfl
inductive T140_0s0 where
  | mk (a : Int) (d : Nat) (f i j l : Int) (m o p : LV) (q : Bool) (s t u v w y z d0 d1 d2 d3 d4 d5 d6 d7 : Int) (d8 : LV) (d9 : Bool) (f0 : LV) (f1 f2 f3 f4 f5 : Int) (f6 f7 f8 : LV) (f9 : W59) (j0 : Nat) (j1 : Int) (j2 j3 : LV)
inductive T140_0e0 where
  | mk (a : Nat) (d f i j l : Int) (m : LV)
inductive N140_0 where
  | s0 (x : T140_0s0)
  | e0 (x : T140_0e0)
@[reducible] def N140_0.out : N140_0 → VX × S
  | .s0 (.mk p q s t u v w y z d0 d1 d2 d3 d4 d5 d6 d7 d8 d9 f0 f1 f2 f3 f4 f5 f6 f7 f8 a d f i f9 j0 j1 j2 j3 j4 j5 j6 j7) => (vN, S.mk (un 5 (pT 0 :: U :: pT 1 :: U :: U :: pT 2 :: pT 3 :: i64 p :: un 24 (hS 4 q :: i64 s :: i64 t :: un 26 []))) [oF 32 [[i64 u, i64 v, lS 7 w, lS 7 y, lS 8 z, vb d0, i64 d1, i64 d2, u8 d3, u8 d4, u8 d5, u8 d6, u8 d7, u8 d8, u8 d9, u8 f0, i64 f1, i64 f2, i64 f3, i64 f4, i64 f5, lS 10 f6, vb f7, lS 7 f8, u8 a, u8 d, u8 f, u8 i, i64 f9, lS 1 j0, lS 7 j1, lS 7 j2]], oF 6 [W59.cells j3], oF 17 [[hS 5 0, i64 0, i64 0, u8 0, u8 0, u8 0, u8 0, u8 0, u8 0, u8 0, u8 0, i64 0, i64 0, i64 0, i64 0, i64 0, i64 0]], oF 17 [[hS 6 j4, i64 0, i64 0, u8 a, u8 d, u8 f, u8 i, u8 a, u8 d, u8 f, u8 i, i64 0, i64 0, i64 0, i64 0, i64 0, i64 j5]], oT 2 j6, oT 2 [], oT 2 j7])
  | .e0 (.mk j8 j l m o j9 l0) => (vX 0, S.mk (un 10 (pT 0 :: pT 1 :: un 54 [])) [oF 17 [[hS 2 0, i64 0, i64 0, u8 0, u8 0, u8 0, u8 0, u8 0, u8 0, u8 0, u8 0, i64 0, i64 0, i64 0, i64 0, i64 0, i64 0]], oF 17 [[hS 3 j8, i64 0, i64 0, u8 j, u8 l, u8 m, u8 o, u8 j, u8 l, u8 m, u8 o, i64 0, i64 0, i64 0, i64 0, i64 0, i64 j9]], oT 2 [], oT 2 l0])
abbrev E140_0 : Ent (VX × S) := ⟨N140_0, N140_0.out, fun g => (∃ x, g (.s0 x)) ∨ (∃ x, g (.e0 x)), fun g => ⟨fun h => match h with
  | .inl ⟨_, h⟩ => ⟨_, h⟩
  | .inr (⟨_, h⟩) => ⟨_, h⟩, fun ⟨b, h⟩ => match b, h with
  | .s0 _, h => .inl ⟨_, h⟩
  | .e0 _, h => .inr (⟨_, h⟩)⟩⟩
noncomputable def D140_0 : T140_0s0 → PT N140_0
  | .mk w d f a y z d0 d1 d2 d3 d4 d5 d6 d7 d8 d9 f0 f1 f2 f3 f4 f5 f6 f7 f8 f9 j0 j1 i j l m j2 o j3 j4 j5 p q s t =>
   .test (a < f)
    (fun h0 =>
    .test (0 ≤ a ∧ a < (↑d : Int))
     (fun h1 =>
     .look RW88 (s[(0 : Nat) + Int.toNat a]?) fun u =>
     .auto 3 <|
     .ask E196 (F196_ok u.c0 u.c1 o) fun (r : A196) => match r with
     | .a0 v j6 =>
      .cut E140_2 (L140_2_ok 18446744073709551616 (.s0 (.mk w d f a v ((↑v : Int)) 0 y z d0 d1 d2 d3 d4 d5 d6 d7 d8 d9 f0 f1 f2 f3 f4 f5 f6 f7 f8 f9 j0 j1 i j l m j2 o j3 j4 j5 p q s j6 t)) rfl) fun (r : N140_2) => match r with
      | .e0 (.mk j7 j8 j9 l0 l1 l2 l3 l4 l5 l6 l7 l8 l9 m0 m1 m2 m3 m4 m5 m6 m7 m8 m9 o0 o1 o2 o3 o4 o5 o6 o7 o8 o9 p0 p1 p2 p3 p4 p5 p6 p7) =>
       .ret (.s0 (.mk j7 j8 j9 (w64 (l0 + 1)) l1 l2 l3 l4 l5 l6 l7 l8 l9 m0 m1 m2 m3 m4 m5 m6 m7 m8 m9 o0 o1 o2 o3 o4 o5 o6 o7 o8 o9 p0 p1 p2 p3 p4 p5 p6 p7))
      | _ => .fail
     )
     (fun _ => .fail)
    )
    (fun h0 =>
    .ret (.e0 (.mk p i j l m q t))
    )
noncomputable def S140_0 : N140_0 → PT N140_0
  | .s0 x => D140_0 x
  | _ => .fail
def N140_0.off : N140_0 → Bool
  | .s0 _ => false
  | _ => true
noncomputable def L140_0 (n : Nat) (b : N140_0) : Option N140_0 := PT.loop S140_0 N140_0.off n b
theorem L140_0_ok : ∀ (n : Nat) (b : N140_0), N140_0.off b = false → ∀ c, L140_0 n b = some c → loopP Tryz.prog X CC 140 0 18446744073709551616 B140 0 n (E140_0.out b).2 = some (E140_0.out c) :=
  loop_ok (E := E140_0) (step := S140_0) (L := notIn []) (fun b hb => by cases b <;> first | (cases hb; done) | (rename_i x; cases x; intro x; kernel_rfl) | (intro x; kernel_rfl)) (fun b => by cases b <;> rfl)
noncomputable def N140_0.nx (n : Nat) (c : N140_0) : Option N140_0 := match N140_0.off c with
  | true => some c
  | false => L140_0 n c
theorem L140_0_s0 (n : Nat) (x : T140_0s0) : L140_0 (n + 1) (.s0 x) = (D140_0 x).ev (N140_0.nx n) := rfl
theorem N140_0.nx_s0 (n : Nat) (x : T140_0s0) : N140_0.nx n (.s0 x) = L140_0 n (.s0 x) := rfl
theorem N140_0.nx_e0 (n : Nat) (x : T140_0e0) : N140_0.nx n (.e0 x) = some (.e0 x) := rfl
noncomputable def D140 (q s : Int) (t u v : LV) (w : Bool) (y z d0 d1 d2 d3 d4 d5 d6 d7 d8 d9 f0 f1 f2 : Int) (f3 : LV) (f4 : Bool) (d : LV) (f5 f6 f7 f8 f9 : Int) (j0 f i : LV) (a : Int) (j1 : W59) (j2 : Int) (j3 : LV) : PT A140 :=
  .auto 4 <|
  .ask E72 (F72_ok d a 0) fun (r : A72) => match r with
  | .a0 j4 =>
   .auto 1 <|
   .ask E72 (F72_ok f a 0) fun (r : A72) => match r with
   | .a0 j5 =>
    .auto 1 <|
    .ask E72 (F72_ok i a 65536) fun (r : A72) => match r with
    | .a0 j6 =>
     .ask E195 (F195_ok j3 j5 j6) fun (r : A195) => match r with
     | .a0 j j7 =>
      .cut E140_0 (L140_0_ok 18446744073709551616 (.s0 (.mk j4 j ((↑j : Int)) 0 q s t u v w y z d0 d1 d2 d3 d4 d5 d6 d7 d8 d9 f0 f1 f2 f3 f4 d f5 f6 f7 f8 f9 j0 f i j1 0 j2 j7 ([]))) rfl) fun (r : N140_0) => match r with
      | .e0 (.mk j8 l m o p j9 l0) =>
       .auto 2 <|
       .ret (.a0 j8 0 0 l m o p l m o p 0 0 0 0 0 j9 l0)
      | _ => .fail
noncomputable def F140 (a d : Int) (f i j : LV) (l : Bool) (m o p q s t u v w y z d0 d1 d2 d3 : Int) (d4 : LV) (d5 : Bool) (d6 : LV) (d7 d8 d9 f0 f1 : Int) (f2 f3 f4 : LV) (f5 : Int) (f6 : W59) (f7 : Int) (f8 : LV) : Option A140 := (D140 a d f i j l m o p q s t u v w y z d0 d1 d2 d3 d4 d5 d6 d7 d8 d9 f0 f1 f2 f3 f4 f5 f6 f7 f8).ev some
theorem F140_ok (a d : Int) (f i j : LV) (l : Bool) (m o p q s t u v w y z d0 d1 d2 d3 : Int) (d4 : LV) (d5 : Bool) (d6 : LV) (d7 d8 d9 f0 f1 : Int) (f2 f3 f4 : LV) (f5 : Int) (f6 : W59) (f7 : Int) (f8 : LV) : ∀ b, F140 a d f i j l m o p q s t u v w y z d0 d1 d2 d3 d4 d5 d6 d7 d8 d9 f0 f1 f2 f3 f4 f5 f6 f7 f8 = some b → UU 140 ([V.agg [i64 a, i64 d, lS 7 f, lS 7 i, lS 8 j, vb l, i64 m, i64 o, u8 p, u8 q, u8 s, u8 t, u8 u, u8 v, u8 w, u8 y, i64 z, i64 d0, i64 d1, i64 d2, i64 d3, lS 10 d4, vb d5, lS 7 d6, u8 d7, u8 d8, u8 d9, u8 f0, i64 f1, lS 1 f2, lS 7 f3, lS 7 f4], i64 f5, V.agg (W59.cells f6), i64 f7, lS 2 f8]) ([]) = some (A140.out b) :=
  fn_ok (E := E140) (L := notIn []) rfl rfl (fun x => by kernel_rfl)
/-! ## F75 -/
noncomputable abbrev B75 : Code := (Tryz.f75.body).getD .skip
inductive T75_c24s0 where
  | mk (a d : Int) (f : Bool) (i j : Int) (l m o : LV) (p q s t u v w y z d0 d1 d2 d3 d4 d5 : Int) (d6 : LV) (d7 : Bool) (d8 : LV) (d9 f0 f1 f2 f3 : Int) (f4 f5 f6 : LV) (f7 : W59) (f8 : LV)
@[reducible] def T75_c24s0.st : T75_c24s0 → S
  | .mk d f a i j l m o p q s t u v w y z d0 d1 d2 d3 d4 d5 d6 d7 d8 d9 f0 f1 f2 f3 f4 f5 f6 f7 f8 => S.mk (U :: i64 d :: U :: i64 f :: pT 0 :: U :: pT 1 :: U :: U :: U :: hS 2 0 :: hS 3 1 :: un 12 (vb a :: un 26 [])) [oF 32 [[i64 i, i64 j, lS 7 l, lS 7 m, lS 8 o, vb a, i64 p, i64 q, u8 s, u8 t, u8 u, u8 v, u8 w, u8 y, u8 z, u8 d0, i64 d1, i64 d2, i64 d3, i64 d4, i64 d5, lS 10 d6, vb d7, lS 7 d8, u8 d9, u8 f0, u8 f1, u8 f2, i64 f3, lS 1 f4, lS 7 f5, lS 7 f6]], oF 6 [W59.cells f7], oT 17 [], oT 2 f8]
inductive T75_c24e0 where
  | mk (a d f i : Int) (j l m : LV) (o : Bool) (p q s t u v w y z d0 d1 d2 d3 d4 d5 : Int) (d6 : LV) (d7 : Bool) (d8 : LV) (d9 f0 f1 f2 f3 : Int) (f4 f5 f6 : LV) (f7 : W59) (f8 f9 : LV)
inductive T75_c24e1 where
  | mk (a d f i : Int) (j l m : LV) (o : Bool) (p q s t u v w y z d0 d1 d2 d3 d4 d5 : Int) (d6 : LV) (d7 : Bool) (d8 : LV) (d9 f0 f1 f2 f3 : Int) (f4 f5 f6 : LV) (f7 : W59) (f8 : LV)
inductive N75_c24 where
  | e0 (x : T75_c24e0)
  | e1 (x : T75_c24e1)
@[reducible] def N75_c24.out : N75_c24 → VX × S
  | .e0 (.mk a d f i j l m o p q s t u v w y z d0 d1 d2 d3 d4 d5 d6 d7 d8 d9 f0 f1 f2 f3 f4 f5 f6 f7 f8 f9) => (vN, S.mk (U :: i64 a :: U :: i64 d :: pT 0 :: U :: pT 1 :: U :: U :: U :: hS 2 1 :: hS 3 1 :: un 39 []) [oF 32 [[i64 f, i64 i, lS 7 j, lS 7 l, lS 8 m, vb o, i64 p, i64 q, u8 s, u8 t, u8 u, u8 v, u8 w, u8 y, u8 z, u8 d0, i64 d1, i64 d2, i64 d3, i64 d4, i64 d5, lS 10 d6, vb d7, lS 7 d8, u8 d9, u8 f0, u8 f1, u8 f2, i64 f3, lS 1 f4, lS 7 f5, lS 7 f6]], oF 6 [W59.cells f7], oT 17 f8, Ob.cells false true 2 f9])
  | .e1 (.mk j0 j1 j2 j3 j4 j5 j6 j7 j8 j9 l0 l1 l2 l3 l4 l5 l6 l7 l8 l9 m0 m1 m2 m3 m4 m5 m6 m7 m8 m9 o0 o1 o2 o3 o4 o5) => (vN, S.mk (U :: i64 j0 :: U :: i64 j1 :: pT 0 :: U :: pT 1 :: U :: U :: U :: hS 2 0 :: hS 3 1 :: un 39 []) [oF 32 [[i64 j2, i64 j3, lS 7 j4, lS 7 j5, lS 8 j6, vb j7, i64 j8, i64 j9, u8 l0, u8 l1, u8 l2, u8 l3, u8 l4, u8 l5, u8 l6, u8 l7, i64 l8, i64 l9, i64 m0, i64 m1, i64 m2, lS 10 m3, vb m4, lS 7 m5, u8 m6, u8 m7, u8 m8, u8 m9, i64 o0, lS 1 o1, lS 7 o2, lS 7 o3]], oF 6 [W59.cells o4], oT 17 [], oT 2 o5])
abbrev E75_c24 : Ent (VX × S) := ⟨N75_c24, N75_c24.out, fun g => (∃ x, g (.e0 x)) ∨ (∃ x, g (.e1 x)), fun g => ⟨fun h => match h with
  | .inl ⟨_, h⟩ => ⟨_, h⟩
  | .inr (⟨_, h⟩) => ⟨_, h⟩, fun ⟨b, h⟩ => match b, h with
  | .e0 _, h => .inl ⟨_, h⟩
  | .e1 _, h => .inr (⟨_, h⟩)⟩⟩
noncomputable def D75_c24 : T75_c24s0 → PT N75_c24
  | .mk f i a j l m o p q s t u v w y z d0 d1 d2 d3 d4 d5 d6 d7 d8 d9 f0 f1 f2 f3 f4 f5 f6 f7 f8 d =>
   .testB a
    (fun h0 =>
    .auto 2 <|
    .test (1 ≤ List.length d)
     (fun h1 =>
     .ask E139 (F139_ok j l m o p a q s t u v w y z d0 d1 d2 d3 d4 d5 d6 d7 d8 d9 f0 f1 f2 f3 f4 f5 f6 f7 f f8 i (List.take 1 d)) fun (r : A139) => match r with
     | .a0 f9 j1 j2 j3 j4 j5 j6 j7 j8 j9 l0 l1 l2 l3 l4 l5 l6 j0 =>
      .test (0 + f9 ≤ List.length j0)
       (fun h2 =>
       .auto 2 <|
       .ret (.e0 (.mk f i j l m o p a q s t u v w y z d0 d1 d2 d3 d4 d5 d6 d7 d8 d9 f0 f1 f2 f3 f4 f5 f6 f7 f8 ([[lS 2 (List.take f9 j0), i64 j1, i64 j2, u8 j3, u8 j4, u8 j5, u8 j6, u8 j7, u8 j8, u8 j9, u8 l0, i64 l1, i64 l2, i64 l3, i64 l4, i64 l5, i64 l6]]) d))
       )
       (fun _ => .fail)
     )
     (fun _ => .fail)
    )
    (fun h0 =>
    .ret (.e1 (.mk f i j l m o p a q s t u v w y z d0 d1 d2 d3 d4 d5 d6 d7 d8 d9 f0 f1 f2 f3 f4 f5 f6 f7 f8 d))
    )
noncomputable def J75_c24 (y : T75_c24s0) : Option N75_c24 := (D75_c24 y).ev some
theorem J75_c24_ok (y : T75_c24s0) : ∀ b, J75_c24 y = some b → condP Tryz.prog X CC 75 0 18446744073709551616 B75 24 y.st = some (E75_c24.out b) := by
  cases y; exact cond_ok (E := E75_c24) (L := notIn []) (fun x => by kernel_rfl)
noncomputable def D75 (j l : Int) (m o p : LV) (q : Bool) (s t u v w y z d0 d1 d2 d3 d4 d5 d6 d7 : Int) (d8 : LV) (d9 : Bool) (f0 : LV) (f1 f2 f3 f4 f5 : Int) (f6 f7 f8 : LV) (f9 : Int) (j9 : W59) (l0 : Int) : PT A75 :=
  .auto 1 <|
  .ask E51 (F51_ok j l m o p q s t u v w y z d0 d1 d2 d3 d4 d5 d6 d7 d8 d9 f0 f1 f2 f3 f4 f5 f6 f7 f8 f9) fun (r : A51) => match r with
  | .a0 l1 j0 j1 =>
   .test (0 + j0 ≤ List.length j1)
    (fun h0 =>
    .ask E138 (F138_ok l1 (List.take j0 j1)) fun (r : A138) => match r with
    | .a0 l2 d j2 =>
     .auto 2 <|
     .testB ((↑d : Int) == 0)
      (fun h1 =>
      .ret (.a0 0 ([]))
      )
      (fun h1 =>
      .auto 1 <|
      .test (0 + d ≤ List.length j2)
       (fun h2 =>
       .auto 1 <|
       .cut E75_c24 (J75_c24_ok (.mk f9 l0 q j l m o p s t u v w y z d0 d1 d2 d3 d4 d5 d6 d7 d8 d9 f0 f1 f2 f3 f4 f5 f6 f7 f8 j9 ([[vb l2, lS 2 (List.take d j2)]]))) fun (r : N75_c24) => match r with
       | .e0 (.mk l3 l4 l5 l6 l7 l8 l9 m0 m1 m2 m3 m4 m5 m6 m7 m8 m9 o0 o1 o2 o3 o4 o5 o6 j3 o7 o8 o9 p0 p1 p2 p3 p4 p5 p6 a j4) =>
        .auto 1 <|
        .testB j3
         (fun h3 =>
         .auto 2 <|
         .test (1 ≤ List.length j4)
          (fun h4 =>
          .ask E140 (F140_ok l5 l6 l7 l8 l9 m0 m1 m2 m3 m4 m5 m6 m7 m8 m9 o0 o1 o2 o3 o4 o5 o6 j3 o7 o8 o9 p0 p1 p2 p3 p4 p5 l3 p6 l4 (List.take 1 j4)) fun (r : A140) => match r with
          | .a0 f p7 p8 p9 q0 q1 q2 q3 q4 q5 q6 q7 q8 q9 t0 t1 t2 j5 =>
           .auto 2 <|
           .test ((↑f : Int) > 0)
            (fun h5 =>
            .auto 1 <|
            .test (0 + f ≤ List.length j5)
             (fun h6 =>
             .auto 1 <|
             .test ((1 : Nat) ≤ List.length a ∧ (192 : Nat) ≤ (140737488355328 : Nat) ∧ (2 : Nat) ≤ (140737488355328 : Nat))
              (fun h7 =>
              .ret (.a0 2 (List.take 1 a ++ [[lS 2 (List.take f j5), i64 p7, i64 p8, u8 p9, u8 q0, u8 q1, u8 q2, u8 q3, u8 q4, u8 q5, u8 q6, i64 q7, i64 q8, i64 q9, i64 t0, i64 t1, i64 t2]]))
              )
              (fun _ => .fail)
             )
             (fun _ => .fail)
            )
            (fun h5 =>
            .ret (.a0 1 a)
            )
          )
          (fun _ => .fail)
         )
         (fun h3 =>
         .ret (.a0 1 a)
         )
       | .e1 (.mk t3 t4 t5 t6 t7 t8 t9 v0 v1 v2 v3 v4 v5 v6 v7 v8 v9 y0 y1 y2 y3 y4 y5 y6 j6 y7 y8 y9 z0 z1 z2 z3 z4 z5 z6 j7) =>
        .auto 1 <|
        .testB j6
         (fun h3 =>
         .auto 2 <|
         .test (1 ≤ List.length j7)
          (fun h4 =>
          .ask E140 (F140_ok t5 t6 t7 t8 t9 v0 v1 v2 v3 v4 v5 v6 v7 v8 v9 y0 y1 y2 y3 y4 y5 y6 j6 y7 y8 y9 z0 z1 z2 z3 z4 z5 t3 z6 t4 (List.take 1 j7)) fun (r : A140) => match r with
          | .a0 i z7 z8 z9 d10 d11 d12 d13 d14 d15 d16 d17 d18 d19 d20 d21 d22 j8 =>
           .auto 2 <|
           .test ((↑i : Int) > 0)
            (fun h5 =>
            .auto 1 <|
            .test (0 + i ≤ List.length j8)
             (fun h6 =>
             .auto 2 <|
             .ret (.a0 1 ([[lS 2 (List.take i j8), i64 z7, i64 z8, u8 z9, u8 d10, u8 d11, u8 d12, u8 d13, u8 d14, u8 d15, u8 d16, i64 d17, i64 d18, i64 d19, i64 d20, i64 d21, i64 d22]]))
             )
             (fun _ => .fail)
            )
            (fun h5 =>
            .ret (.a0 0 ([]))
            )
          )
          (fun _ => .fail)
         )
         (fun h3 =>
         .ret (.a0 0 ([]))
         )
       )
       (fun _ => .fail)
      )
    )
    (fun _ => .fail)
noncomputable def F75 (a d : Int) (f i j : LV) (l : Bool) (m o p q s t u v w y z d0 d1 d2 d3 : Int) (d4 : LV) (d5 : Bool) (d6 : LV) (d7 d8 d9 f0 f1 : Int) (f2 f3 f4 : LV) (f5 : Int) (f6 : W59) (f7 : Int) : Option A75 := (D75 a d f i j l m o p q s t u v w y z d0 d1 d2 d3 d4 d5 d6 d7 d8 d9 f0 f1 f2 f3 f4 f5 f6 f7).ev some
theorem F75_ok (a d : Int) (f i j : LV) (l : Bool) (m o p q s t u v w y z d0 d1 d2 d3 : Int) (d4 : LV) (d5 : Bool) (d6 : LV) (d7 d8 d9 f0 f1 : Int) (f2 f3 f4 : LV) (f5 : Int) (f6 : W59) (f7 : Int) : ∀ b, F75 a d f i j l m o p q s t u v w y z d0 d1 d2 d3 d4 d5 d6 d7 d8 d9 f0 f1 f2 f3 f4 f5 f6 f7 = some b → UU 75 ([V.agg [i64 a, i64 d, lS 7 f, lS 7 i, lS 8 j, vb l, i64 m, i64 o, u8 p, u8 q, u8 s, u8 t, u8 u, u8 v, u8 w, u8 y, i64 z, i64 d0, i64 d1, i64 d2, i64 d3, lS 10 d4, vb d5, lS 7 d6, u8 d7, u8 d8, u8 d9, u8 f0, i64 f1, lS 1 f2, lS 7 f3, lS 7 f4], i64 f5, V.agg (W59.cells f6), i64 f7]) ([]) = some (A75.out b) :=
  fn_ok (E := E75) (L := notIn []) rfl rfl (fun x => by kernel_rfl)
/-! ## F77 -/
noncomputable def D77 (d : Int) (a : LV) : PT A77 :=
  .test (d ≥ 0)
   (fun h0 =>
   .auto 6 <|
   .ret (.a0 (decide (d < (↑(List.length a) : Int))) a)
   )
   (fun h0 =>
   .auto 5 <|
   .ret (.a0 false a)
   )
noncomputable def F77 (a : Int) (d : LV) : Option A77 := (D77 a d).ev some
theorem F77_ok (a : Int) (d : LV) : ∀ b, F77 a d = some b → UU 77 ([i64 a, pT 0]) ([oF 1 [[lS 50 d]]]) = some (A77.out b) :=
  fn_ok (E := E77) (L := notIn []) rfl rfl (fun x => by kernel_rfl)
/-! ## F78 -/
noncomputable def D78 : PT W59 :=
  .auto 1 <|
  .ret (W59.mk 65536 0 0 65536 0 0)
@[reducible] def O78 (a : W59) : V × Store := (V.agg (W59.cells a), [])
noncomputable def F78 : W59 := (D78).evT
theorem F78_ok : UU 78 ([]) ([]) = some (O78 F78) :=
  fnT_ok (out := O78) (L := notIn []) rfl rfl (fun x => by kernel_rfl) (by simp [D78, PT.isT])
/-! ## F79 -/
noncomputable def D79 (a : W59) (d : W59) : PT A79 :=
  .auto 4 <|
  .ask E137 (F137_ok a.c0 d.c0 a.c2 d.c1) fun (r : A137) => match r with
  | .a0 f =>
   .auto 4 <|
   .ask E137 (F137_ok a.c1 d.c0 a.c3 d.c1) fun (r : A137) => match r with
   | .a0 i =>
    .auto 4 <|
    .ask E137 (F137_ok a.c0 d.c2 a.c2 d.c3) fun (r : A137) => match r with
    | .a0 j =>
     .auto 4 <|
     .ask E137 (F137_ok a.c1 d.c2 a.c3 d.c3) fun (r : A137) => match r with
     | .a0 l =>
      .auto 4 <|
      .ask E137 (F137_ok a.c0 d.c4 a.c2 d.c5) fun (r : A137) => match r with
      | .a0 m =>
       .auto 1 <|
       .tot O131 (F131_ok m a.c4) fun o =>
       .auto 4 <|
       .ask E137 (F137_ok a.c1 d.c4 a.c3 d.c5) fun (r : A137) => match r with
       | .a0 p =>
        .auto 1 <|
        .tot O131 (F131_ok p a.c5) fun q =>
        .auto 1 <|
        .ret (.a0 (W59.mk f i j l o q))
noncomputable def F79 (a : W59) (d : W59) : Option A79 := (D79 a d).ev some
theorem F79_ok (a : W59) (d : W59) : ∀ b, F79 a d = some b → UU 79 ([V.agg (W59.cells a), V.agg (W59.cells d)]) ([]) = some (A79.out b) :=
  fn_ok (E := E79) (L := notIn []) rfl rfl (fun x => by kernel_rfl)
/-! ## F27 -/
noncomputable abbrev B27 : Code := (Tryz.f27.body).getD .skip
inductive T27_2s0 where
  | mk (a : Nat) (d : Int) (f : LV) (i : W59)
inductive T27_2e0 where
  | mk (a : W59)
inductive N27_2 where
  | s0 (x : T27_2s0)
  | e0 (x : T27_2e0)
@[reducible] def N27_2.out : N27_2 → VX × S
  | .s0 (.mk a d f i) => (vN, S.mk (un 6 (pT 0 :: U :: hS 1 a :: U :: pT 2 :: i64 d :: un 64 [])) [oF 6 [W59.cells (W59.mk 0 0 0 0 0 0)], oT 6 f, oF 6 [W59.cells i]])
  | .e0 (.mk j) => (vX 2, S.mk (un 6 (pT 0 :: U :: U :: U :: pT 1 :: un 65 [])) [oF 6 [W59.cells (W59.mk 0 0 0 0 0 0)], oF 6 [W59.cells j]])
abbrev E27_2 : Ent (VX × S) := ⟨N27_2, N27_2.out, fun g => (∃ x, g (.s0 x)) ∨ (∃ x, g (.e0 x)), fun g => ⟨fun h => match h with
  | .inl ⟨_, h⟩ => ⟨_, h⟩
  | .inr (⟨_, h⟩) => ⟨_, h⟩, fun ⟨b, h⟩ => match b, h with
  | .s0 _, h => .inl ⟨_, h⟩
  | .e0 _, h => .inr (⟨_, h⟩)⟩⟩
noncomputable def D27_2 : T27_2s0 → PT N27_2
  | .mk d a f i =>
   .test (a ≥ 0)
    (fun h0 =>
    .auto 1 <|
    .test (0 ≤ a ∧ a < (↑d : Int))
     (fun h1 =>
     .look RW59 (f[(0 : Nat) + Int.toNat a]?) fun j =>
     .ask E79 (F79_ok i j) fun (r : A79) => match r with
     | .a0 l =>
      .auto 1 <|
      .ret (.s0 (.mk d (w64 (a - 1)) f l))
     )
     (fun _ => .fail)
    )
    (fun h0 =>
    .ret (.e0 (.mk i))
    )
noncomputable def S27_2 : N27_2 → PT N27_2
  | .s0 x => D27_2 x
  | _ => .fail
def N27_2.off : N27_2 → Bool
  | .s0 _ => false
  | _ => true
noncomputable def L27_2 (n : Nat) (b : N27_2) : Option N27_2 := PT.loop S27_2 N27_2.off n b
theorem L27_2_ok : ∀ (n : Nat) (b : N27_2), N27_2.off b = false → ∀ c, L27_2 n b = some c → loopP Tryz.prog X CC 27 0 18446744073709551616 B27 2 n (E27_2.out b).2 = some (E27_2.out c) :=
  loop_ok (E := E27_2) (step := S27_2) (L := notIn []) (fun b hb => by cases b <;> first | (cases hb; done) | (rename_i x; cases x; intro x; kernel_rfl) | (intro x; kernel_rfl)) (fun b => by cases b <;> rfl)
noncomputable def N27_2.nx (n : Nat) (c : N27_2) : Option N27_2 := match N27_2.off c with
  | true => some c
  | false => L27_2 n c
theorem L27_2_s0 (n : Nat) (x : T27_2s0) : L27_2 (n + 1) (.s0 x) = (D27_2 x).ev (N27_2.nx n) := rfl
theorem N27_2.nx_s0 (n : Nat) (x : T27_2s0) : N27_2.nx n (.s0 x) = L27_2 n (.s0 x) := rfl
theorem N27_2.nx_e0 (n : Nat) (x : T27_2e0) : N27_2.nx n (.e0 x) = some (.e0 x) := rfl
inductive T27_r6s0 where
  | mk (a : Int) (d : Nat) (f : Int) (i j : LV)
@[reducible] def T27_r6s0.st : T27_r6s0 → S
  | .mk a d f i j => S.mk (U :: U :: i64 a :: pT 0 :: U :: U :: pT 1 :: V.fn 77 [pT 0] :: hS 2 d :: i64 f :: un 66 []) [oF 1 [[lS 50 i]], oF 6 [W59.cells (W59.mk 0 0 0 0 0 0)], oT 6 j]
inductive T27_r6e0 where
  | mk (a : Int) (d : Nat) (f : Int) (i : Bool) (j l : LV)
inductive N27_r6 where
  | e0 (x : T27_r6e0)
@[reducible] def N27_r6.out : N27_r6 → VX × S
  | .e0 (.mk a d f i j l) => (vN, S.mk (U :: U :: i64 a :: pT 0 :: U :: U :: pT 1 :: V.fn 77 [pT 0] :: hS 2 d :: i64 f :: un 29 (vb i :: un 36 [])) [oF 1 [[lS 50 j]], oF 6 [W59.cells (W59.mk 0 0 0 0 0 0)], oT 6 l])
abbrev E27_r6 : Ent (VX × S) := ⟨N27_r6, N27_r6.out, fun g => (∃ x, g (.e0 x)), fun g => ⟨fun h => match h with
  | ⟨_, h⟩ => ⟨_, h⟩, fun ⟨b, h⟩ => match b, h with
  | .e0 _, h => ⟨_, h⟩⟩⟩
noncomputable def D27_r6 : T27_r6s0 → PT N27_r6
  | .mk f a d l i =>
   .ask E77 (F77_ok d l) fun (r : A77) => match r with
   | .a0 m j =>
    .testB m
     (fun h0 =>
     .auto 3 <|
     .ret (.e0 (.mk f a d (decide ((↑a : Int) ≤ 16)) j i))
     )
     (fun h0 =>
     .auto 3 <|
     .ret (.e0 (.mk f a d false j i))
     )
noncomputable def J27_r6 (y : T27_r6s0) : Option N27_r6 := (D27_r6 y).ev some
theorem J27_r6_ok (y : T27_r6s0) : ∀ b, J27_r6 y = some b → regP Tryz.prog X CC 27 0 B27 6 y.st = some (E27_r6.out b) := by
  cases y; exact reg_ok (E := E27_r6) (fun x => by kernel_rfl)
inductive T27_0s0 where
  | mk (a : Int) (d : Nat) (f : Int) (i j : LV)
inductive T27_0e0 where
  | mk (a : Nat) (d : LV)
inductive N27_0 where
  | s0 (x : T27_0s0)
  | e0 (x : T27_0e0)
@[reducible] def N27_0.out : N27_0 → VX × S
  | .s0 (.mk a d f i j) => (vN, S.mk (U :: U :: i64 a :: pT 0 :: U :: U :: pT 1 :: V.fn 77 [pT 0] :: hS 2 d :: i64 f :: un 66 []) [oF 1 [[lS 50 i]], oF 6 [W59.cells (W59.mk 0 0 0 0 0 0)], oT 6 j])
  | .e0 (.mk l m) => (vX 0, S.mk (un 6 (pT 0 :: U :: hS 1 l :: un 67 [])) [oF 6 [W59.cells (W59.mk 0 0 0 0 0 0)], oT 6 m])
abbrev E27_0 : Ent (VX × S) := ⟨N27_0, N27_0.out, fun g => (∃ x, g (.s0 x)) ∨ (∃ x, g (.e0 x)), fun g => ⟨fun h => match h with
  | .inl ⟨_, h⟩ => ⟨_, h⟩
  | .inr (⟨_, h⟩) => ⟨_, h⟩, fun ⟨b, h⟩ => match b, h with
  | .s0 _, h => .inl ⟨_, h⟩
  | .e0 _, h => .inr (⟨_, h⟩)⟩⟩
noncomputable def D27_0 : T27_0s0 → PT N27_0
  | .mk m o p q s =>
   .cut E27_r6 (J27_r6_ok (.mk m o p q s)) fun (r : N27_r6) => match r with
   | .e0 (.mk l a f t i j) =>
    .testB t
     (fun h0 =>
     .auto 1 <|
     .test (0 ≤ f)
      (fun h1 =>
      .look RW57 (i[Int.toNat f]?) fun u =>
      .ask E21 (F21_ok u l) fun (r : A21) => match r with
      | .a0 d =>
       .auto 1 <|
       .test (0 + a ≤ List.length j ∧ (a + 1) * 48 ≤ 140737488355328 ∧ a + 1 ≤ 140737488355328)
        (fun h2 =>
        .auto 1 <|
        .known (decide_eq_true h1) <|
        .look RW57 (i[Int.toNat f]?) fun v =>
        .ret (.s0 (.mk l (a + 1) v.c1 i (List.take a j ++ [[i64 d.c0, i64 d.c1, i64 d.c2, i64 d.c3, i64 d.c4, i64 d.c5]])))
        )
        (fun _ => .fail)
      )
      (fun _ => .fail)
     )
     (fun h0 =>
     .ret (.e0 (.mk a j))
     )
noncomputable def S27_0 : N27_0 → PT N27_0
  | .s0 x => D27_0 x
  | _ => .fail
def N27_0.off : N27_0 → Bool
  | .s0 _ => false
  | _ => true
noncomputable def L27_0 (n : Nat) (b : N27_0) : Option N27_0 := PT.loop S27_0 N27_0.off n b
theorem L27_0_ok : ∀ (n : Nat) (b : N27_0), N27_0.off b = false → ∀ c, L27_0 n b = some c → loopP Tryz.prog X CC 27 0 18446744073709551616 B27 0 n (E27_0.out b).2 = some (E27_0.out c) :=
  loop_ok (E := E27_0) (step := S27_0) (L := notIn []) (fun b hb => by cases b <;> first | (cases hb; done) | (rename_i x; cases x; intro x; kernel_rfl) | (intro x; kernel_rfl)) (fun b => by cases b <;> rfl)
noncomputable def N27_0.nx (n : Nat) (c : N27_0) : Option N27_0 := match N27_0.off c with
  | true => some c
  | false => L27_0 n c
theorem L27_0_s0 (n : Nat) (x : T27_0s0) : L27_0 (n + 1) (.s0 x) = (D27_0 x).ev (N27_0.nx n) := rfl
theorem N27_0.nx_s0 (n : Nat) (x : T27_0s0) : N27_0.nx n (.s0 x) = L27_0 n (.s0 x) := rfl
theorem N27_0.nx_e0 (n : Nat) (x : T27_0e0) : N27_0.nx n (.e0 x) = some (.e0 x) := rfl
noncomputable def D27 (m : LV) (f j : Int) : PT A27 :=
  .ask E77 (F77_ok f m) fun (r : A77) => match r with
  | .a0 o i =>
   .testB (!o)
    (fun h0 =>
    .tot O78 F78_ok fun p =>
    .auto 1 <|
    .ret (.a0 p)
    )
    (fun h0 =>
    .auto 1 <|
    .test (0 ≤ f)
     (fun h1 =>
     .look RW57 (i[Int.toNat f]?) fun q =>
     .ask E21 (F21_ok q j) fun (r : A21) => match r with
     | .a0 a =>
      .auto 1 <|
      .known (decide_eq_true h1) <|
      .look RW57 (i[Int.toNat f]?) fun s =>
      .cut E27_0 (L27_0_ok 18446744073709551616 (.s0 (.mk j 1 s.c1 i ([[i64 a.c0, i64 a.c1, i64 a.c2, i64 a.c3, i64 a.c4, i64 a.c5]]))) rfl) fun (r : N27_0) => match r with
      | .e0 (.mk d l) =>
       .test (0 ≤ w64 ((↑d : Int) - 1) ∧ w64 ((↑d : Int) - 1) < (↑d : Int))
        (fun h2 =>
        .look RW59 (l[(0 : Nat) + Int.toNat (w64 ((↑d : Int) - (1 : Int)))]?) fun t =>
        .auto 1 <|
        .cut E27_2 (L27_2_ok 18446744073709551616 (.s0 (.mk d (w64 ((↑d : Int) - 2)) l t)) rfl) fun (r : N27_2) => match r with
        | .e0 (.mk u) =>
         .auto 2 <|
         .ret (.a0 u)
        | _ => .fail
        )
        (fun _ => .fail)
      | _ => .fail
     )
     (fun _ => .fail)
    )
noncomputable def F27 (a : LV) (d f : Int) : Option A27 := (D27 a d f).ev some
theorem F27_ok (a : LV) (d f : Int) : ∀ b, F27 a d f = some b → UU 27 ([V.agg [lS 50 a], i64 d, i64 f]) ([]) = some (A27.out b) :=
  fn_ok (E := E27) (L := notIn []) rfl rfl (fun x => by kernel_rfl)
/-! ## F25 -/
noncomputable def D25 : PT A25 :=
  .auto 2 <|
  .ask E21 (F21_ok (W57.mk 0 (-1) 0 0 0 5 0 [] [] [] [] [] [] [] [] [] false [] 0 0 [] [] [] false 0 0 0 0 0 0 0 0 0 0 0 0 0 0 0 [] false [] 0 0 0 0 0 [] [] []) 3) fun (r : A21) => match r with
  | .a0 a =>
   .tot O32 F32_ok fun d =>
   .testB (a.c0 == d.c0 && (a.c1 == d.c1 && (a.c2 == d.c2 && (a.c3 == d.c3 && (a.c4 == d.c4 && (a.c5 == d.c5 && true))))))
    (fun h0 =>
    .auto 2 <|
    .ask E22 (F22_ok (W57.mk 0 (-1) 0 0 0 5 0 [] [] [] [] [] [] [] [] [] false [] 0 0 [] [] [] false 0 0 0 0 0 0 0 0 0 0 0 0 0 0 0 [] false [] 0 0 0 0 0 [] [] []) 3) fun (r : A22) => match r with
    | .a0 j =>
     .auto 2 <|
     .testB (j == 255)
      (fun h1 =>
      .auto 2 <|
      .tot O23 (F23_ok (W57.mk 0 (-1) 0 0 0 5 0 [] [] [] [] [] [] [] [] [] false [] 0 0 [] [] [] false 0 0 0 0 0 0 0 0 0 0 0 0 0 0 0 [] false [] 0 0 0 0 0 [] [] []) 0) fun l =>
      .auto 1 <|
      .testB l
       (fun h2 =>
       .auto 2 <|
       .tot O23 (F23_ok (W57.mk 0 (-1) 0 0 0 5 0 [] [] [] [] [] [] [] [] [] false [] 0 0 [] [] [] false 0 0 0 0 0 0 0 0 0 0 0 0 0 0 0 [] false [] 0 0 0 0 0 [] [] []) 5) fun m =>
       .auto 2 <|
       .testB (!m)
        (fun h3 =>
        .auto 2 <|
        .ask E24 (F24_ok (W57.mk 0 (-1) 0 0 0 5 0 [] [] [] [] [] [] [] [] [] false [] 0 0 [] [] [] false 0 0 0 0 0 0 0 0 0 0 0 0 0 0 0 [] false [] 0 0 0 0 0 [] [] []) 7) fun (r : A24) => match r with
        | .a0 o =>
         .auto 2 <|
         .testB (o == 7)
          (fun h4 =>
          .auto 1 <|
          .tot O32 F32_ok fun p =>
          .auto 1 <|
          .ask E75 (F75_ok 0 0 ([]) ([]) ([]) false 0 0 0 0 0 0 0 0 0 0 0 0 0 0 0 ([]) false ([]) 0 0 0 0 0 ([]) ([]) ([]) 0 p 255) fun (r : A75) => match r with
          | .a0 q s =>
           .auto 3 <|
           .testB ((↑q : Int) == 0)
            (fun h5 =>
            .auto 1 <|
            .ask E27 (F27_ok ([]) 3 0) fun (r : A27) => match r with
            | .a0 f =>
             .auto 1 <|
             .tot O32 F32_ok fun i =>
             .auto 2 <|
             .ret (.a0 (f.c0 == i.c0 && (f.c1 == i.c1 && (f.c2 == i.c2 && (f.c3 == i.c3 && (f.c4 == i.c4 && (f.c5 == i.c5 && true)))))))
            )
            (fun h5 =>
            .auto 4 <|
            .ret (.a0 false)
            )
          )
          (fun h4 =>
          .auto 10 <|
          .ret (.a0 false)
          )
        )
        (fun h3 =>
        .auto 14 <|
        .ret (.a0 false)
        )
       )
       (fun h2 =>
       .auto 18 <|
       .ret (.a0 false)
       )
      )
      (fun h1 =>
      .auto 21 <|
      .ret (.a0 false)
      )
    )
    (fun h0 =>
    .auto 25 <|
    .ret (.a0 false)
    )
noncomputable def F25 : Option A25 := (D25).ev some
theorem F25_ok : ∀ b, F25 = some b → UU 25 ([]) ([]) = some (A25.out b) :=
  fn_ok (E := E25) (L := notIn []) rfl rfl (fun x => by kernel_rfl)
/-! ## F4 -/
noncomputable abbrev B4 : Code := (Tryz.f4.body).getD .skip
inductive T4_2s0 where
  | mk (a d : Int) (f : Nat) (i j : Int) (l : LV) (m o : Int) (p : LV)
inductive T4_2e1 where
  | mk (a d : Int) (f : Nat) (i j : Int) (l : LV)
inductive N4_2 where
  | s0 (x : T4_2s0)
  | e0
  | e1 (x : T4_2e1)
@[reducible] def N4_2.out : N4_2 → VX × S
  | .s0 (.mk a d f i j l m o p) => (vN, S.mk (un 7 (i64 a :: i64 d :: un 11 (hS 0 f :: i64 i :: i64 j :: un 4 (lS 50 l :: i64 m :: i64 o :: un 70 [])))) [oT 1 p])
  | .e0 => (VX.ret, S.mk (un 6 (vb false :: un 93 [])) [])
  | .e1 (.mk q s t u v w) => (vX 2, S.mk (un 7 (i64 q :: i64 s :: un 11 (hS 0 t :: i64 u :: i64 v :: un 77 []))) [oT 1 w])
abbrev E4_2 : Ent (VX × S) := ⟨N4_2, N4_2.out, fun g => (∃ x, g (.s0 x)) ∨ g .e0 ∨ (∃ x, g (.e1 x)), fun g => ⟨fun h => match h with
  | .inl ⟨_, h⟩ => ⟨_, h⟩
  | .inr (.inl h) => ⟨_, h⟩
  | .inr (.inr (⟨_, h⟩)) => ⟨_, h⟩, fun ⟨b, h⟩ => match b, h with
  | .s0 _, h => .inl ⟨_, h⟩
  | .e0, h => .inr (.inl h)
  | .e1 _, h => .inr (.inr (⟨_, h⟩))⟩⟩
noncomputable def D4_2 : T4_2s0 → PT N4_2
  | .mk d f m o p q s l t =>
   .test (l < s)
    (fun h0 =>
    .test (0 ≤ l)
     (fun h1 =>
     .look RW57 (q[Int.toNat l]?) fun a =>
     .auto 10 <|
     .ask E21 (F21_ok (W57.mk a.c0 a.c1 a.c2 a.c3 (w64 (a.c4 + d)) (w64 (a.c5 + d)) (w64 (a.c6 + d)) a.c7 a.c8 a.c9 a.c10 a.c11 a.c12 a.c13 a.c14 a.c15 a.c16 a.c17 a.c18 a.c19 a.c20 a.c21 a.c22 a.c23 a.c24 a.c25 a.c26 a.c27 a.c28 a.c29 a.c30 a.c31 a.c32 a.c33 a.c34 a.c35 a.c36 a.c37 a.c38 a.c39 a.c40 a.c41 a.c42 a.c43 a.c44 a.c45 a.c46 a.c47 a.c48 a.c49) (w64 (f + d))) fun (r : A21) => match r with
     | .a0 i =>
      .auto 1 <|
      .ask E21 (F21_ok a f) fun (r : A21) => match r with
      | .a0 j =>
       .testB (!(i.c0 == j.c0 && (i.c1 == j.c1 && (i.c2 == j.c2 && (i.c3 == j.c3 && (i.c4 == j.c4 && (i.c5 == j.c5 && true)))))))
        (fun h2 =>
        .auto 27 <|
        .ret .e0
        )
        (fun h2 =>
        .auto 5 <|
        .ask E22 (F22_ok (W57.mk a.c0 a.c1 a.c2 a.c3 (w64 (a.c4 + d)) (w64 (a.c5 + d)) (w64 (a.c6 + d)) a.c7 a.c8 a.c9 a.c10 a.c11 a.c12 a.c13 a.c14 a.c15 a.c16 a.c17 a.c18 a.c19 a.c20 a.c21 a.c22 a.c23 a.c24 a.c25 a.c26 a.c27 a.c28 a.c29 a.c30 a.c31 a.c32 a.c33 a.c34 a.c35 a.c36 a.c37 a.c38 a.c39 a.c40 a.c41 a.c42 a.c43 a.c44 a.c45 a.c46 a.c47 a.c48 a.c49) (w64 (f + d))) fun (r : A22) => match r with
        | .a0 u =>
         .auto 4 <|
         .ask E22 (F22_ok a f) fun (r : A22) => match r with
         | .a0 v =>
          .auto 2 <|
          .testB (u != v)
           (fun h3 =>
           .auto 17 <|
           .ret .e0
           )
           (fun h3 =>
           .auto 5 <|
           .tot O23 (F23_ok (W57.mk a.c0 a.c1 a.c2 a.c3 (w64 (a.c4 + d)) (w64 (a.c5 + d)) (w64 (a.c6 + d)) a.c7 a.c8 a.c9 a.c10 a.c11 a.c12 a.c13 a.c14 a.c15 a.c16 a.c17 a.c18 a.c19 a.c20 a.c21 a.c22 a.c23 a.c24 a.c25 a.c26 a.c27 a.c28 a.c29 a.c30 a.c31 a.c32 a.c33 a.c34 a.c35 a.c36 a.c37 a.c38 a.c39 a.c40 a.c41 a.c42 a.c43 a.c44 a.c45 a.c46 a.c47 a.c48 a.c49) (w64 (f + d))) fun w =>
           .auto 4 <|
           .tot O23 (F23_ok a f) fun y =>
           .auto 2 <|
           .testB (!w == y)
            (fun h4 =>
            .auto 7 <|
            .ret .e0
            )
            (fun h4 =>
            .auto 5 <|
            .test ((↑(List.length a.c15) : Int) > 0)
             (fun h5 =>
             .auto 5 <|
             .ask E24 (F24_ok (W57.mk a.c0 a.c1 a.c2 a.c3 (w64 (a.c4 + d)) (w64 (a.c5 + d)) (w64 (a.c6 + d)) a.c7 a.c8 a.c9 a.c10 a.c11 a.c12 a.c13 a.c14 a.c15 a.c16 a.c17 a.c18 a.c19 a.c20 a.c21 a.c22 a.c23 a.c24 a.c25 a.c26 a.c27 a.c28 a.c29 a.c30 a.c31 a.c32 a.c33 a.c34 a.c35 a.c36 a.c37 a.c38 a.c39 a.c40 a.c41 a.c42 a.c43 a.c44 a.c45 a.c46 a.c47 a.c48 a.c49) (w64 (f + d))) fun (r : A24) => match r with
             | .a0 z =>
              .auto 4 <|
              .ask E24 (F24_ok a f) fun (r : A24) => match r with
              | .a0 d0 =>
               .auto 4 <|
               .testB (z != d0)
                (fun h6 =>
                .ret .e0
                )
                (fun h6 =>
                .ret (.s0 (.mk d f m o p q s (w64 (l + 1)) t))
                )
             )
             (fun h5 =>
             .auto 12 <|
             .ret (.s0 (.mk d f m o p q s (w64 (l + 1)) t))
             )
            )
           )
        )
     )
     (fun _ => .fail)
    )
    (fun h0 =>
    .ret (.e1 (.mk d f m o p t))
    )
noncomputable def S4_2 : N4_2 → PT N4_2
  | .s0 x => D4_2 x
  | _ => .fail
def N4_2.off : N4_2 → Bool
  | .s0 _ => false
  | _ => true
noncomputable def L4_2 (n : Nat) (b : N4_2) : Option N4_2 := PT.loop S4_2 N4_2.off n b
theorem L4_2_ok : ∀ (n : Nat) (b : N4_2), N4_2.off b = false → ∀ c, L4_2 n b = some c → loopP Tryz.prog X CC 4 0 18446744073709551616 B4 2 n (E4_2.out b).2 = some (E4_2.out c) :=
  loop_ok (E := E4_2) (step := S4_2) (L := notIn []) (fun b hb => by cases b <;> first | (cases hb; done) | (rename_i x; cases x; intro x; kernel_rfl) | (intro x; kernel_rfl)) (fun b => by cases b <;> rfl)
noncomputable def N4_2.nx (n : Nat) (c : N4_2) : Option N4_2 := match N4_2.off c with
  | true => some c
  | false => L4_2 n c
theorem L4_2_s0 (n : Nat) (x : T4_2s0) : L4_2 (n + 1) (.s0 x) = (D4_2 x).ev (N4_2.nx n) := rfl
theorem N4_2.nx_s0 (n : Nat) (x : T4_2s0) : N4_2.nx n (.s0 x) = L4_2 n (.s0 x) := rfl
theorem N4_2.nx_e0 (n : Nat) : N4_2.nx n .e0 = some .e0 := rfl
theorem N4_2.nx_e1 (n : Nat) (x : T4_2e1) : N4_2.nx n (.e1 x) = some (.e1 x) := rfl
inductive T4_0s0 where
  | mk (a d : Int) (f : Nat) (i j : Int) (l : LV)
inductive N4_0 where
  | s0 (x : T4_0s0)
  | e0
  | e1
@[reducible] def N4_0.out : N4_0 → VX × S
  | .s0 (.mk a d f i j l) => (vN, S.mk (un 7 (i64 a :: i64 d :: un 11 (hS 0 f :: i64 i :: i64 j :: un 77 []))) [oT 1 l])
  | .e0 => (VX.ret, S.mk (un 6 (vb false :: un 93 [])) [])
  | .e1 => (vX 0, S.mk (un 100 []) [])
abbrev E4_0 : Ent (VX × S) := ⟨N4_0, N4_0.out, fun g => (∃ x, g (.s0 x)) ∨ g .e0 ∨ g .e1, fun g => ⟨fun h => match h with
  | .inl ⟨_, h⟩ => ⟨_, h⟩
  | .inr (.inl h) => ⟨_, h⟩
  | .inr (.inr h) => ⟨_, h⟩, fun ⟨b, h⟩ => match b, h with
  | .s0 _, h => .inl ⟨_, h⟩
  | .e0, h => .inr (.inl h)
  | .e1, h => .inr (.inr h)⟩⟩
noncomputable def D4_0 : T4_0s0 → PT N4_0
  | .mk l m d f a i =>
   .test (a < f)
    (fun h0 =>
    .test (0 ≤ a ∧ a < (↑d : Int))
     (fun h1 =>
     .look RW52 (i[(0 : Nat) + Int.toNat a]?) fun j =>
     .auto 2 <|
     .cut E4_2 (L4_2_ok 18446744073709551616 (.s0 (.mk l m d f a j.c0 ((↑(List.length j.c0) : Int)) 0 i)) rfl) fun (r : N4_2) => match r with
     | .e0 =>
      .ret .e0
     | .e1 (.mk o p q s t u) =>
      .ret (.s0 (.mk o p q s (w64 (t + 1)) u))
     | _ => .fail
     )
     (fun _ => .fail)
    )
    (fun h0 =>
    .ret .e1
    )
noncomputable def S4_0 : N4_0 → PT N4_0
  | .s0 x => D4_0 x
  | _ => .fail
def N4_0.off : N4_0 → Bool
  | .s0 _ => false
  | _ => true
noncomputable def L4_0 (n : Nat) (b : N4_0) : Option N4_0 := PT.loop S4_0 N4_0.off n b
theorem L4_0_ok : ∀ (n : Nat) (b : N4_0), N4_0.off b = false → ∀ c, L4_0 n b = some c → loopP Tryz.prog X CC 4 0 18446744073709551616 B4 0 n (E4_0.out b).2 = some (E4_0.out c) :=
  loop_ok (E := E4_0) (step := S4_0) (L := notIn []) (fun b hb => by cases b <;> first | (cases hb; done) | (rename_i x; cases x; intro x; kernel_rfl) | (intro x; kernel_rfl)) (fun b => by cases b <;> rfl)
noncomputable def N4_0.nx (n : Nat) (c : N4_0) : Option N4_0 := match N4_0.off c with
  | true => some c
  | false => L4_0 n c
theorem L4_0_s0 (n : Nat) (x : T4_0s0) : L4_0 (n + 1) (.s0 x) = (D4_0 x).ev (N4_0.nx n) := rfl
theorem N4_0.nx_s0 (n : Nat) (x : T4_0s0) : N4_0.nx n (.s0 x) = L4_0 n (.s0 x) := rfl
theorem N4_0.nx_e0 (n : Nat) : N4_0.nx n .e0 = some .e0 := rfl
theorem N4_0.nx_e1 (n : Nat) : N4_0.nx n .e1 = some .e1 := rfl
noncomputable def D4 (d : LV) (f i : Int) : PT A4 :=
  .ask E19 (F19_ok f (-50) 50) fun (r : A19) => match r with
  | .a0 j =>
   .ask E20 (F20_ok d) fun (r : A20) => match r with
   | .a0 o p a l =>
    .cut E4_0 (L4_0_ok 18446744073709551616 (.s0 (.mk j (w64 (↑(BitVec.toNat (BitVec.ofInt (IntKind.bits IntKind.i64) i &&& BitVec.ofInt (IntKind.bits IntKind.i64) 63)) : Int)) a ((↑a : Int)) 0 l)) rfl) fun (r : N4_0) => match r with
    | .e1 =>
     .ask E25 F25_ok fun (r : A25) => match r with
     | .a0 m =>
      .ret (.a0 m)
    | _ => .fail
noncomputable def F4 (a : LV) (d f : Int) : Option A4 := (D4 a d f).ev some
theorem F4_ok (a : LV) (d f : Int) : ∀ b, F4 a d f = some b → UU 4 ([lS 1 a, i64 d, i64 f]) ([]) = some (A4.out b) :=
  fn_ok (E := E4) (L := notIn []) rfl rfl (fun x => by kernel_rfl)


end Go.Proofs.YtifalphladcdcaaGreat.H
