/- What the functions compute, and that they do so over the machine of plain values (printed by this session's program wip/vm/Walk.lean). No condition beyond those stated. -/
import Derived.Test.YtifalphladcdcaaGreatWk
import Derived.Test.YtifalphladcdcaaGreatPAc
set_option linter.unusedVariables false
set_option linter.unusedSimpArgs false
namespace Go.Proofs.YtifalphladcdcaaGreat.H
open Go Go.VM
set_option maxRecDepth 100000
/-! ## F180 -/
noncomputable abbrev B180 : Code := (Tryz.f180.body).getD .skip
inductive T180_0s0 where
  | mk (a : LV) (d f : Int)
inductive T180_0e0 where
  | mk (a : Int)
inductive N180_0 where
  | s0 (x : T180_0s0)
  | e0 (x : T180_0e0)
  | e1
@[reducible] def N180_0.out : N180_0 → VX × S
  | .s0 (.mk a d f) => (vN, S.mk (lS 1 a :: V.fn 116 [] :: un 5 (i64 d :: i64 f :: un 10 [])) [])
  | .e0 (.mk i) => (VX.ret, S.mk (un 4 (i64 i :: un 14 [])) [])
  | .e1 => (vX 0, S.mk (un 19 []) [])
abbrev E180_0 : Ent (VX × S) := ⟨N180_0, N180_0.out, fun g => (∃ x, g (.s0 x)) ∨ (∃ x, g (.e0 x)) ∨ g .e1, fun g => ⟨fun h => match h with
  | .inl ⟨_, h⟩ => ⟨_, h⟩
  | .inr (.inl ⟨_, h⟩) => ⟨_, h⟩
  | .inr (.inr h) => ⟨_, h⟩, fun ⟨b, h⟩ => match b, h with
  | .s0 _, h => .inl ⟨_, h⟩
  | .e0 _, h => .inr (.inl ⟨_, h⟩)
  | .e1, h => .inr (.inr h)⟩⟩
noncomputable def D180_0 : T180_0s0 → PT N180_0
  | .mk d f a =>
   .test (a < f)
    (fun h0 =>
    .test (0 ≤ a)
     (fun h1 =>
     .look RW2 (d[Int.toNat a]?) fun i =>
     .tot O116 (F116_ok i.c0) fun j =>
     .testB j
      (fun h2 =>
      .ret (.e0 (.mk a))
      )
      (fun h2 =>
      .ret (.s0 (.mk d f (w64 (a + 1))))
      )
     )
     (fun _ => .fail)
    )
    (fun h0 =>
    .ret .e1
    )
noncomputable def S180_0 : N180_0 → PT N180_0
  | .s0 x => D180_0 x
  | _ => .fail
def N180_0.off : N180_0 → Bool
  | .s0 _ => false
  | _ => true
noncomputable def L180_0 (n : Nat) (b : N180_0) : Option N180_0 := PT.loop S180_0 N180_0.off n b
theorem L180_0_ok : ∀ (n : Nat) (b : N180_0), N180_0.off b = false → ∀ c, L180_0 n b = some c → loopP Tryz.prog X CC 180 0 18446744073709551616 B180 0 n (E180_0.out b).2 = some (E180_0.out c) :=
  loop_ok (E := E180_0) (step := S180_0) (L := notIn []) (fun b hb => by cases b <;> first | (cases hb; done) | (rename_i x; cases x; intro x; kernel_rfl) | (intro x; kernel_rfl)) (fun b => by cases b <;> rfl)
noncomputable def N180_0.nx (n : Nat) (c : N180_0) : Option N180_0 := match N180_0.off c with
  | true => some c
  | false => L180_0 n c
theorem L180_0_s0 (n : Nat) (x : T180_0s0) : L180_0 (n + 1) (.s0 x) = (D180_0 x).ev (N180_0.nx n) := rfl
theorem N180_0.nx_s0 (n : Nat) (x : T180_0s0) : N180_0.nx n (.s0 x) = L180_0 n (.s0 x) := rfl
theorem N180_0.nx_e0 (n : Nat) (x : T180_0e0) : N180_0.nx n (.e0 x) = some (.e0 x) := rfl
theorem N180_0.nx_e1 (n : Nat) : N180_0.nx n .e1 = some .e1 := rfl
noncomputable def D180 (a : LV) : PT A180 :=
  .cut E180_0 (L180_0_ok 18446744073709551616 (.s0 (.mk a ((↑(List.length a) : Int)) 0)) rfl) fun (r : N180_0) => match r with
  | .e0 (.mk d) =>
   .ret (.a0 d)
  | .e1 =>
   .ret (.a0 (-1))
  | _ => .fail
noncomputable def F180 (a : LV) : Option A180 := (D180 a).ev some
theorem F180_ok (a : LV) : ∀ b, F180 a = some b → UU 180 ([lS 1 a, V.fn 116 []]) ([]) = some (A180.out b) :=
  fn_ok (E := E180) (L := notIn []) rfl rfl (fun x => by kernel_rfl)
/-! ## F115 -/
noncomputable def D115 (a : LV) : PT A115 :=
  .ask E180 (F180_ok a) fun (r : A180) => match r with
  | .a0 d =>
   .ret (.a0 (decide (d ≥ 0)))
noncomputable def F115 (a : LV) : Option A115 := (D115 a).ev some
theorem F115_ok (a : LV) : ∀ b, F115 a = some b → UU 115 ([lS 1 a, V.fn 116 []]) ([]) = some (A115.out b) :=
  fn_ok (E := E115) (L := notIn []) rfl rfl (fun x => by kernel_rfl)
/-! ## F57 -/
noncomputable def D57 (a : LV) : PT A57 :=
  .test ((↑(List.length a) : Int) ≤ 8)
   (fun h0 =>
   .auto 1 <|
   .ask E115 (F115_ok a) fun (r : A115) => match r with
   | .a0 d =>
    .auto 2 <|
    .ret (.a0 (!d))
   )
   (fun h0 =>
   .auto 3 <|
   .ret (.a0 false)
   )
noncomputable def F57 (a : LV) : Option A57 := (D57 a).ev some
theorem F57_ok (a : LV) : ∀ b, F57 a = some b → UU 57 ([lS 1 a]) ([]) = some (A57.out b) :=
  fn_ok (E := E57) (L := notIn []) rfl rfl (fun x => by kernel_rfl)
/-! ## F196 -/
noncomputable abbrev B196 : Code := (Tryz.f196.body).getD .skip
inductive T196_r6s0 where
  | mk (a : LV) (d : Nat) (f i j : Int) (l : Bool) (m o : LV)
@[reducible] def T196_r6s0.st : T196_r6s0 → S
  | .mk a d f i j l m o => S.mk (U :: lS 1 a :: pT 0 :: U :: U :: hS 1 d :: i64 f :: i64 i :: i64 j :: un 56 []) [oF 2 [[vb l, lS 2 m]], oT 2 o]
inductive T196_r6e0 where
  | mk (a : LV) (d : Nat) (f i j : Int) (l m : Bool) (o p : LV)
inductive N196_r6 where
  | e0 (x : T196_r6e0)
@[reducible] def N196_r6.out : N196_r6 → VX × S
  | .e0 (.mk a d f i j l m o p) => (vN, S.mk (U :: lS 1 a :: pT 0 :: U :: U :: hS 1 d :: i64 f :: i64 i :: i64 j :: un 25 (vb l :: un 30 [])) [oF 2 [[vb m, lS 2 o]], oT 2 p])
abbrev E196_r6 : Ent (VX × S) := ⟨N196_r6, N196_r6.out, fun g => (∃ x, g (.e0 x)), fun g => ⟨fun h => match h with
  | ⟨_, h⟩ => ⟨_, h⟩, fun ⟨b, h⟩ => match b, h with
  | .e0 _, h => ⟨_, h⟩⟩⟩
noncomputable def D196_r6 : T196_r6s0 → PT N196_r6
  | .mk i j a d f l m o =>
   .test (f < 128)
    (fun h0 =>
    .auto 3 <|
    .ret (.e0 (.mk i j a d f (decide (d < a)) l m o))
    )
    (fun h0 =>
    .auto 3 <|
    .ret (.e0 (.mk i j a d f false l m o))
    )
noncomputable def J196_r6 (y : T196_r6s0) : Option N196_r6 := (D196_r6 y).ev some
theorem J196_r6_ok (y : T196_r6s0) : ∀ b, J196_r6 y = some b → regP Tryz.prog X CC 196 0 B196 6 y.st = some (E196_r6.out b) := by
  cases y; exact reg_ok (E := E196_r6) (fun x => by kernel_rfl)
inductive T196_0s0 where
  | mk (a : LV) (d : Nat) (f i j : Int) (l : Bool) (m o : LV)
inductive T196_0e0 where
  | mk (a : Nat) (d : LV)
inductive N196_0 where
  | s0 (x : T196_0s0)
  | e0 (x : T196_0e0)
@[reducible] def N196_0.out : N196_0 → VX × S
  | .s0 (.mk a d f i j l m o) => (vN, S.mk (U :: lS 1 a :: pT 0 :: U :: U :: hS 1 d :: i64 f :: i64 i :: i64 j :: un 56 []) [oF 2 [[vb l, lS 2 m]], oT 2 o])
  | .e0 (.mk p q) => (vX 0, S.mk (un 5 (hS 0 p :: un 59 [])) [oT 2 q])
abbrev E196_0 : Ent (VX × S) := ⟨N196_0, N196_0.out, fun g => (∃ x, g (.s0 x)) ∨ (∃ x, g (.e0 x)), fun g => ⟨fun h => match h with
  | .inl ⟨_, h⟩ => ⟨_, h⟩
  | .inr (⟨_, h⟩) => ⟨_, h⟩, fun ⟨b, h⟩ => match b, h with
  | .s0 _, h => .inl ⟨_, h⟩
  | .e0 _, h => .inr (⟨_, h⟩)⟩⟩
noncomputable def D196_0 : T196_0s0 → PT N196_0
  | .mk t u v w y z d0 d1 =>
   .cut E196_r6 (J196_r6_ok (.mk t u v w y z d0 d1)) fun (r : N196_r6) => match r with
   | .e0 (.mk d a p i f d2 l m j) =>
    .testB d2
     (fun h0 =>
     .test ((↑(List.length d) : Int) = 0)
      (fun _ => .fail)
      (fun h1 =>
      .test (0 ≤ Int.tmod f (↑(List.length d) : Int))
       (fun h2 =>
       .look RW2 (d[Int.toNat (Int.tmod f (↑(List.length d) : Int))]?) fun o =>
       .auto 1 <|
       .testB (Int.tmod f 2 == 0)
        (fun h3 =>
        .auto 1 <|
        .ask E237 (F237_ok l m i (w64 (i + o.c0))) fun (r : A237) => match r with
        | .a0 d3 q s =>
         .auto 2 <|
         .test ((↑q : Int) ≥ 2)
          (fun h4 =>
          .auto 1 <|
          .test (0 + q ≤ List.length s)
           (fun h5 =>
           .auto 1 <|
           .test (0 + a ≤ List.length j ∧ (a + 1) * 32 ≤ 140737488355328 ∧ a + 1 ≤ 140737488355328)
            (fun h6 =>
            .ret (.s0 (.mk d (a + 1) p (w64 (i + o.c0)) (w64 (f + 1)) l m (List.take a j ++ [[vb d3, lS 2 (List.take q s)]])))
            )
            (fun _ => .fail)
           )
           (fun _ => .fail)
          )
          (fun h4 =>
          .ret (.s0 (.mk d a p (w64 (i + o.c0)) (w64 (f + 1)) l m j))
          )
        )
        (fun h3 =>
        .ret (.s0 (.mk d a p (w64 (i + o.c0)) (w64 (f + 1)) l m j))
        )
       )
       (fun _ => .fail)
      )
     )
     (fun h0 =>
     .ret (.e0 (.mk a j))
     )
noncomputable def S196_0 : N196_0 → PT N196_0
  | .s0 x => D196_0 x
  | _ => .fail
def N196_0.off : N196_0 → Bool
  | .s0 _ => false
  | _ => true
noncomputable def L196_0 (n : Nat) (b : N196_0) : Option N196_0 := PT.loop S196_0 N196_0.off n b
theorem L196_0_ok : ∀ (n : Nat) (b : N196_0), N196_0.off b = false → ∀ c, L196_0 n b = some c → loopP Tryz.prog X CC 196 0 18446744073709551616 B196 0 n (E196_0.out b).2 = some (E196_0.out c) :=
  loop_ok (E := E196_0) (step := S196_0) (L := notIn []) (fun b hb => by cases b <;> first | (cases hb; done) | (rename_i x; cases x; intro x; kernel_rfl) | (intro x; kernel_rfl)) (fun b => by cases b <;> rfl)
noncomputable def N196_0.nx (n : Nat) (c : N196_0) : Option N196_0 := match N196_0.off c with
  | true => some c
  | false => L196_0 n c
theorem L196_0_s0 (n : Nat) (x : T196_0s0) : L196_0 (n + 1) (.s0 x) = (D196_0 x).ev (N196_0.nx n) := rfl
theorem N196_0.nx_s0 (n : Nat) (x : T196_0s0) : N196_0.nx n (.s0 x) = L196_0 n (.s0 x) := rfl
theorem N196_0.nx_e0 (n : Nat) (x : T196_0e0) : N196_0.nx n (.e0 x) = some (.e0 x) := rfl
inductive T196_r1s0 where
  | mk (a : LV) (d : Bool) (f : LV)
@[reducible] def T196_r1s0.st : T196_r1s0 → S
  | .mk a d f => S.mk (U :: lS 1 a :: pT 0 :: un 62 []) [oF 2 [[vb d, lS 2 f]]]
inductive T196_r1e0 where
  | mk (a : LV) (d f : Bool) (i : LV)
inductive N196_r1 where
  | e0 (x : T196_r1e0)
@[reducible] def N196_r1.out : N196_r1 → VX × S
  | .e0 (.mk a d f i) => (vN, S.mk (U :: lS 1 a :: pT 0 :: un 15 (vb d :: un 46 [])) [oF 2 [[vb f, lS 2 i]]])
abbrev E196_r1 : Ent (VX × S) := ⟨N196_r1, N196_r1.out, fun g => (∃ x, g (.e0 x)), fun g => ⟨fun h => match h with
  | ⟨_, h⟩ => ⟨_, h⟩, fun ⟨b, h⟩ => match b, h with
  | .e0 _, h => ⟨_, h⟩⟩⟩
noncomputable def D196_r1 : T196_r1s0 → PT N196_r1
  | .mk a d f =>
   .testB ((↑(List.length a) : Int) == 0)
    (fun h0 =>
    .auto 3 <|
    .ret (.e0 (.mk a true d f))
    )
    (fun h0 =>
    .auto 1 <|
    .ask E57 (F57_ok a) fun (r : A57) => match r with
    | .a0 i =>
     .auto 2 <|
     .ret (.e0 (.mk a (!i) d f))
    )
noncomputable def J196_r1 (y : T196_r1s0) : Option N196_r1 := (D196_r1 y).ev some
theorem J196_r1_ok (y : T196_r1s0) : ∀ b, J196_r1 y = some b → regP Tryz.prog X CC 196 0 B196 1 y.st = some (E196_r1.out b) := by
  cases y; exact reg_ok (E := E196_r1) (fun x => by kernel_rfl)
noncomputable def D196 (i : Bool) (j l : LV) : PT A196 :=
  .cut E196_r1 (J196_r1_ok (.mk l i j)) fun (r : N196_r1) => match r with
  | .e0 (.mk m o d f) =>
   .testB o
    (fun h0 =>
    .auto 2 <|
    .ask E224 (F224_ok f) fun (r : A224) => match r with
    | .a0 a =>
     .test (0 + List.length a ≤ List.length a)
      (fun h1 =>
      .ret (.a0 1 ([[vb d, lS 2 (List.take (List.length a) a)]]))
      )
      (fun _ => .fail)
    )
    (fun h0 =>
    .auto 1 <|
    .ask E236 (F236_ok d f) fun (r : A236) => match r with
    | .a0 p =>
     .cut E196_0 (L196_0_ok 18446744073709551616 (.s0 (.mk m 0 p 0 0 d f ([]))) rfl) fun (r : N196_0) => match r with
     | .e0 (.mk q s) =>
      .ret (.a0 q s)
     | _ => .fail
    )
noncomputable def F196 (a : Bool) (d f : LV) : Option A196 := (D196 a d f).ev some
theorem F196_ok (a : Bool) (d f : LV) : ∀ b, F196 a d f = some b → UU 196 ([V.agg [vb a, lS 2 d], lS 1 f]) ([]) = some (A196.out b) :=
  fn_ok (E := E196) (L := notIn []) rfl rfl (fun x => by kernel_rfl)
/-! ## F238 -/
noncomputable abbrev B238 : Code := (Tryz.f238.body).getD .skip
inductive T238_0s0 where
  | mk (a : Nat) (d f : Int) (i : Bool) (j l : LV)
inductive T238_0e0 where
  | mk (a : Nat) (d : LV)
inductive N238_0 where
  | s0 (x : T238_0s0)
  | e0 (x : T238_0e0)
@[reducible] def N238_0.out : N238_0 → VX × S
  | .s0 (.mk a d f i j l) => (vN, S.mk (U :: pT 0 :: U :: hS 1 a :: un 5 (i64 d :: i64 f :: un 33 [])) [oF 2 [[vb i, lS 2 j]], oT 6 l])
  | .e0 (.mk m o) => (vX 0, S.mk (U :: U :: U :: hS 0 m :: un 40 []) [oT 6 o])
abbrev E238_0 : Ent (VX × S) := ⟨N238_0, N238_0.out, fun g => (∃ x, g (.s0 x)) ∨ (∃ x, g (.e0 x)), fun g => ⟨fun h => match h with
  | .inl ⟨_, h⟩ => ⟨_, h⟩
  | .inr (⟨_, h⟩) => ⟨_, h⟩, fun ⟨b, h⟩ => match b, h with
  | .s0 _, h => .inl ⟨_, h⟩
  | .e0 _, h => .inr (⟨_, h⟩)⟩⟩
noncomputable def D238_0 : T238_0s0 → PT N238_0
  | .mk a i d j l f =>
   .test (d < i)
    (fun h0 =>
    .auto 1 <|
    .ask E267 (F267_ok j l d) fun (r : A267) => match r with
    | .a0 o p q s m =>
     .auto 2 <|
     .test (m > 0)
      (fun h1 =>
      .auto 4 <|
      .ask E269 (F269_ok (w64 (q - o)) m) fun (r : A269) => match r with
      | .a0 t =>
       .auto 2 <|
       .ask E269 (F269_ok (w64 (s - p)) m) fun (r : A269) => match r with
       | .a0 u =>
        .auto 1 <|
        .test (0 + a ≤ List.length f ∧ (a + 1) * 48 ≤ 140737488355328 ∧ a + 1 ≤ 140737488355328)
         (fun h2 =>
         .ret (.s0 (.mk (a + 1) i (w64 (d + 1)) j l (List.take a f ++ [[i64 o, i64 p, i64 q, i64 s, i64 t, i64 u]])))
         )
         (fun _ => .fail)
      )
      (fun h1 =>
      .ret (.s0 (.mk a i (w64 (d + 1)) j l f))
      )
    )
    (fun h0 =>
    .ret (.e0 (.mk a f))
    )
noncomputable def S238_0 : N238_0 → PT N238_0
  | .s0 x => D238_0 x
  | _ => .fail
def N238_0.off : N238_0 → Bool
  | .s0 _ => false
  | _ => true
noncomputable def L238_0 (n : Nat) (b : N238_0) : Option N238_0 := PT.loop S238_0 N238_0.off n b
theorem L238_0_ok : ∀ (n : Nat) (b : N238_0), N238_0.off b = false → ∀ c, L238_0 n b = some c → loopP Tryz.prog X CC 238 0 18446744073709551616 B238 0 n (E238_0.out b).2 = some (E238_0.out c) :=
  loop_ok (E := E238_0) (step := S238_0) (L := notIn []) (fun b hb => by cases b <;> first | (cases hb; done) | (rename_i x; cases x; intro x; kernel_rfl) | (intro x; kernel_rfl)) (fun b => by cases b <;> rfl)
noncomputable def N238_0.nx (n : Nat) (c : N238_0) : Option N238_0 := match N238_0.off c with
  | true => some c
  | false => L238_0 n c
theorem L238_0_s0 (n : Nat) (x : T238_0s0) : L238_0 (n + 1) (.s0 x) = (D238_0 x).ev (N238_0.nx n) := rfl
theorem N238_0.nx_s0 (n : Nat) (x : T238_0s0) : N238_0.nx n (.s0 x) = L238_0 n (.s0 x) := rfl
theorem N238_0.nx_e0 (n : Nat) (x : T238_0e0) : N238_0.nx n (.e0 x) = some (.e0 x) := rfl
noncomputable def D238 (a : Bool) (d : LV) : PT A238 :=
  .auto 1 <|
  .tot O266 (F266_ok a d) fun f =>
  .cut E238_0 (L238_0_ok 18446744073709551616 (.s0 (.mk 0 f 0 a d ([]))) rfl) fun (r : N238_0) => match r with
  | .e0 (.mk i j) =>
   .ret (.a0 i j)
  | _ => .fail
noncomputable def F238 (a : Bool) (d : LV) : Option A238 := (D238 a d).ev some
theorem F238_ok (a : Bool) (d : LV) : ∀ b, F238 a d = some b → UU 238 ([V.agg [vb a, lS 2 d]]) ([]) = some (A238.out b) :=
  fn_ok (E := E238) (L := notIn []) rfl rfl (fun x => by kernel_rfl)
/-! ## F270 -/
noncomputable def D270 (a : W59) (d : Int) : PT A270 :=
  .auto 1 <|
  .ask E125 (F125_ok (w64 (0 - a.c5)) d) fun (r : A125) => match r with
  | .a0 f =>
   .auto 1 <|
   .ask E125 (F125_ok a.c4 d) fun (r : A125) => match r with
   | .a0 i =>
    .ret (.a0 f i)
noncomputable def F270 (a : W59) (d : Int) : Option A270 := (D270 a d).ev some
theorem F270_ok (a : W59) (d : Int) : ∀ b, F270 a d = some b → UU 270 ([V.agg (W59.cells a), i64 d]) ([]) = some (A270.out b) :=
  fn_ok (E := E270) (L := notIn []) rfl rfl (fun x => by kernel_rfl)
/-! ## F271 -/
noncomputable def D271 (a d f i : Int) : PT A271 :=
  .auto 3 <|
  .ret (.a0 (w64 (a + f)) (w64 (d + i)))
noncomputable def F271 (a d f i : Int) : Option A271 := (D271 a d f i).ev some
theorem F271_ok (a d f i : Int) : ∀ b, F271 a d f i = some b → UU 271 ([V.agg [i64 a, i64 d], i64 f, i64 i]) ([]) = some (A271.out b) :=
  fn_ok (E := E271) (L := notIn []) rfl rfl (fun x => by kernel_rfl)
/-! ## F286 -/
noncomputable def D286 (a d : Int) : PT A286 :=
  .tot O241 (F241_ok a) fun f =>
  .tot O241 (F241_ok d) fun i =>
  .auto 1 <|
  .ret (.a0 f i)
noncomputable def F286 (a d : Int) : Option A286 := (D286 a d).ev some
theorem F286_ok (a d : Int) : ∀ b, F286 a d = some b → UU 286 ([i64 a, i64 d]) ([]) = some (A286.out b) :=
  fn_ok (E := E286) (L := notIn []) rfl rfl (fun x => by kernel_rfl)
/-! ## F295 -/
noncomputable abbrev B295 : Code := (Tryz.f295.body).getD .skip
inductive T295_0s0 where
  | mk (a : LV) (d f i : Int)
inductive T295_0e0 where
  | mk (a : Int)
inductive N295_0 where
  | s0 (x : T295_0s0)
  | e0 (x : T295_0e0)
@[reducible] def N295_0.out : N295_0 → VX × S
  | .s0 (.mk a d f i) => (vN, S.mk (lS 2 a :: U :: U :: i64 d :: U :: U :: U :: lS 2 a :: i64 f :: i64 i :: un 37 []) [])
  | .e0 (.mk j) => (vX 0, S.mk (U :: U :: U :: i64 j :: un 43 []) [])
abbrev E295_0 : Ent (VX × S) := ⟨N295_0, N295_0.out, fun g => (∃ x, g (.s0 x)) ∨ (∃ x, g (.e0 x)), fun g => ⟨fun h => match h with
  | .inl ⟨_, h⟩ => ⟨_, h⟩
  | .inr (⟨_, h⟩) => ⟨_, h⟩, fun ⟨b, h⟩ => match b, h with
  | .s0 _, h => .inl ⟨_, h⟩
  | .e0 _, h => .inr (⟨_, h⟩)⟩⟩
noncomputable def D295_0 : T295_0s0 → PT N295_0
  | .mk a f i d =>
   .test (d < i)
    (fun h0 =>
    .test (0 ≤ d)
     (fun h1 =>
     .look RW28 (a[Int.toNat d]?) fun j =>
     .auto 1 <|
     .test ((↑(List.length a) : Int) = 0)
      (fun _ => .fail)
      (fun h2 =>
      .test (0 ≤ Int.tmod (w64 (d + 1)) (↑(List.length a) : Int))
       (fun h3 =>
       .look RW28 (a[Int.toNat (Int.tmod (w64 (d + (1 : Int))) (↑(List.length a) : Int))]?) fun l =>
       .auto 3 <|
       .ask E286 (F286_ok j.c0 j.c1) fun (r : A286) => match r with
       | .a0 m o =>
        .auto 2 <|
        .ask E286 (F286_ok l.c0 l.c1) fun (r : A286) => match r with
        | .a0 p q =>
         .auto 6 <|
         .ret (.s0 (.mk a (w64 (f + w64 (w64 (m * q) - w64 (p * o)))) i (w64 (d + 1))))
       )
       (fun _ => .fail)
      )
     )
     (fun _ => .fail)
    )
    (fun h0 =>
    .ret (.e0 (.mk f))
    )
noncomputable def S295_0 : N295_0 → PT N295_0
  | .s0 x => D295_0 x
  | _ => .fail
def N295_0.off : N295_0 → Bool
  | .s0 _ => false
  | _ => true
noncomputable def L295_0 (n : Nat) (b : N295_0) : Option N295_0 := PT.loop S295_0 N295_0.off n b
theorem L295_0_ok : ∀ (n : Nat) (b : N295_0), N295_0.off b = false → ∀ c, L295_0 n b = some c → loopP Tryz.prog X CC 295 0 18446744073709551616 B295 0 n (E295_0.out b).2 = some (E295_0.out c) :=
  loop_ok (E := E295_0) (step := S295_0) (L := notIn []) (fun b hb => by cases b <;> first | (cases hb; done) | (rename_i x; cases x; intro x; kernel_rfl) | (intro x; kernel_rfl)) (fun b => by cases b <;> rfl)
noncomputable def N295_0.nx (n : Nat) (c : N295_0) : Option N295_0 := match N295_0.off c with
  | true => some c
  | false => L295_0 n c
theorem L295_0_s0 (n : Nat) (x : T295_0s0) : L295_0 (n + 1) (.s0 x) = (D295_0 x).ev (N295_0.nx n) := rfl
theorem N295_0.nx_s0 (n : Nat) (x : T295_0s0) : N295_0.nx n (.s0 x) = L295_0 n (.s0 x) := rfl
theorem N295_0.nx_e0 (n : Nat) (x : T295_0e0) : N295_0.nx n (.e0 x) = some (.e0 x) := rfl
noncomputable def D295 (a : LV) : PT A295 :=
  .cut E295_0 (L295_0_ok 18446744073709551616 (.s0 (.mk a 0 ((↑(List.length a) : Int)) 0)) rfl) fun (r : N295_0) => match r with
  | .e0 (.mk d) =>
   .ret (.a0 d)
  | _ => .fail
noncomputable def F295 (a : LV) : Option A295 := (D295 a).ev some
theorem F295_ok (a : LV) : ∀ b, F295 a = some b → UU 295 ([lS 2 a]) ([]) = some (A295.out b) :=
  fn_ok (E := E295) (L := notIn []) rfl rfl (fun x => by kernel_rfl)
/-! ## F296 -/
noncomputable abbrev B296 : Code := (Tryz.f296.body).getD .skip
inductive T296_0s0 where
  | mk (a : Nat) (d f : Int) (i : LV)
inductive T296_0e0 where
  | mk (a : LV)
inductive N296_0 where
  | s0 (x : T296_0s0)
  | e0 (x : T296_0e0)
@[reducible] def N296_0.out : N296_0 → VX × S
  | .s0 (.mk a d f i) => (vN, S.mk (hS 0 a :: U :: i64 d :: i64 f :: un 24 []) [oT 2 i])
  | .e0 (.mk j) => (vX 0, S.mk (un 28 []) [oT 2 j])
abbrev E296_0 : Ent (VX × S) := ⟨N296_0, N296_0.out, fun g => (∃ x, g (.s0 x)) ∨ (∃ x, g (.e0 x)), fun g => ⟨fun h => match h with
  | .inl ⟨_, h⟩ => ⟨_, h⟩
  | .inr (⟨_, h⟩) => ⟨_, h⟩, fun ⟨b, h⟩ => match b, h with
  | .s0 _, h => .inl ⟨_, h⟩
  | .e0 _, h => .inr (⟨_, h⟩)⟩⟩
noncomputable def D296_0 : T296_0s0 → PT N296_0
  | .mk j a d f =>
   .test (a < d)
    (fun h0 =>
    .test (0 ≤ d ∧ d < (↑j : Int))
     (fun h1 =>
     .look RW28 (f[(0 : Nat) + Int.toNat d]?) fun i =>
     .test (0 ≤ a ∧ a < (↑j : Int))
      (fun h2 =>
      .look RW28 (f[(0 : Nat) + Int.toNat a]?) fun l =>
      .known (decide_eq_true h2) <|
      .look RW28 (f[(0 : Nat) + Int.toNat a]?) fun m =>
      .known (decide_eq_true h1) <|
      .look RW28 ((List.set f ((0 : Nat) + Int.toNat a) [i64 i.c0, i64 i.c1])[(0 : Nat) + Int.toNat d]?) fun o =>
      .ret (.s0 (.mk j (w64 (a + 1)) (w64 (d - 1)) (List.set (List.set f (0 + Int.toNat a) [i64 i.c0, i64 i.c1]) (0 + Int.toNat d) [i64 l.c0, i64 l.c1])))
      )
      (fun _ => .fail)
     )
     (fun _ => .fail)
    )
    (fun h0 =>
    .ret (.e0 (.mk f))
    )
noncomputable def S296_0 : N296_0 → PT N296_0
  | .s0 x => D296_0 x
  | _ => .fail
def N296_0.off : N296_0 → Bool
  | .s0 _ => false
  | _ => true
noncomputable def L296_0 (n : Nat) (b : N296_0) : Option N296_0 := PT.loop S296_0 N296_0.off n b
theorem L296_0_ok : ∀ (n : Nat) (b : N296_0), N296_0.off b = false → ∀ c, L296_0 n b = some c → loopP Tryz.prog X CC 296 1 18446744073709551616 B296 0 n (E296_0.out b).2 = some (E296_0.out c) :=
  loop_ok (E := E296_0) (step := S296_0) (L := notIn []) (fun b hb => by cases b <;> first | (cases hb; done) | (rename_i x; cases x; intro x; kernel_rfl) | (intro x; kernel_rfl)) (fun b => by cases b <;> rfl)
noncomputable def N296_0.nx (n : Nat) (c : N296_0) : Option N296_0 := match N296_0.off c with
  | true => some c
  | false => L296_0 n c
theorem L296_0_s0 (n : Nat) (x : T296_0s0) : L296_0 (n + 1) (.s0 x) = (D296_0 x).ev (N296_0.nx n) := rfl
theorem N296_0.nx_s0 (n : Nat) (x : T296_0s0) : N296_0.nx n (.s0 x) = L296_0 n (.s0 x) := rfl
theorem N296_0.nx_e0 (n : Nat) (x : T296_0e0) : N296_0.nx n (.e0 x) = some (.e0 x) := rfl
noncomputable def D296 (a : Nat) (d : LV) : PT A296 :=
  .cut E296_0 (L296_0_ok 18446744073709551616 (.s0 (.mk a 0 (w64 ((↑a : Int) - 1)) d)) rfl) fun (r : N296_0) => match r with
  | .e0 (.mk f) =>
   .ret (.a0 f)
  | _ => .fail
noncomputable def F296 (a : Nat) (d : LV) : Option A296 := (D296 a d).ev some
theorem F296_ok (a : Nat) (d : LV) : ∀ b, F296 a d = some b → UU 296 ([hS 0 a]) ([oT 2 d]) = some (A296.out b) :=
  fn_ok (E := E296) (L := notIn []) rfl rfl (fun x => by kernel_rfl)
/-! ## F287 -/
noncomputable def D287 (d : LV) : PT A287 :=
  .ask E224 (F224_ok d) fun (r : A224) => match r with
  | .a0 a =>
   .ask E295 (F295_ok d) fun (r : A295) => match r with
   | .a0 f =>
    .test (f < 0)
     (fun h0 =>
     .ask E296 (F296_ok (List.length a) a) fun (r : A296) => match r with
     | .a0 i =>
      .ret (.a0 (List.length a) i)
     )
     (fun h0 =>
     .ret (.a0 (List.length a) a)
     )
noncomputable def F287 (a : LV) : Option A287 := (D287 a).ev some
theorem F287_ok (a : LV) : ∀ b, F287 a = some b → UU 287 ([lS 2 a]) ([]) = some (A287.out b) :=
  fn_ok (E := E287) (L := notIn []) rfl rfl (fun x => by kernel_rfl)
/-! ## F272 -/
noncomputable abbrev B272 : Code := (Tryz.f272.body).getD .skip
inductive T272_0s0 where
  | mk (a : Nat) (d f : Int) (i : LV)
inductive T272_0e0 where
  | mk (a : Nat) (d : LV)
inductive N272_0 where
  | s0 (x : T272_0s0)
  | e0 (x : T272_0e0)
@[reducible] def N272_0.out : N272_0 → VX × S
  | .s0 (.mk a d f i) => (vN, S.mk (hS 0 a :: U :: pT 1 :: U :: U :: i64 d :: i64 f :: un 20 []) [oT 2 i, oF 2 [[vb false, hS 2 0]], oT 2 []])
  | .e0 (.mk j l) => (vX 0, S.mk (hS 0 j :: U :: pT 1 :: un 24 []) [oT 2 l, oF 2 [[vb false, hS 2 0]], oT 2 []])
abbrev E272_0 : Ent (VX × S) := ⟨N272_0, N272_0.out, fun g => (∃ x, g (.s0 x)) ∨ (∃ x, g (.e0 x)), fun g => ⟨fun h => match h with
  | .inl ⟨_, h⟩ => ⟨_, h⟩
  | .inr (⟨_, h⟩) => ⟨_, h⟩, fun ⟨b, h⟩ => match b, h with
  | .s0 _, h => .inl ⟨_, h⟩
  | .e0 _, h => .inr (⟨_, h⟩)⟩⟩
noncomputable def D272_0 : T272_0s0 → PT N272_0
  | .mk f i a d =>
   .test (a < i)
    (fun h0 =>
    .test (0 ≤ a ∧ a < (↑f : Int))
     (fun h1 =>
     .look RW28 (d[(0 : Nat) + Int.toNat a]?) fun j =>
     .known (decide_eq_true h1) <|
     .look RW28 (d[(0 : Nat) + Int.toNat a]?) fun l =>
     .ask E286 (F286_ok j.c0 l.c1) fun (r : A286) => match r with
     | .a0 m o =>
      .known (decide_eq_true h1) <|
      .look RW28 (d[(0 : Nat) + Int.toNat a]?) fun p =>
      .ret (.s0 (.mk f i (w64 (a + 1)) (List.set d (0 + Int.toNat a) [i64 m, i64 o])))
     )
     (fun _ => .fail)
    )
    (fun h0 =>
    .ret (.e0 (.mk f d))
    )
noncomputable def S272_0 : N272_0 → PT N272_0
  | .s0 x => D272_0 x
  | _ => .fail
def N272_0.off : N272_0 → Bool
  | .s0 _ => false
  | _ => true
noncomputable def L272_0 (n : Nat) (b : N272_0) : Option N272_0 := PT.loop S272_0 N272_0.off n b
theorem L272_0_ok : ∀ (n : Nat) (b : N272_0), N272_0.off b = false → ∀ c, L272_0 n b = some c → loopP Tryz.prog X CC 272 1 18446744073709551616 B272 0 n (E272_0.out b).2 = some (E272_0.out c) :=
  loop_ok (E := E272_0) (step := S272_0) (L := notIn []) (fun b hb => by cases b <;> first | (cases hb; done) | (rename_i x; cases x; intro x; kernel_rfl) | (intro x; kernel_rfl)) (fun b => by cases b <;> rfl)
noncomputable def N272_0.nx (n : Nat) (c : N272_0) : Option N272_0 := match N272_0.off c with
  | true => some c
  | false => L272_0 n c
theorem L272_0_s0 (n : Nat) (x : T272_0s0) : L272_0 (n + 1) (.s0 x) = (D272_0 x).ev (N272_0.nx n) := rfl
theorem N272_0.nx_s0 (n : Nat) (x : T272_0s0) : N272_0.nx n (.s0 x) = L272_0 n (.s0 x) := rfl
theorem N272_0.nx_e0 (n : Nat) (x : T272_0e0) : N272_0.nx n (.e0 x) = some (.e0 x) := rfl
noncomputable def D272 (d : Nat) (i : LV) : PT A272 :=
  .cut E272_0 (L272_0_ok 18446744073709551616 (.s0 (.mk d ((↑d : Int)) 0 i)) rfl) fun (r : N272_0) => match r with
  | .e0 (.mk f a) =>
   .test (0 + f ≤ List.length a)
    (fun h0 =>
    .ask E287 (F287_ok (List.take f a)) fun (r : A287) => match r with
    | .a0 j l =>
     .auto 1 <|
     .ret (.a0 true j a l)
    )
    (fun _ => .fail)
  | _ => .fail
noncomputable def F272 (a : Nat) (d : LV) : Option A272 := (D272 a d).ev some
theorem F272_ok (a : Nat) (d : LV) : ∀ b, F272 a d = some b → UU 272 ([hS 0 a]) ([oT 2 d]) = some (A272.out b) :=
  fn_ok (E := E272) (L := notIn []) rfl rfl (fun x => by kernel_rfl)
/-! ## F239 -/
noncomputable abbrev B239 : Code := (Tryz.f239.body).getD .skip
inductive T239_c40s0 where
  | mk (a d f i : Int) (j : Bool) (l m o p : Int)
@[reducible] def T239_c40s0.st : T239_c40s0 → S
  | .mk a d f i j l m o p => S.mk (un 8 (pT 0 :: i64 a :: i64 d :: i64 f :: i64 i :: pT 1 :: pT 2 :: un 25 (vb j :: un 26 []))) [oF 2 [[vb false, hS 3 0]], oF 2 [[i64 l, i64 m]], oF 2 [[i64 o, i64 p]], oT 2 []]
inductive T239_c40e0 where
  | mk (a d f i j l : Int)
inductive N239_c40 where
  | e0 (x : T239_c40e0)
@[reducible] def N239_c40.out : N239_c40 → VX × S
  | .e0 (.mk a d f i j l) => (vN, S.mk (un 8 (pT 0 :: i64 a :: i64 d :: U :: U :: pT 1 :: pT 2 :: un 52 [])) [oF 2 [[vb false, hS 3 0]], oF 2 [[i64 f, i64 i]], oF 2 [[i64 j, i64 l]], oT 2 []])
abbrev E239_c40 : Ent (VX × S) := ⟨N239_c40, N239_c40.out, fun g => (∃ x, g (.e0 x)), fun g => ⟨fun h => match h with
  | ⟨_, h⟩ => ⟨_, h⟩, fun ⟨b, h⟩ => match b, h with
  | .e0 _, h => ⟨_, h⟩⟩⟩
noncomputable def D239_c40 : T239_c40s0 → PT N239_c40
  | .mk a d m o p f i j l =>
   .testB p
    (fun h0 =>
    .auto 1 <|
    .ask E271 (F271_ok j l m o) fun (r : A271) => match r with
    | .a0 q s =>
     .auto 1 <|
     .ret (.e0 (.mk a d f i q s))
    )
    (fun h0 =>
    .ret (.e0 (.mk a d f i j l))
    )
noncomputable def J239_c40 (y : T239_c40s0) : Option N239_c40 := (D239_c40 y).ev some
theorem J239_c40_ok (y : T239_c40s0) : ∀ b, J239_c40 y = some b → condP Tryz.prog X CC 239 0 18446744073709551616 B239 40 y.st = some (E239_c40.out b) := by
  cases y; exact cond_ok (E := E239_c40) (L := notIn []) (fun x => by kernel_rfl)
inductive T239_c33s0 where
  | mk (a : Bool) (d f i j : Int) (l : Bool) (m o p q : Int)
@[reducible] def T239_c33s0.st : T239_c33s0 → S
  | .mk a d f i j l m o p q => S.mk (U :: U :: U :: vb a :: un 4 (pT 0 :: i64 d :: i64 f :: i64 i :: i64 j :: pT 1 :: pT 2 :: un 18 (vb l :: un 33 []))) [oF 2 [[vb false, hS 3 0]], oF 2 [[i64 m, i64 o]], oF 2 [[i64 p, i64 q]], oT 2 []]
inductive T239_c33e0 where
  | mk (a : Bool) (d f i j l m o p : Int)
inductive N239_c33 where
  | e0 (x : T239_c33e0)
@[reducible] def N239_c33.out : N239_c33 → VX × S
  | .e0 (.mk a d f i j l m o p) => (vN, S.mk (U :: U :: U :: vb a :: un 4 (pT 0 :: i64 d :: i64 f :: i64 i :: i64 j :: pT 1 :: pT 2 :: un 52 [])) [oF 2 [[vb false, hS 3 0]], oF 2 [[i64 l, i64 m]], oF 2 [[i64 o, i64 p]], oT 2 []])
abbrev E239_c33 : Ent (VX × S) := ⟨N239_c33, N239_c33.out, fun g => (∃ x, g (.e0 x)), fun g => ⟨fun h => match h with
  | ⟨_, h⟩ => ⟨_, h⟩, fun ⟨b, h⟩ => match b, h with
  | .e0 _, h => ⟨_, h⟩⟩⟩
noncomputable def D239_c33 : T239_c33s0 → PT N239_c33
  | .mk f i j a d q l m o p =>
   .testB q
    (fun h0 =>
    .auto 1 <|
    .ask E271 (F271_ok l m (w64 (0 - a)) (w64 (0 - d))) fun (r : A271) => match r with
    | .a0 s t =>
     .auto 1 <|
     .ret (.e0 (.mk f i j a d s t o p))
    )
    (fun h0 =>
    .ret (.e0 (.mk f i j a d l m o p))
    )
noncomputable def J239_c33 (y : T239_c33s0) : Option N239_c33 := (D239_c33 y).ev some
theorem J239_c33_ok (y : T239_c33s0) : ∀ b, J239_c33 y = some b → condP Tryz.prog X CC 239 0 18446744073709551616 B239 33 y.st = some (E239_c33.out b) := by
  cases y; exact cond_ok (E := E239_c33) (L := notIn []) (fun x => by kernel_rfl)
noncomputable def D239 (a : W59) (i : Int) (p q : Bool) : PT A239 :=
  .auto 1 <|
  .ask E270 (F270_ok a i) fun (r : A270) => match r with
  | .a0 s t =>
   .auto 1 <|
   .ask E125 (F125_ok a.c4 i) fun (r : A125) => match r with
   | .a0 u =>
    .auto 1 <|
    .ask E125 (F125_ok a.c5 i) fun (r : A125) => match r with
    | .a0 v =>
     .auto 4 <|
     .cut E239_c33 (J239_c33_ok (.mk q s t u v p a.c0 a.c1 a.c2 a.c3)) fun (r : N239_c33) => match r with
     | .e0 (.mk w y z d0 d1 d2 d3 d4 d5) =>
      .cut E239_c40 (J239_c40_ok (.mk y z d0 d1 w d2 d3 d4 d5)) fun (r : N239_c40) => match r with
      | .e0 (.mk d f j l m o) =>
       .auto 1 <|
       .ask E271 (F271_ok j l d f) fun (r : A271) => match r with
       | .a0 d6 d7 =>
        .auto 1 <|
        .ask E271 (F271_ok m o d f) fun (r : A271) => match r with
        | .a0 d8 d9 =>
         .auto 1 <|
         .ask E271 (F271_ok m o (w64 (0 - d)) (w64 (0 - f))) fun (r : A271) => match r with
         | .a0 f0 f1 =>
          .auto 1 <|
          .ask E271 (F271_ok j l (w64 (0 - d)) (w64 (0 - f))) fun (r : A271) => match r with
          | .a0 f2 f3 =>
           .ask E272 (F272_ok 4 ([[i64 d6, i64 d7], [i64 d8, i64 d9], [i64 f0, i64 f1], [i64 f2, i64 f3]])) fun (r : A272) => match r with
           | .a0 f4 f5 f7 f6 =>
            .auto 1 <|
            .ret (.a0 f4 f5 f6)
noncomputable def F239 (a : W59) (d : Int) (f i : Bool) : Option A239 := (D239 a d f i).ev some
theorem F239_ok (a : W59) (d : Int) (f i : Bool) : ∀ b, F239 a d f i = some b → UU 239 ([V.agg (W59.cells a), i64 d, vb f, vb i]) ([]) = some (A239.out b) :=
  fn_ok (E := E239) (L := notIn []) rfl rfl (fun x => by kernel_rfl)
/-! ## F240 -/
noncomputable def D240 (s : W59) (a : W59) (d : Int) : PT A240 :=
  .auto 1 <|
  .ask E270 (F270_ok s d) fun (r : A270) => match r with
  | .a0 f i =>
   .auto 1 <|
   .ask E270 (F270_ok a d) fun (r : A270) => match r with
   | .a0 j l =>
    .auto 4 <|
    .ask E271 (F271_ok a.c0 a.c1 f i) fun (r : A271) => match r with
    | .a0 t u =>
     .auto 1 <|
     .ask E271 (F271_ok a.c0 a.c1 j l) fun (r : A271) => match r with
     | .a0 v w =>
      .ask E272 (F272_ok 3 ([[i64 a.c0, i64 a.c1], [i64 t, i64 u], [i64 v, i64 w]])) fun (r : A272) => match r with
      | .a0 y m d4 o =>
       .auto 2 <|
       .ask E271 (F271_ok a.c0 a.c1 (w64 (0 - f)) (w64 (0 - i))) fun (r : A271) => match r with
       | .a0 z d0 =>
        .auto 1 <|
        .ask E271 (F271_ok a.c0 a.c1 (w64 (0 - j)) (w64 (0 - l))) fun (r : A271) => match r with
        | .a0 d1 d2 =>
         .ask E272 (F272_ok 3 ([[i64 a.c0, i64 a.c1], [i64 z, i64 d0], [i64 d1, i64 d2]])) fun (r : A272) => match r with
         | .a0 d3 p d5 q =>
          .test (0 + m ≤ List.length o)
           (fun h0 =>
           .test (0 + p ≤ List.length q)
            (fun h1 =>
            .ret (.a0 2 ([[vb y, lS 2 (List.take m o)], [vb d3, lS 2 (List.take p q)]]))
            )
            (fun _ => .fail)
           )
           (fun _ => .fail)
noncomputable def F240 (a : W59) (d : W59) (f : Int) : Option A240 := (D240 a d f).ev some
theorem F240_ok (a : W59) (d : W59) (f : Int) : ∀ b, F240 a d f = some b → UU 240 ([V.agg (W59.cells a), V.agg (W59.cells d), i64 f]) ([]) = some (A240.out b) :=
  fn_ok (E := E240) (L := notIn []) rfl rfl (fun x => by kernel_rfl)
/-! ## F197 -/
noncomputable abbrev B197 : Code := (Tryz.f197.body).getD .skip
inductive T197_r16s0 where
  | mk (a : Int) (d f : Nat) (i : Bool) (j l m : LV)
@[reducible] def T197_r16s0.st : T197_r16s0 → S
  | .mk a d f i j l m => S.mk (U :: U :: U :: pT 0 :: U :: U :: U :: i64 a :: hS 1 d :: U :: hS 2 f :: un 84 []) [oF 2 [[vb i, lS 2 j]], oT 6 l, oT 2 m]
inductive T197_r16e0 where
  | mk (a : Int) (d f : Nat) (i : Bool) (j l : LV)
inductive N197_r16 where
  | e0 (x : T197_r16e0)
@[reducible] def N197_r16.out : N197_r16 → VX × S
  | .e0 (.mk a d f i j l) => (vN, S.mk (un 7 (i64 a :: hS 0 d :: U :: hS 1 f :: un 69 (vb i :: un 14 []))) [oT 6 j, oT 2 l])
abbrev E197_r16 : Ent (VX × S) := ⟨N197_r16, N197_r16.out, fun g => (∃ x, g (.e0 x)), fun g => ⟨fun h => match h with
  | ⟨_, h⟩ => ⟨_, h⟩, fun ⟨b, h⟩ => match b, h with
  | .e0 _, h => ⟨_, h⟩⟩⟩
noncomputable def D197_r16 : T197_r16s0 → PT N197_r16
  | .mk d a f l m i j =>
   .auto 1 <|
   .testB l
    (fun h0 =>
    .auto 3 <|
    .ret (.e0 (.mk d a f (decide ((↑a : Int) ≥ 2)) i j))
    )
    (fun h0 =>
    .auto 3 <|
    .ret (.e0 (.mk d a f false i j))
    )
noncomputable def J197_r16 (y : T197_r16s0) : Option N197_r16 := (D197_r16 y).ev some
theorem J197_r16_ok (y : T197_r16s0) : ∀ b, J197_r16 y = some b → regP Tryz.prog X CC 197 0 B197 16 y.st = some (E197_r16.out b) := by
  cases y; exact reg_ok (E := E197_r16) (fun x => by kernel_rfl)
inductive T197_2s0 where
  | mk (a : Int) (d f : Nat) (i : Int) (j : Bool) (l m o : LV)
inductive T197_2e0 where
  | mk (a : Int) (d f : Nat) (i : Bool) (j l m : LV)
inductive N197_2 where
  | s0 (x : T197_2s0)
  | e0 (x : T197_2e0)
@[reducible] def N197_2.out : N197_2 → VX × S
  | .s0 (.mk a d f i j l m o) => (vN, S.mk (U :: U :: U :: pT 0 :: U :: U :: U :: i64 a :: hS 1 d :: U :: hS 2 f :: U :: U :: i64 i :: un 81 []) [oF 2 [[vb j, lS 2 l]], oT 6 m, oT 2 o])
  | .e0 (.mk p q s t u v w) => (vX 2, S.mk (U :: U :: U :: pT 0 :: U :: U :: U :: i64 p :: hS 1 q :: U :: hS 2 s :: un 84 []) [oF 2 [[vb t, lS 2 u]], oT 6 v, oT 2 w])
abbrev E197_2 : Ent (VX × S) := ⟨N197_2, N197_2.out, fun g => (∃ x, g (.s0 x)) ∨ (∃ x, g (.e0 x)), fun g => ⟨fun h => match h with
  | .inl ⟨_, h⟩ => ⟨_, h⟩
  | .inr (⟨_, h⟩) => ⟨_, h⟩, fun ⟨b, h⟩ => match b, h with
  | .s0 _, h => .inl ⟨_, h⟩
  | .e0 _, h => .inr (⟨_, h⟩)⟩⟩
noncomputable def D197_2 : T197_2s0 → PT N197_2
  | .mk p j d a s t o q =>
   .test (a < (↑j : Int))
    (fun h0 =>
    .test (0 ≤ w64 (a - 1) ∧ w64 (a - 1) < (↑j : Int))
     (fun h1 =>
     .look RW223 (o[(0 : Nat) + Int.toNat (w64 (a - (1 : Int)))]?) fun f =>
     .test (0 ≤ a ∧ a < (↑j : Int))
      (fun h2 =>
      .look RW223 (o[(0 : Nat) + Int.toNat a]?) fun i =>
      .ask E240 (F240_ok (W59.mk f.c0 f.c1 f.c2 f.c3 f.c4 f.c5) (W59.mk i.c0 i.c1 i.c2 i.c3 i.c4 i.c5) p) fun (r : A240) => match r with
      | .a0 l m =>
       .test (0 + l ≤ List.length m)
        (fun h3 =>
        .test (0 + d ≤ List.length q ∧ (d + List.length (List.take l m)) * 32 ≤ 140737488355328 ∧ d + List.length (List.take l m) ≤ 140737488355328)
         (fun h4 =>
         .ret (.s0 (.mk p j (d + List.length (List.take l m)) (w64 (a + 1)) s t o (List.take d q ++ List.take l m)))
         )
         (fun _ => .fail)
        )
        (fun _ => .fail)
      )
      (fun _ => .fail)
     )
     (fun _ => .fail)
    )
    (fun h0 =>
    .ret (.e0 (.mk p j d s t o q))
    )
noncomputable def S197_2 : N197_2 → PT N197_2
  | .s0 x => D197_2 x
  | _ => .fail
def N197_2.off : N197_2 → Bool
  | .s0 _ => false
  | _ => true
noncomputable def L197_2 (n : Nat) (b : N197_2) : Option N197_2 := PT.loop S197_2 N197_2.off n b
theorem L197_2_ok : ∀ (n : Nat) (b : N197_2), N197_2.off b = false → ∀ c, L197_2 n b = some c → loopP Tryz.prog X CC 197 0 18446744073709551616 B197 2 n (E197_2.out b).2 = some (E197_2.out c) :=
  loop_ok (E := E197_2) (step := S197_2) (L := notIn []) (fun b hb => by cases b <;> first | (cases hb; done) | (rename_i x; cases x; intro x; kernel_rfl) | (intro x; kernel_rfl)) (fun b => by cases b <;> rfl)
noncomputable def N197_2.nx (n : Nat) (c : N197_2) : Option N197_2 := match N197_2.off c with
  | true => some c
  | false => L197_2 n c
theorem L197_2_s0 (n : Nat) (x : T197_2s0) : L197_2 (n + 1) (.s0 x) = (D197_2 x).ev (N197_2.nx n) := rfl
theorem N197_2.nx_s0 (n : Nat) (x : T197_2s0) : N197_2.nx n (.s0 x) = L197_2 n (.s0 x) := rfl
theorem N197_2.nx_e0 (n : Nat) (x : T197_2e0) : N197_2.nx n (.e0 x) = some (.e0 x) := rfl
inductive T197_0s0 where
  | mk (a : Int) (d : Nat) (f : Bool) (i : Nat) (j l : Int) (m : Bool) (o p q : LV)
inductive T197_0e0 where
  | mk (a : Int) (d f : Nat) (i : Bool) (j l m : LV)
inductive N197_0 where
  | s0 (x : T197_0s0)
  | e0 (x : T197_0e0)
@[reducible] def N197_0.out : N197_0 → VX × S
  | .s0 (.mk d a f i j l m o p q) => (vN, S.mk (U :: U :: U :: pT 0 :: U :: U :: U :: i64 d :: hS 1 a :: vb f :: hS 2 i :: un 17 (hS 1 a :: i64 j :: i64 l :: un 64 [])) [oF 2 [[vb m, lS 2 o]], oT 6 p, oT 2 q])
  | .e0 (.mk s t u v w y z) => (vX 0, S.mk (U :: U :: U :: pT 0 :: U :: U :: U :: i64 s :: hS 1 t :: U :: hS 2 u :: un 84 []) [oF 2 [[vb v, lS 2 w]], oT 6 y, oT 2 z])
abbrev E197_0 : Ent (VX × S) := ⟨N197_0, N197_0.out, fun g => (∃ x, g (.s0 x)) ∨ (∃ x, g (.e0 x)), fun g => ⟨fun h => match h with
  | .inl ⟨_, h⟩ => ⟨_, h⟩
  | .inr (⟨_, h⟩) => ⟨_, h⟩, fun ⟨b, h⟩ => match b, h with
  | .s0 _, h => .inl ⟨_, h⟩
  | .e0 _, h => .inr (⟨_, h⟩)⟩⟩
noncomputable def D197_0 : T197_0s0 → PT N197_0
  | .mk i j o d p f q s m l =>
   .test (f < p)
    (fun h0 =>
    .test (0 ≤ f ∧ f < (↑j : Int))
     (fun h1 =>
     .look RW223 (m[(0 : Nat) + Int.toNat f]?) fun a =>
     .auto 2 <|
     .testB o
      (fun h2 =>
      .auto 2 <|
      .known h2 <|
      .auto 5 <|
      .ask E239 (F239_ok (W59.mk a.c0 a.c1 a.c2 a.c3 a.c4 a.c5) i (f == 0) (f == w64 ((↑j : Int) - 1))) fun (r : A239) => match r with
      | .a0 y t u =>
       .test (0 + t ≤ List.length u)
        (fun h3 =>
        .auto 1 <|
        .test (0 + d ≤ List.length l ∧ (d + 1) * 32 ≤ 140737488355328 ∧ d + 1 ≤ 140737488355328)
         (fun h4 =>
         .ret (.s0 (.mk i j o (d + 1) p (w64 (f + 1)) q s m (List.take d l ++ [[vb y, lS 2 (List.take t u)]])))
         )
         (fun _ => .fail)
        )
        (fun _ => .fail)
      )
      (fun h2 =>
      .auto 2 <|
      .known h2 <|
      .auto 5 <|
      .ask E239 (F239_ok (W59.mk a.c0 a.c1 a.c2 a.c3 a.c4 a.c5) i false false) fun (r : A239) => match r with
      | .a0 z v w =>
       .test (0 + v ≤ List.length w)
        (fun h3 =>
        .auto 1 <|
        .test (0 + d ≤ List.length l ∧ (d + 1) * 32 ≤ 140737488355328 ∧ d + 1 ≤ 140737488355328)
         (fun h4 =>
         .ret (.s0 (.mk i j o (d + 1) p (w64 (f + 1)) q s m (List.take d l ++ [[vb z, lS 2 (List.take v w)]])))
         )
         (fun _ => .fail)
        )
        (fun _ => .fail)
      )
     )
     (fun _ => .fail)
    )
    (fun h0 =>
    .ret (.e0 (.mk i j d q s m l))
    )
noncomputable def S197_0 : N197_0 → PT N197_0
  | .s0 x => D197_0 x
  | _ => .fail
def N197_0.off : N197_0 → Bool
  | .s0 _ => false
  | _ => true
noncomputable def L197_0 (n : Nat) (b : N197_0) : Option N197_0 := PT.loop S197_0 N197_0.off n b
theorem L197_0_ok : ∀ (n : Nat) (b : N197_0), N197_0.off b = false → ∀ c, L197_0 n b = some c → loopP Tryz.prog X CC 197 0 18446744073709551616 B197 0 n (E197_0.out b).2 = some (E197_0.out c) :=
  loop_ok (E := E197_0) (step := S197_0) (L := notIn []) (fun b hb => by cases b <;> first | (cases hb; done) | (rename_i x; cases x; intro x; kernel_rfl) | (intro x; kernel_rfl)) (fun b => by cases b <;> rfl)
noncomputable def N197_0.nx (n : Nat) (c : N197_0) : Option N197_0 := match N197_0.off c with
  | true => some c
  | false => L197_0 n c
theorem L197_0_s0 (n : Nat) (x : T197_0s0) : L197_0 (n + 1) (.s0 x) = (D197_0 x).ev (N197_0.nx n) := rfl
theorem N197_0.nx_s0 (n : Nat) (x : T197_0s0) : N197_0.nx n (.s0 x) = L197_0 n (.s0 x) := rfl
theorem N197_0.nx_e0 (n : Nat) (x : T197_0e0) : N197_0.nx n (.e0 x) = some (.e0 x) := rfl
inductive T197_r5s0 where
  | mk (a d : Int) (f : Nat) (i : Bool) (j l : LV)
@[reducible] def T197_r5s0.st : T197_r5s0 → S
  | .mk a d f i j l => S.mk (U :: U :: i64 a :: pT 0 :: U :: U :: U :: i64 d :: hS 1 f :: un 86 []) [oF 2 [[vb i, lS 2 j]], oT 6 l]
inductive T197_r5e0 where
  | mk (a : Int) (d : Nat) (f i : Bool) (j l : LV)
inductive N197_r5 where
  | e0 (x : T197_r5e0)
@[reducible] def N197_r5.out : N197_r5 → VX × S
  | .e0 (.mk a d f i j l) => (vN, S.mk (U :: U :: U :: pT 0 :: U :: U :: U :: i64 a :: hS 1 d :: vb f :: un 85 []) [oF 2 [[vb i, lS 2 j]], oT 6 l])
abbrev E197_r5 : Ent (VX × S) := ⟨N197_r5, N197_r5.out, fun g => (∃ x, g (.e0 x)), fun g => ⟨fun h => match h with
  | ⟨_, h⟩ => ⟨_, h⟩, fun ⟨b, h⟩ => match b, h with
  | .e0 _, h => ⟨_, h⟩⟩⟩
noncomputable def D197_r5 : T197_r5s0 → PT N197_r5
  | .mk l d f a i j =>
   .testB (l == 1)
    (fun h0 =>
    .auto 4 <|
    .ret (.e0 (.mk d f (!a) a i j))
    )
    (fun h0 =>
    .auto 3 <|
    .ret (.e0 (.mk d f false a i j))
    )
noncomputable def J197_r5 (y : T197_r5s0) : Option N197_r5 := (D197_r5 y).ev some
theorem J197_r5_ok (y : T197_r5s0) : ∀ b, J197_r5 y = some b → regP Tryz.prog X CC 197 0 B197 5 y.st = some (E197_r5.out b) := by
  cases y; exact reg_ok (E := E197_r5) (fun x => by kernel_rfl)
noncomputable def D197 (o : Bool) (p : LV) (u v : Int) : PT A197 :=
  .auto 1 <|
  .tot O74 (F74_ok (Int.fdiv u 2) 0 67108864) fun q =>
  .testB (q == 0)
   (fun h0 =>
   .ret (.a0 0 ([]))
   )
   (fun h0 =>
   .auto 1 <|
   .ask E238 (F238_ok o p) fun (r : A238) => match r with
   | .a0 w y =>
    .cut E197_r5 (J197_r5_ok (.mk v q w o p y)) fun (r : N197_r5) => match r with
    | .e0 (.mk z s d0 d1 d2 d3) =>
     .cut E197_0 (L197_0_ok 18446744073709551616 (.s0 (.mk z s d0 0 ((↑s : Int)) 0 d1 d2 d3 ([]))) rfl) fun (r : N197_0) => match r with
     | .e0 (.mk d4 d5 d6 d7 d8 d9 f0) =>
      .cut E197_2 (L197_2_ok 18446744073709551616 (.s0 (.mk d4 d5 d6 1 d7 d8 d9 f0)) rfl) fun (r : N197_2) => match r with
      | .e0 (.mk f1 f2 f3 f4 f5 f6 f7) =>
       .cut E197_r16 (J197_r16_ok (.mk f1 f2 f3 f4 f5 f6 f7)) fun (r : N197_r16) => match r with
       | .e0 (.mk f8 i a f9 t m) =>
        .testB f9
         (fun h1 =>
         .test (0 ≤ w64 ((↑i : Int) - 1) ∧ w64 ((↑i : Int) - 1) < (↑i : Int))
          (fun h2 =>
          .look RW223 (t[(0 : Nat) + Int.toNat (w64 ((↑i : Int) - (1 : Int)))]?) fun d =>
          .test ((0 : Int) ≤ (0 : Int) ∧ (0 : Int) < (↑i : Int))
           (fun h3 =>
           .look RW223 (t[(0 : Nat)]?) fun f =>
           .ask E240 (F240_ok (W59.mk d.c0 d.c1 d.c2 d.c3 d.c4 d.c5) (W59.mk f.c0 f.c1 f.c2 f.c3 f.c4 f.c5) f8) fun (r : A240) => match r with
           | .a0 j l =>
            .test (0 + j ≤ List.length l)
             (fun h4 =>
             .test (0 + a ≤ List.length m ∧ (a + List.length (List.take j l)) * 32 ≤ 140737488355328 ∧ a + List.length (List.take j l) ≤ 140737488355328)
              (fun h5 =>
              .ret (.a0 (a + List.length (List.take j l)) (List.take a m ++ List.take j l))
              )
              (fun _ => .fail)
             )
             (fun _ => .fail)
           )
           (fun _ => .fail)
          )
          (fun _ => .fail)
         )
         (fun h1 =>
         .ret (.a0 a m)
         )
      | _ => .fail
     | _ => .fail
   )
noncomputable def F197 (a : Bool) (d : LV) (f i : Int) : Option A197 := (D197 a d f i).ev some
theorem F197_ok (a : Bool) (d : LV) (f i : Int) : ∀ b, F197 a d f i = some b → UU 197 ([V.agg [vb a, lS 2 d], i64 f, i64 i]) ([]) = some (A197.out b) :=
  fn_ok (E := E197) (L := notIn []) rfl rfl (fun x => by kernel_rfl)
/-! ## F140 -/
noncomputable abbrev B140 : Code := (Tryz.f140.body).getD .skip
inductive T140_2s0 where
  | mk (a : Int) (d : Nat) (f i : Int) (j : Nat) (l m o p : Int) (q s t : LV) (u : Bool) (v w y z d0 d1 d2 d3 d4 d5 d6 d7 d8 d9 f0 : Int) (f1 : LV) (f2 : Bool) (f3 : LV) (f4 f5 f6 f7 f8 : Int) (f9 j0 j1 : LV) (j2 : W59) (j3 : Nat) (j4 : Int) (j5 j6 j7 : LV)
inductive T140_2e0 where
  | mk (a : Int) (d : Nat) (f i j l : Int) (m o p : LV) (q : Bool) (s t u v w y z d0 d1 d2 d3 d4 d5 d6 d7 : Int) (d8 : LV) (d9 : Bool) (f0 : LV) (f1 f2 f3 f4 f5 : Int) (f6 f7 f8 : LV) (f9 : W59) (j0 : Nat) (j1 : Int) (j2 j3 : LV)
inductive N140_2 where
  | s0 (x : T140_2s0)
  | e0 (x : T140_2e0)
@[reducible] def N140_2.out : N140_2 → VX × S
  | .s0 (.mk p q s t u v w y z d0 d1 d2 d3 d4 d5 d6 d7 d8 d9 f0 f1 f2 f3 f4 f5 f6 f7 f8 f9 j0 j1 a d f i j2 j3 j4 j5 j6 j7 j8 j9 l0 l1) => (vN, S.mk (un 5 (pT 0 :: U :: pT 1 :: U :: U :: pT 2 :: pT 3 :: i64 p :: un 24 (hS 4 q :: i64 s :: i64 t :: un 6 (hS 5 u :: i64 v :: i64 w :: un 17 [])))) [oF 32 [[i64 y, i64 z, lS 7 d0, lS 7 d1, lS 8 d2, vb d3, i64 d4, i64 d5, u8 d6, u8 d7, u8 d8, u8 d9, u8 f0, u8 f1, u8 f2, u8 f3, i64 f4, i64 f5, i64 f6, i64 f7, i64 f8, lS 10 f9, vb j0, lS 7 j1, u8 a, u8 d, u8 f, u8 i, i64 j2, lS 1 j3, lS 7 j4, lS 7 j5]], oF 6 [W59.cells j6], oF 17 [[hS 6 0, i64 0, i64 0, u8 0, u8 0, u8 0, u8 0, u8 0, u8 0, u8 0, u8 0, i64 0, i64 0, i64 0, i64 0, i64 0, i64 0]], oF 17 [[hS 7 j7, i64 0, i64 0, u8 a, u8 d, u8 f, u8 i, u8 a, u8 d, u8 f, u8 i, i64 0, i64 0, i64 0, i64 0, i64 0, i64 j8]], oT 2 j9, oT 2 l0, oT 2 [], oT 2 l1])
  | .e0 (.mk l2 l3 l4 l5 l6 l7 l8 l9 m0 m1 m2 m3 m4 m5 m6 m7 m8 m9 o0 o1 o2 o3 o4 o5 o6 o7 o8 o9 j l m o p0 p1 p2 p3 p4 p5 p6 p7 p8) => (vX 2, S.mk (un 5 (pT 0 :: U :: pT 1 :: U :: U :: pT 2 :: pT 3 :: i64 l2 :: un 24 (hS 4 l3 :: i64 l4 :: i64 l5 :: un 26 []))) [oF 32 [[i64 l6, i64 l7, lS 7 l8, lS 7 l9, lS 8 m0, vb m1, i64 m2, i64 m3, u8 m4, u8 m5, u8 m6, u8 m7, u8 m8, u8 m9, u8 o0, u8 o1, i64 o2, i64 o3, i64 o4, i64 o5, i64 o6, lS 10 o7, vb o8, lS 7 o9, u8 j, u8 l, u8 m, u8 o, i64 p0, lS 1 p1, lS 7 p2, lS 7 p3]], oF 6 [W59.cells p4], oF 17 [[hS 5 0, i64 0, i64 0, u8 0, u8 0, u8 0, u8 0, u8 0, u8 0, u8 0, u8 0, i64 0, i64 0, i64 0, i64 0, i64 0, i64 0]], oF 17 [[hS 6 p5, i64 0, i64 0, u8 j, u8 l, u8 m, u8 o, u8 j, u8 l, u8 m, u8 o, i64 0, i64 0, i64 0, i64 0, i64 0, i64 p6]], oT 2 p7, oT 2 [], oT 2 p8])
abbrev E140_2 : Ent (VX × S) := ⟨N140_2, N140_2.out, fun g => (∃ x, g (.s0 x)) ∨ (∃ x, g (.e0 x)), fun g => ⟨fun h => match h with
  | .inl ⟨_, h⟩ => ⟨_, h⟩
  | .inr (⟨_, h⟩) => ⟨_, h⟩, fun ⟨b, h⟩ => match b, h with
  | .s0 _, h => .inl ⟨_, h⟩
  | .e0 _, h => .inr (⟨_, h⟩)⟩⟩
noncomputable def D140_2 : T140_2s0 → PT N140_2
  | .mk j p q s t u d v w y z d0 d1 d2 d3 d4 d5 d6 d7 d8 d9 f0 f1 f2 f3 f4 f5 f6 f7 f8 f9 j0 j1 j2 j3 l j4 j5 j6 m a j7 j8 j9 o =>
   .test (d < u)
    (fun h0 =>
    .test (0 ≤ d ∧ d < (↑t : Int))
     (fun h1 =>
     .look RW88 (j9[(0 : Nat) + Int.toNat d]?) fun l0 =>
     .auto 5 <|
     .ask E197 (F197_ok l0.c0 l0.c1 j l) fun (r : A197) => match r with
     | .a0 l1 l2 =>
      .test (0 + l1 ≤ List.length l2)
       (fun h2 =>
       .ask E147 (F147_ok m (List.take l1 l2)) fun (r : A147) => match r with
       | .a0 f i =>
        .test (0 + f ≤ List.length i)
         (fun h3 =>
         .test (0 + a ≤ List.length o ∧ (a + List.length (List.take f i)) * 32 ≤ 140737488355328 ∧ a + List.length (List.take f i) ≤ 140737488355328)
          (fun h4 =>
          .auto 1 <|
          .ret (.s0 (.mk j p q s t u (w64 (d + 1)) v w y z d0 d1 d2 d3 d4 d5 d6 d7 d8 d9 f0 f1 f2 f3 f4 f5 f6 f7 f8 f9 j0 j1 j2 j3 l j4 j5 j6 m (a + List.length (List.take f i)) j7 j8 j9 (List.take a o ++ List.take f i)))
          )
          (fun _ => .fail)
         )
         (fun _ => .fail)
       )
       (fun _ => .fail)
     )
     (fun _ => .fail)
    )
    (fun h0 =>
    .ret (.e0 (.mk j p q s v w y z d0 d1 d2 d3 d4 d5 d6 d7 d8 d9 f0 f1 f2 f3 f4 f5 f6 f7 f8 f9 j0 j1 j2 j3 l j4 j5 j6 m a j7 j8 o))
    )
noncomputable def S140_2 : N140_2 → PT N140_2
  | .s0 x => D140_2 x
  | _ => .fail
def N140_2.off : N140_2 → Bool
  | .s0 _ => false
  | _ => true
noncomputable def L140_2 (n : Nat) (b : N140_2) : Option N140_2 := PT.loop S140_2 N140_2.off n b
theorem L140_2_ok : ∀ (n : Nat) (b : N140_2), N140_2.off b = false → ∀ c, L140_2 n b = some c → loopP Tryz.prog X CC 140 0 18446744073709551616 B140 2 n (E140_2.out b).2 = some (E140_2.out c) :=
  loop_ok (E := E140_2) (step := S140_2) (L := notIn []) (fun b hb => by cases b <;> first | (cases hb; done) | (rename_i x; cases x; intro x; kernel_rfl) | (intro x; kernel_rfl)) (fun b => by cases b <;> rfl)
noncomputable def N140_2.nx (n : Nat) (c : N140_2) : Option N140_2 := match N140_2.off c with
  | true => some c
  | false => L140_2 n c
theorem L140_2_s0 (n : Nat) (x : T140_2s0) : L140_2 (n + 1) (.s0 x) = (D140_2 x).ev (N140_2.nx n) := rfl
theorem N140_2.nx_s0 (n : Nat) (x : T140_2s0) : N140_2.nx n (.s0 x) = L140_2 n (.s0 x) := rfl
theorem N140_2.nx_e0 (n : Nat) (x : T140_2e0) : N140_2.nx n (.e0 x) = some (.e0 x) := rfl
inductive T140_0s0 where
  | mk (a : Int) (d : Nat) (f i j l : Int) (m o p : LV) (q : Bool) (s t u v w y z d0 d1 d2 d3 d4 d5 d6 d7 : Int) (d8 : LV) (d9 : Bool) (f0 : LV) (f1 f2 f3 f4 f5 : Int) (f6 f7 f8 : LV) (f9 : W59) (j0 : Nat) (j1 : Int) (j2 j3 : LV)
inductive T140_0e0 where
  | mk (a : Nat) (d f i j l : Int) (m : LV)
inductive N140_0 where
  | s0 (x : T140_0s0)
  | e0 (x : T140_0e0)
@[reducible] def N140_0.out : N140_0 → VX × S
  | .s0 (.mk p q s t u v w y z d0 d1 d2 d3 d4 d5 d6 d7 d8 d9 f0 f1 f2 f3 f4 f5 f6 f7 f8 a d f i f9 j0 j1 j2 j3 j4 j5 j6 j7) => (vN, S.mk (un 5 (pT 0 :: U :: pT 1 :: U :: U :: pT 2 :: pT 3 :: i64 p :: un 24 (hS 4 q :: i64 s :: i64 t :: un 26 []))) [oF 32 [[i64 u, i64 v, lS 7 w, lS 7 y, lS 8 z, vb d0, i64 d1, i64 d2, u8 d3, u8 d4, u8 d5, u8 d6, u8 d7, u8 d8, u8 d9, u8 f0, i64 f1, i64 f2, i64 f3, i64 f4, i64 f5, lS 10 f6, vb f7, lS 7 f8, u8 a, u8 d, u8 f, u8 i, i64 f9, lS 1 j0, lS 7 j1, lS 7 j2]], oF 6 [W59.cells j3], oF 17 [[hS 5 0, i64 0, i64 0, u8 0, u8 0, u8 0, u8 0, u8 0, u8 0, u8 0, u8 0, i64 0, i64 0, i64 0, i64 0, i64 0, i64 0]], oF 17 [[hS 6 j4, i64 0, i64 0, u8 a, u8 d, u8 f, u8 i, u8 a, u8 d, u8 f, u8 i, i64 0, i64 0, i64 0, i64 0, i64 0, i64 j5]], oT 2 j6, oT 2 [], oT 2 j7])
  | .e0 (.mk j8 j l m o j9 l0) => (vX 0, S.mk (un 10 (pT 0 :: pT 1 :: un 54 [])) [oF 17 [[hS 2 0, i64 0, i64 0, u8 0, u8 0, u8 0, u8 0, u8 0, u8 0, u8 0, u8 0, i64 0, i64 0, i64 0, i64 0, i64 0, i64 0]], oF 17 [[hS 3 j8, i64 0, i64 0, u8 j, u8 l, u8 m, u8 o, u8 j, u8 l, u8 m, u8 o, i64 0, i64 0, i64 0, i64 0, i64 0, i64 j9]], oT 2 [], oT 2 l0])
abbrev E140_0 : Ent (VX × S) := ⟨N140_0, N140_0.out, fun g => (∃ x, g (.s0 x)) ∨ (∃ x, g (.e0 x)), fun g => ⟨fun h => match h with
  | .inl ⟨_, h⟩ => ⟨_, h⟩
  | .inr (⟨_, h⟩) => ⟨_, h⟩, fun ⟨b, h⟩ => match b, h with
  | .s0 _, h => .inl ⟨_, h⟩
  | .e0 _, h => .inr (⟨_, h⟩)⟩⟩
noncomputable def D140_0 : T140_0s0 → PT N140_0
  | .mk w d f a y z d0 d1 d2 d3 d4 d5 d6 d7 d8 d9 f0 f1 f2 f3 f4 f5 f6 f7 f8 f9 j0 j1 i j l m j2 o j3 j4 j5 p q s t =>
   .test (a < f)
    (fun h0 =>
    .test (0 ≤ a ∧ a < (↑d : Int))
     (fun h1 =>
     .look RW88 (s[(0 : Nat) + Int.toNat a]?) fun u =>
     .auto 3 <|
     .ask E196 (F196_ok u.c0 u.c1 o) fun (r : A196) => match r with
     | .a0 v j6 =>
      .cut E140_2 (L140_2_ok 18446744073709551616 (.s0 (.mk w d f a v ((↑v : Int)) 0 y z d0 d1 d2 d3 d4 d5 d6 d7 d8 d9 f0 f1 f2 f3 f4 f5 f6 f7 f8 f9 j0 j1 i j l m j2 o j3 j4 j5 p q s j6 t)) rfl) fun (r : N140_2) => match r with
      | .e0 (.mk j7 j8 j9 l0 l1 l2 l3 l4 l5 l6 l7 l8 l9 m0 m1 m2 m3 m4 m5 m6 m7 m8 m9 o0 o1 o2 o3 o4 o5 o6 o7 o8 o9 p0 p1 p2 p3 p4 p5 p6 p7) =>
       .ret (.s0 (.mk j7 j8 j9 (w64 (l0 + 1)) l1 l2 l3 l4 l5 l6 l7 l8 l9 m0 m1 m2 m3 m4 m5 m6 m7 m8 m9 o0 o1 o2 o3 o4 o5 o6 o7 o8 o9 p0 p1 p2 p3 p4 p5 p6 p7))
      | _ => .fail
     )
     (fun _ => .fail)
    )
    (fun h0 =>
    .ret (.e0 (.mk p i j l m q t))
    )
noncomputable def S140_0 : N140_0 → PT N140_0
  | .s0 x => D140_0 x
  | _ => .fail
def N140_0.off : N140_0 → Bool
  | .s0 _ => false
  | _ => true
noncomputable def L140_0 (n : Nat) (b : N140_0) : Option N140_0 := PT.loop S140_0 N140_0.off n b
theorem L140_0_ok : ∀ (n : Nat) (b : N140_0), N140_0.off b = false → ∀ c, L140_0 n b = some c → loopP Tryz.prog X CC 140 0 18446744073709551616 B140 0 n (E140_0.out b).2 = some (E140_0.out c) :=
  loop_ok (E := E140_0) (step := S140_0) (L := notIn []) (fun b hb => by cases b <;> first | (cases hb; done) | (rename_i x; cases x; intro x; kernel_rfl) | (intro x; kernel_rfl)) (fun b => by cases b <;> rfl)
noncomputable def N140_0.nx (n : Nat) (c : N140_0) : Option N140_0 := match N140_0.off c with
  | true => some c
  | false => L140_0 n c
theorem L140_0_s0 (n : Nat) (x : T140_0s0) : L140_0 (n + 1) (.s0 x) = (D140_0 x).ev (N140_0.nx n) := rfl
theorem N140_0.nx_s0 (n : Nat) (x : T140_0s0) : N140_0.nx n (.s0 x) = L140_0 n (.s0 x) := rfl
theorem N140_0.nx_e0 (n : Nat) (x : T140_0e0) : N140_0.nx n (.e0 x) = some (.e0 x) := rfl
noncomputable def D140 (q s : Int) (t u v : LV) (w : Bool) (y z d0 d1 d2 d3 d4 d5 d6 d7 d8 d9 f0 f1 f2 : Int) (f3 : LV) (f4 : Bool) (d : LV) (f5 f6 f7 f8 f9 : Int) (j0 f i : LV) (a : Int) (j1 : W59) (j2 : Int) (j3 : LV) : PT A140 :=
  .auto 4 <|
  .ask E72 (F72_ok d a 0) fun (r : A72) => match r with
  | .a0 j4 =>
   .auto 1 <|
   .ask E72 (F72_ok f a 0) fun (r : A72) => match r with
   | .a0 j5 =>
    .auto 1 <|
    .ask E72 (F72_ok i a 65536) fun (r : A72) => match r with
    | .a0 j6 =>
     .ask E195 (F195_ok j3 j5 j6) fun (r : A195) => match r with
     | .a0 j j7 =>
      .cut E140_0 (L140_0_ok 18446744073709551616 (.s0 (.mk j4 j ((↑j : Int)) 0 q s t u v w y z d0 d1 d2 d3 d4 d5 d6 d7 d8 d9 f0 f1 f2 f3 f4 d f5 f6 f7 f8 f9 j0 f i j1 0 j2 j7 ([]))) rfl) fun (r : N140_0) => match r with
      | .e0 (.mk j8 l m o p j9 l0) =>
       .auto 2 <|
       .ret (.a0 j8 0 0 l m o p l m o p 0 0 0 0 0 j9 l0)
      | _ => .fail
noncomputable def F140 (a d : Int) (f i j : LV) (l : Bool) (m o p q s t u v w y z d0 d1 d2 d3 : Int) (d4 : LV) (d5 : Bool) (d6 : LV) (d7 d8 d9 f0 f1 : Int) (f2 f3 f4 : LV) (f5 : Int) (f6 : W59) (f7 : Int) (f8 : LV) : Option A140 := (D140 a d f i j l m o p q s t u v w y z d0 d1 d2 d3 d4 d5 d6 d7 d8 d9 f0 f1 f2 f3 f4 f5 f6 f7 f8).ev some
theorem F140_ok (a d : Int) (f i j : LV) (l : Bool) (m o p q s t u v w y z d0 d1 d2 d3 : Int) (d4 : LV) (d5 : Bool) (d6 : LV) (d7 d8 d9 f0 f1 : Int) (f2 f3 f4 : LV) (f5 : Int) (f6 : W59) (f7 : Int) (f8 : LV) : ∀ b, F140 a d f i j l m o p q s t u v w y z d0 d1 d2 d3 d4 d5 d6 d7 d8 d9 f0 f1 f2 f3 f4 f5 f6 f7 f8 = some b → UU 140 ([V.agg [i64 a, i64 d, lS 7 f, lS 7 i, lS 8 j, vb l, i64 m, i64 o, u8 p, u8 q, u8 s, u8 t, u8 u, u8 v, u8 w, u8 y, i64 z, i64 d0, i64 d1, i64 d2, i64 d3, lS 10 d4, vb d5, lS 7 d6, u8 d7, u8 d8, u8 d9, u8 f0, i64 f1, lS 1 f2, lS 7 f3, lS 7 f4], i64 f5, V.agg (W59.cells f6), i64 f7, lS 2 f8]) ([]) = some (A140.out b) :=
  fn_ok (E := E140) (L := notIn []) rfl rfl (fun x => by kernel_rfl)
/-! ## F75 -/
noncomputable abbrev B75 : Code := (Tryz.f75.body).getD .skip
inductive T75_c24s0 where
  | mk (a d : Int) (f : Bool) (i j : Int) (l m o : LV) (p q s t u v w y z d0 d1 d2 d3 d4 d5 : Int) (d6 : LV) (d7 : Bool) (d8 : LV) (d9 f0 f1 f2 f3 : Int) (f4 f5 f6 : LV) (f7 : W59) (f8 : LV)
@[reducible] def T75_c24s0.st : T75_c24s0 → S
  | .mk d f a i j l m o p q s t u v w y z d0 d1 d2 d3 d4 d5 d6 d7 d8 d9 f0 f1 f2 f3 f4 f5 f6 f7 f8 => S.mk (U :: i64 d :: U :: i64 f :: pT 0 :: U :: pT 1 :: U :: U :: U :: hS 2 0 :: hS 3 1 :: un 12 (vb a :: un 26 [])) [oF 32 [[i64 i, i64 j, lS 7 l, lS 7 m, lS 8 o, vb a, i64 p, i64 q, u8 s, u8 t, u8 u, u8 v, u8 w, u8 y, u8 z, u8 d0, i64 d1, i64 d2, i64 d3, i64 d4, i64 d5, lS 10 d6, vb d7, lS 7 d8, u8 d9, u8 f0, u8 f1, u8 f2, i64 f3, lS 1 f4, lS 7 f5, lS 7 f6]], oF 6 [W59.cells f7], oT 17 [], oT 2 f8]
inductive T75_c24e0 where
  | mk (a d f i : Int) (j l m : LV) (o : Bool) (p q s t u v w y z d0 d1 d2 d3 d4 d5 : Int) (d6 : LV) (d7 : Bool) (d8 : LV) (d9 f0 f1 f2 f3 : Int) (f4 f5 f6 : LV) (f7 : W59) (f8 f9 : LV)
inductive T75_c24e1 where
  | mk (a d f i : Int) (j l m : LV) (o : Bool) (p q s t u v w y z d0 d1 d2 d3 d4 d5 : Int) (d6 : LV) (d7 : Bool) (d8 : LV) (d9 f0 f1 f2 f3 : Int) (f4 f5 f6 : LV) (f7 : W59) (f8 : LV)
inductive N75_c24 where
  | e0 (x : T75_c24e0)
  | e1 (x : T75_c24e1)
@[reducible] def N75_c24.out : N75_c24 → VX × S
  | .e0 (.mk a d f i j l m o p q s t u v w y z d0 d1 d2 d3 d4 d5 d6 d7 d8 d9 f0 f1 f2 f3 f4 f5 f6 f7 f8 f9) => (vN, S.mk (U :: i64 a :: U :: i64 d :: pT 0 :: U :: pT 1 :: U :: U :: U :: hS 2 1 :: hS 3 1 :: un 39 []) [oF 32 [[i64 f, i64 i, lS 7 j, lS 7 l, lS 8 m, vb o, i64 p, i64 q, u8 s, u8 t, u8 u, u8 v, u8 w, u8 y, u8 z, u8 d0, i64 d1, i64 d2, i64 d3, i64 d4, i64 d5, lS 10 d6, vb d7, lS 7 d8, u8 d9, u8 f0, u8 f1, u8 f2, i64 f3, lS 1 f4, lS 7 f5, lS 7 f6]], oF 6 [W59.cells f7], oT 17 f8, Ob.cells false true 2 f9])
  | .e1 (.mk j0 j1 j2 j3 j4 j5 j6 j7 j8 j9 l0 l1 l2 l3 l4 l5 l6 l7 l8 l9 m0 m1 m2 m3 m4 m5 m6 m7 m8 m9 o0 o1 o2 o3 o4 o5) => (vN, S.mk (U :: i64 j0 :: U :: i64 j1 :: pT 0 :: U :: pT 1 :: U :: U :: U :: hS 2 0 :: hS 3 1 :: un 39 []) [oF 32 [[i64 j2, i64 j3, lS 7 j4, lS 7 j5, lS 8 j6, vb j7, i64 j8, i64 j9, u8 l0, u8 l1, u8 l2, u8 l3, u8 l4, u8 l5, u8 l6, u8 l7, i64 l8, i64 l9, i64 m0, i64 m1, i64 m2, lS 10 m3, vb m4, lS 7 m5, u8 m6, u8 m7, u8 m8, u8 m9, i64 o0, lS 1 o1, lS 7 o2, lS 7 o3]], oF 6 [W59.cells o4], oT 17 [], oT 2 o5])
abbrev E75_c24 : Ent (VX × S) := ⟨N75_c24, N75_c24.out, fun g => (∃ x, g (.e0 x)) ∨ (∃ x, g (.e1 x)), fun g => ⟨fun h => match h with
  | .inl ⟨_, h⟩ => ⟨_, h⟩
  | .inr (⟨_, h⟩) => ⟨_, h⟩, fun ⟨b, h⟩ => match b, h with
  | .e0 _, h => .inl ⟨_, h⟩
  | .e1 _, h => .inr (⟨_, h⟩)⟩⟩
noncomputable def D75_c24 : T75_c24s0 → PT N75_c24
  | .mk f i a j l m o p q s t u v w y z d0 d1 d2 d3 d4 d5 d6 d7 d8 d9 f0 f1 f2 f3 f4 f5 f6 f7 f8 d =>
   .testB a
    (fun h0 =>
    .auto 2 <|
    .test (1 ≤ List.length d)
     (fun h1 =>
     .ask E139 (F139_ok j l m o p a q s t u v w y z d0 d1 d2 d3 d4 d5 d6 d7 d8 d9 f0 f1 f2 f3 f4 f5 f6 f7 f f8 i (List.take 1 d)) fun (r : A139) => match r with
     | .a0 f9 j1 j2 j3 j4 j5 j6 j7 j8 j9 l0 l1 l2 l3 l4 l5 l6 j0 =>
      .test (0 + f9 ≤ List.length j0)
       (fun h2 =>
       .auto 2 <|
       .ret (.e0 (.mk f i j l m o p a q s t u v w y z d0 d1 d2 d3 d4 d5 d6 d7 d8 d9 f0 f1 f2 f3 f4 f5 f6 f7 f8 ([[lS 2 (List.take f9 j0), i64 j1, i64 j2, u8 j3, u8 j4, u8 j5, u8 j6, u8 j7, u8 j8, u8 j9, u8 l0, i64 l1, i64 l2, i64 l3, i64 l4, i64 l5, i64 l6]]) d))
       )
       (fun _ => .fail)
     )
     (fun _ => .fail)
    )
    (fun h0 =>
    .ret (.e1 (.mk f i j l m o p a q s t u v w y z d0 d1 d2 d3 d4 d5 d6 d7 d8 d9 f0 f1 f2 f3 f4 f5 f6 f7 f8 d))
    )
noncomputable def J75_c24 (y : T75_c24s0) : Option N75_c24 := (D75_c24 y).ev some
theorem J75_c24_ok (y : T75_c24s0) : ∀ b, J75_c24 y = some b → condP Tryz.prog X CC 75 0 18446744073709551616 B75 24 y.st = some (E75_c24.out b) := by
  cases y; exact cond_ok (E := E75_c24) (L := notIn []) (fun x => by kernel_rfl)
noncomputable def D75 (j l : Int) (m o p : LV) (q : Bool) (s t u v w y z d0 d1 d2 d3 d4 d5 d6 d7 : Int) (d8 : LV) (d9 : Bool) (f0 : LV) (f1 f2 f3 f4 f5 : Int) (f6 f7 f8 : LV) (f9 : Int) (j9 : W59) (l0 : Int) : PT A75 :=
  .auto 1 <|
  .ask E51 (F51_ok j l m o p q s t u v w y z d0 d1 d2 d3 d4 d5 d6 d7 d8 d9 f0 f1 f2 f3 f4 f5 f6 f7 f8 f9) fun (r : A51) => match r with
  | .a0 l1 j0 j1 =>
   .test (0 + j0 ≤ List.length j1)
    (fun h0 =>
    .ask E138 (F138_ok l1 (List.take j0 j1)) fun (r : A138) => match r with
    | .a0 l2 d j2 =>
     .auto 2 <|
     .testB ((↑d : Int) == 0)
      (fun h1 =>
      .ret (.a0 0 ([]))
      )
      (fun h1 =>
      .auto 1 <|
      .test (0 + d ≤ List.length j2)
       (fun h2 =>
       .auto 1 <|
       .cut E75_c24 (J75_c24_ok (.mk f9 l0 q j l m o p s t u v w y z d0 d1 d2 d3 d4 d5 d6 d7 d8 d9 f0 f1 f2 f3 f4 f5 f6 f7 f8 j9 ([[vb l2, lS 2 (List.take d j2)]]))) fun (r : N75_c24) => match r with
       | .e0 (.mk l3 l4 l5 l6 l7 l8 l9 m0 m1 m2 m3 m4 m5 m6 m7 m8 m9 o0 o1 o2 o3 o4 o5 o6 j3 o7 o8 o9 p0 p1 p2 p3 p4 p5 p6 a j4) =>
        .auto 1 <|
        .testB j3
         (fun h3 =>
         .auto 2 <|
         .test (1 ≤ List.length j4)
          (fun h4 =>
          .ask E140 (F140_ok l5 l6 l7 l8 l9 m0 m1 m2 m3 m4 m5 m6 m7 m8 m9 o0 o1 o2 o3 o4 o5 o6 j3 o7 o8 o9 p0 p1 p2 p3 p4 p5 l3 p6 l4 (List.take 1 j4)) fun (r : A140) => match r with
          | .a0 f p7 p8 p9 q0 q1 q2 q3 q4 q5 q6 q7 q8 q9 t0 t1 t2 j5 =>
           .auto 2 <|
           .test ((↑f : Int) > 0)
            (fun h5 =>
            .auto 1 <|
            .test (0 + f ≤ List.length j5)
             (fun h6 =>
             .auto 1 <|
             .test ((1 : Nat) ≤ List.length a ∧ (192 : Nat) ≤ (140737488355328 : Nat) ∧ (2 : Nat) ≤ (140737488355328 : Nat))
              (fun h7 =>
              .ret (.a0 2 (List.take 1 a ++ [[lS 2 (List.take f j5), i64 p7, i64 p8, u8 p9, u8 q0, u8 q1, u8 q2, u8 q3, u8 q4, u8 q5, u8 q6, i64 q7, i64 q8, i64 q9, i64 t0, i64 t1, i64 t2]]))
              )
              (fun _ => .fail)
             )
             (fun _ => .fail)
            )
            (fun h5 =>
            .ret (.a0 1 a)
            )
          )
          (fun _ => .fail)
         )
         (fun h3 =>
         .ret (.a0 1 a)
         )
       | .e1 (.mk t3 t4 t5 t6 t7 t8 t9 v0 v1 v2 v3 v4 v5 v6 v7 v8 v9 y0 y1 y2 y3 y4 y5 y6 j6 y7 y8 y9 z0 z1 z2 z3 z4 z5 z6 j7) =>
        .auto 1 <|
        .testB j6
         (fun h3 =>
         .auto 2 <|
         .test (1 ≤ List.length j7)
          (fun h4 =>
          .ask E140 (F140_ok t5 t6 t7 t8 t9 v0 v1 v2 v3 v4 v5 v6 v7 v8 v9 y0 y1 y2 y3 y4 y5 y6 j6 y7 y8 y9 z0 z1 z2 z3 z4 z5 t3 z6 t4 (List.take 1 j7)) fun (r : A140) => match r with
          | .a0 i z7 z8 z9 d10 d11 d12 d13 d14 d15 d16 d17 d18 d19 d20 d21 d22 j8 =>
           .auto 2 <|
           .test ((↑i : Int) > 0)
            (fun h5 =>
            .auto 1 <|
            .test (0 + i ≤ List.length j8)
             (fun h6 =>
             .auto 2 <|
             .ret (.a0 1 ([[lS 2 (List.take i j8), i64 z7, i64 z8, u8 z9, u8 d10, u8 d11, u8 d12, u8 d13, u8 d14, u8 d15, u8 d16, i64 d17, i64 d18, i64 d19, i64 d20, i64 d21, i64 d22]]))
             )
             (fun _ => .fail)
            )
            (fun h5 =>
            .ret (.a0 0 ([]))
            )
          )
          (fun _ => .fail)
         )
         (fun h3 =>
         .ret (.a0 0 ([]))
         )
       )
       (fun _ => .fail)
      )
    )
    (fun _ => .fail)
noncomputable def F75 (a d : Int) (f i j : LV) (l : Bool) (m o p q s t u v w y z d0 d1 d2 d3 : Int) (d4 : LV) (d5 : Bool) (d6 : LV) (d7 d8 d9 f0 f1 : Int) (f2 f3 f4 : LV) (f5 : Int) (f6 : W59) (f7 : Int) : Option A75 := (D75 a d f i j l m o p q s t u v w y z d0 d1 d2 d3 d4 d5 d6 d7 d8 d9 f0 f1 f2 f3 f4 f5 f6 f7).ev some
theorem F75_ok (a d : Int) (f i j : LV) (l : Bool) (m o p q s t u v w y z d0 d1 d2 d3 : Int) (d4 : LV) (d5 : Bool) (d6 : LV) (d7 d8 d9 f0 f1 : Int) (f2 f3 f4 : LV) (f5 : Int) (f6 : W59) (f7 : Int) : ∀ b, F75 a d f i j l m o p q s t u v w y z d0 d1 d2 d3 d4 d5 d6 d7 d8 d9 f0 f1 f2 f3 f4 f5 f6 f7 = some b → UU 75 ([V.agg [i64 a, i64 d, lS 7 f, lS 7 i, lS 8 j, vb l, i64 m, i64 o, u8 p, u8 q, u8 s, u8 t, u8 u, u8 v, u8 w, u8 y, i64 z, i64 d0, i64 d1, i64 d2, i64 d3, lS 10 d4, vb d5, lS 7 d6, u8 d7, u8 d8, u8 d9, u8 f0, i64 f1, lS 1 f2, lS 7 f3, lS 7 f4], i64 f5, V.agg (W59.cells f6), i64 f7]) ([]) = some (A75.out b) :=
  fn_ok (E := E75) (L := notIn []) rfl rfl (fun x => by kernel_rfl)
/-! ## F25 -/
noncomputable def D25 : PT A25 :=
  .auto 2 <|
  .ask E21 (F21_ok (W57.mk 0 (-1) 0 0 0 5 0 [] [] [] [] [] [] [] [] [] false [] 0 0 [] [] [] false 0 0 0 0 0 0 0 0 0 0 0 0 0 0 0 [] false [] 0 0 0 0 0 [] [] []) 3) fun (r : A21) => match r with
  | .a0 a =>
   .tot O32 F32_ok fun d =>
   .testB (a.c0 == d.c0 && (a.c1 == d.c1 && (a.c2 == d.c2 && (a.c3 == d.c3 && (a.c4 == d.c4 && (a.c5 == d.c5 && true))))))
    (fun h0 =>
    .auto 2 <|
    .ask E22 (F22_ok (W57.mk 0 (-1) 0 0 0 5 0 [] [] [] [] [] [] [] [] [] false [] 0 0 [] [] [] false 0 0 0 0 0 0 0 0 0 0 0 0 0 0 0 [] false [] 0 0 0 0 0 [] [] []) 3) fun (r : A22) => match r with
    | .a0 j =>
     .auto 2 <|
     .testB (j == 255)
      (fun h1 =>
      .auto 2 <|
      .tot O23 (F23_ok (W57.mk 0 (-1) 0 0 0 5 0 [] [] [] [] [] [] [] [] [] false [] 0 0 [] [] [] false 0 0 0 0 0 0 0 0 0 0 0 0 0 0 0 [] false [] 0 0 0 0 0 [] [] []) 0) fun l =>
      .auto 1 <|
      .testB l
       (fun h2 =>
       .auto 2 <|
       .tot O23 (F23_ok (W57.mk 0 (-1) 0 0 0 5 0 [] [] [] [] [] [] [] [] [] false [] 0 0 [] [] [] false 0 0 0 0 0 0 0 0 0 0 0 0 0 0 0 [] false [] 0 0 0 0 0 [] [] []) 5) fun m =>
       .auto 2 <|
       .testB (!m)
        (fun h3 =>
        .auto 2 <|
        .ask E24 (F24_ok (W57.mk 0 (-1) 0 0 0 5 0 [] [] [] [] [] [] [] [] [] false [] 0 0 [] [] [] false 0 0 0 0 0 0 0 0 0 0 0 0 0 0 0 [] false [] 0 0 0 0 0 [] [] []) 7) fun (r : A24) => match r with
        | .a0 o =>
         .auto 2 <|
         .testB (o == 7)
          (fun h4 =>
          .auto 1 <|
          .tot O32 F32_ok fun p =>
          .auto 1 <|
          .ask E75 (F75_ok 0 0 ([]) ([]) ([]) false 0 0 0 0 0 0 0 0 0 0 0 0 0 0 0 ([]) false ([]) 0 0 0 0 0 ([]) ([]) ([]) 0 p 255) fun (r : A75) => match r with
          | .a0 q s =>
           .auto 3 <|
           .testB ((↑q : Int) == 0)
            (fun h5 =>
            .auto 1 <|
            .ask E27 (F27_ok ([]) 3 0) fun (r : A27) => match r with
            | .a0 f =>
             .auto 1 <|
             .tot O32 F32_ok fun i =>
             .auto 2 <|
             .ret (.a0 (f.c0 == i.c0 && (f.c1 == i.c1 && (f.c2 == i.c2 && (f.c3 == i.c3 && (f.c4 == i.c4 && (f.c5 == i.c5 && true)))))))
            )
            (fun h5 =>
            .auto 4 <|
            .ret (.a0 false)
            )
          )
          (fun h4 =>
          .auto 10 <|
          .ret (.a0 false)
          )
        )
        (fun h3 =>
        .auto 14 <|
        .ret (.a0 false)
        )
       )
       (fun h2 =>
       .auto 18 <|
       .ret (.a0 false)
       )
      )
      (fun h1 =>
      .auto 21 <|
      .ret (.a0 false)
      )
    )
    (fun h0 =>
    .auto 25 <|
    .ret (.a0 false)
    )
noncomputable def F25 : Option A25 := (D25).ev some
theorem F25_ok : ∀ b, F25 = some b → UU 25 ([]) ([]) = some (A25.out b) :=
  fn_ok (E := E25) (L := notIn []) rfl rfl (fun x => by kernel_rfl)
/-! ## F5 -/
noncomputable abbrev B5 : Code := (Tryz.f5.body).getD .skip
inductive T5_2s0 where
  | mk (a : Int) (d : Nat) (f i : Int) (j : LV) (l m : Int) (o : LV)
inductive T5_2e1 where
  | mk (a : Int) (d : Nat) (f i : Int) (j : LV)
inductive N5_2 where
  | s0 (x : T5_2s0)
  | e0
  | e1 (x : T5_2e1)
@[reducible] def N5_2.out : N5_2 → VX × S
  | .s0 (.mk d f i j a l m o) => (vN, S.mk (un 5 (i64 d :: U :: pT 0 :: un 9 (hS 1 f :: i64 i :: i64 j :: un 4 (lS 50 a :: i64 l :: i64 m :: un 27 [])))) [oF 1 [[lS 50 a]], oT 1 o])
  | .e0 => (VX.ret, S.mk (un 4 (vb false :: un 49 [])) [])
  | .e1 (.mk p q s t u) => (vX 2, S.mk (un 5 (i64 p :: un 11 (hS 0 q :: i64 s :: i64 t :: un 34 []))) [oT 1 u])
abbrev E5_2 : Ent (VX × S) := ⟨N5_2, N5_2.out, fun g => (∃ x, g (.s0 x)) ∨ g .e0 ∨ (∃ x, g (.e1 x)), fun g => ⟨fun h => match h with
  | .inl ⟨_, h⟩ => ⟨_, h⟩
  | .inr (.inl h) => ⟨_, h⟩
  | .inr (.inr (⟨_, h⟩)) => ⟨_, h⟩, fun ⟨b, h⟩ => match b, h with
  | .s0 _, h => .inl ⟨_, h⟩
  | .e0, h => .inr (.inl h)
  | .e1 _, h => .inr (.inr (⟨_, h⟩))⟩⟩
noncomputable def D5_2 : T5_2s0 → PT N5_2
  | .mk a o p q i s d t =>
   .test (d < s)
    (fun h0 =>
    .test (0 ≤ d)
     (fun h1 =>
     .look RW57 (i[Int.toNat d]?) fun u =>
     .auto 2 <|
     .ask E21 (F21_ok u a) fun (r : A21) => match r with
     | .a0 f =>
      .auto 4 <|
      .test (u.c1 ≥ 0)
       (fun h2 =>
       .auto 2 <|
       .ask E27 (F27_ok i u.c1 a) fun (r : A27) => match r with
       | .a0 v =>
        .auto 1 <|
        .ask E26 (F26_ok v f) fun (r : A26) => match r with
        | .a0 j =>
         .auto 2 <|
         .ask E27 (F27_ok i d a) fun (r : A27) => match r with
         | .a0 l =>
          .auto 1 <|
          .testB (!(l.c0 == j.c0 && (l.c1 == j.c1 && (l.c2 == j.c2 && (l.c3 == j.c3 && (l.c4 == j.c4 && (l.c5 == j.c5 && true)))))))
           (fun h3 =>
           .ret .e0
           )
           (fun h3 =>
           .ret (.s0 (.mk a o p q i s (w64 (d + 1)) t))
           )
       )
       (fun h2 =>
       .auto 1 <|
       .ask E27 (F27_ok i d a) fun (r : A27) => match r with
       | .a0 m =>
        .auto 1 <|
        .testB (!(m.c0 == f.c0 && (m.c1 == f.c1 && (m.c2 == f.c2 && (m.c3 == f.c3 && (m.c4 == f.c4 && (m.c5 == f.c5 && true)))))))
         (fun h3 =>
         .ret .e0
         )
         (fun h3 =>
         .ret (.s0 (.mk a o p q i s (w64 (d + 1)) t))
         )
       )
     )
     (fun _ => .fail)
    )
    (fun h0 =>
    .ret (.e1 (.mk a o p q t))
    )
noncomputable def S5_2 : N5_2 → PT N5_2
  | .s0 x => D5_2 x
  | _ => .fail
def N5_2.off : N5_2 → Bool
  | .s0 _ => false
  | _ => true
noncomputable def L5_2 (n : Nat) (b : N5_2) : Option N5_2 := PT.loop S5_2 N5_2.off n b
theorem L5_2_ok : ∀ (n : Nat) (b : N5_2), N5_2.off b = false → ∀ c, L5_2 n b = some c → loopP Tryz.prog X CC 5 0 18446744073709551616 B5 2 n (E5_2.out b).2 = some (E5_2.out c) :=
  loop_ok (E := E5_2) (step := S5_2) (L := notIn []) (fun b hb => by cases b <;> first | (cases hb; done) | (rename_i x; cases x; intro x; kernel_rfl) | (intro x; kernel_rfl)) (fun b => by cases b <;> rfl)
noncomputable def N5_2.nx (n : Nat) (c : N5_2) : Option N5_2 := match N5_2.off c with
  | true => some c
  | false => L5_2 n c
theorem L5_2_s0 (n : Nat) (x : T5_2s0) : L5_2 (n + 1) (.s0 x) = (D5_2 x).ev (N5_2.nx n) := rfl
theorem N5_2.nx_s0 (n : Nat) (x : T5_2s0) : N5_2.nx n (.s0 x) = L5_2 n (.s0 x) := rfl
theorem N5_2.nx_e0 (n : Nat) : N5_2.nx n .e0 = some .e0 := rfl
theorem N5_2.nx_e1 (n : Nat) (x : T5_2e1) : N5_2.nx n (.e1 x) = some (.e1 x) := rfl
inductive T5_0s0 where
  | mk (a : Int) (d : Nat) (f i : Int) (j : LV)
inductive N5_0 where
  | s0 (x : T5_0s0)
  | e0
  | e1
@[reducible] def N5_0.out : N5_0 → VX × S
  | .s0 (.mk a d f i j) => (vN, S.mk (un 5 (i64 a :: un 11 (hS 0 d :: i64 f :: i64 i :: un 34 []))) [oT 1 j])
  | .e0 => (VX.ret, S.mk (un 4 (vb false :: un 49 [])) [])
  | .e1 => (vX 0, S.mk (un 54 []) [])
abbrev E5_0 : Ent (VX × S) := ⟨N5_0, N5_0.out, fun g => (∃ x, g (.s0 x)) ∨ g .e0 ∨ g .e1, fun g => ⟨fun h => match h with
  | .inl ⟨_, h⟩ => ⟨_, h⟩
  | .inr (.inl h) => ⟨_, h⟩
  | .inr (.inr h) => ⟨_, h⟩, fun ⟨b, h⟩ => match b, h with
  | .s0 _, h => .inl ⟨_, h⟩
  | .e0, h => .inr (.inl h)
  | .e1, h => .inr (.inr h)⟩⟩
noncomputable def D5_0 : T5_0s0 → PT N5_0
  | .mk l d f a i =>
   .test (a < f)
    (fun h0 =>
    .test (0 ≤ a ∧ a < (↑d : Int))
     (fun h1 =>
     .look RW52 (i[(0 : Nat) + Int.toNat a]?) fun j =>
     .auto 2 <|
     .cut E5_2 (L5_2_ok 18446744073709551616 (.s0 (.mk l d f a j.c0 ((↑(List.length j.c0) : Int)) 0 i)) rfl) fun (r : N5_2) => match r with
     | .e0 =>
      .ret .e0
     | .e1 (.mk m o p q s) =>
      .ret (.s0 (.mk m o p (w64 (q + 1)) s))
     | _ => .fail
     )
     (fun _ => .fail)
    )
    (fun h0 =>
    .ret .e1
    )
noncomputable def S5_0 : N5_0 → PT N5_0
  | .s0 x => D5_0 x
  | _ => .fail
def N5_0.off : N5_0 → Bool
  | .s0 _ => false
  | _ => true
noncomputable def L5_0 (n : Nat) (b : N5_0) : Option N5_0 := PT.loop S5_0 N5_0.off n b
theorem L5_0_ok : ∀ (n : Nat) (b : N5_0), N5_0.off b = false → ∀ c, L5_0 n b = some c → loopP Tryz.prog X CC 5 0 18446744073709551616 B5 0 n (E5_0.out b).2 = some (E5_0.out c) :=
  loop_ok (E := E5_0) (step := S5_0) (L := notIn []) (fun b hb => by cases b <;> first | (cases hb; done) | (rename_i x; cases x; intro x; kernel_rfl) | (intro x; kernel_rfl)) (fun b => by cases b <;> rfl)
noncomputable def N5_0.nx (n : Nat) (c : N5_0) : Option N5_0 := match N5_0.off c with
  | true => some c
  | false => L5_0 n c
theorem L5_0_s0 (n : Nat) (x : T5_0s0) : L5_0 (n + 1) (.s0 x) = (D5_0 x).ev (N5_0.nx n) := rfl
theorem N5_0.nx_s0 (n : Nat) (x : T5_0s0) : N5_0.nx n (.s0 x) = L5_0 n (.s0 x) := rfl
theorem N5_0.nx_e0 (n : Nat) : N5_0.nx n .e0 = some .e0 := rfl
theorem N5_0.nx_e1 (n : Nat) : N5_0.nx n .e1 = some .e1 := rfl
noncomputable def D5 (d : LV) (f : Int) : PT A5 :=
  .ask E20 (F20_ok d) fun (r : A20) => match r with
  | .a0 l m a i =>
   .cut E5_0 (L5_0_ok 18446744073709551616 (.s0 (.mk (w64 (w64 (↑(BitVec.toNat (BitVec.ofInt (IntKind.bits IntKind.i64) f &&& BitVec.ofInt (IntKind.bits IntKind.i64) 63)) : Int) - 8)) a ((↑a : Int)) 0 i)) rfl) fun (r : N5_0) => match r with
   | .e1 =>
    .ask E25 F25_ok fun (r : A25) => match r with
    | .a0 j =>
     .ret (.a0 j)
   | _ => .fail
noncomputable def F5 (a : LV) (d : Int) : Option A5 := (D5 a d).ev some
theorem F5_ok (a : LV) (d : Int) : ∀ b, F5 a d = some b → UU 5 ([lS 1 a, i64 d]) ([]) = some (A5.out b) :=
  fn_ok (E := E5) (L := notIn []) rfl rfl (fun x => by kernel_rfl)


end Go.Proofs.YtifalphladcdcaaGreat.H
