/- What the functions compute, and that they do so over the machine of plain values (printed by this session's program wip/vm/Walk.lean). No condition beyond those stated. -/
import Derived.Test.YtifalphladcdcaaWk
import Derived.Test.YtifalphladcdcaaP5d
set_option linter.unusedVariables false
set_option linter.unusedSimpArgs false
namespace Go.Proofs.Ytifalphladcdcaa.H
open Go Go.VM
set_option maxRecDepth 100000
/-! ## F55 -/
noncomputable def D55 (z4458 : Int) (z4459 : Int) : PT A55 :=
  .auto 2 <|
  .ask E86 (F86_ok (Int.fdiv z4458 2) (36195)) fun (r : A86) => match r with
  | .a0 z4460 =>
   .ask E86 (F86_ok (Int.fdiv z4459 2) (36195)) fun (r : A86) => match r with
   | .a0 z4461 =>
    .auto 1 <|
    .ret (A55.a0 (true) (13) ([[i64 (Int.fdiv z4458 2), i64 0], [i64 (Int.fdiv z4458 2), i64 z4461], [i64 z4460, i64 (Int.fdiv z4459 2)], [i64 0, i64 (Int.fdiv z4459 2)], [i64 (w64 (0 - z4460)), i64 (Int.fdiv z4459 2)], [i64 (w64 (0 - Int.fdiv z4458 2)), i64 z4461], [i64 (w64 (0 - Int.fdiv z4458 2)), i64 0], [i64 (w64 (0 - Int.fdiv z4458 2)), i64 (w64 (0 - z4461))], [i64 (w64 (0 - z4460)), i64 (w64 (0 - Int.fdiv z4459 2))], [i64 0, i64 (w64 (0 - Int.fdiv z4459 2))], [i64 z4460, i64 (w64 (0 - Int.fdiv z4459 2))], [i64 (Int.fdiv z4458 2), i64 (w64 (0 - z4461))], [i64 (Int.fdiv z4458 2), i64 0]]))
noncomputable def F55 (z4458 : Int) (z4459 : Int) : Option A55 := (D55 z4458 z4459).ev some
theorem F55_ok (z4458 : Int) (z4459 : Int) : ∀ b, F55 z4458 z4459 = some b → UU 55 ([i64 z4458, i64 z4459]) ([]) = some (A55.out b) :=
  fn_ok (E := E55) (L := notIn []) rfl rfl (fun x => by kernel_rfl)
/-! ## F115 -/
noncomputable def D115 (z4491 : Int) : PT (Int) :=
  .auto 2 <|
  .ret (Int.tmod (w64 (Int.tmod z4491 23592960 + 23592960)) 23592960)
@[reducible] def O115 (z4492 : Int) : V × Store := (i64 z4492, [])
noncomputable def F115 (z4491 : Int) : Int := (D115 z4491).evT
theorem F115_ok (z4491 : Int) : UU 115 ([i64 z4491]) ([]) = some (O115 (F115 z4491)) :=
  fnT_ok (out := O115) (L := notIn []) rfl rfl (fun x => by kernel_rfl) (by simp [D115, PT.isT])
/-! ## F88 -/
noncomputable def D88 (z4494 : Int) : PT A88 :=
  .tot O115 (F115_ok (z4494)) fun z4495 =>
  .test (z4495 ≥ 11796480)
   (fun h0 =>
   .auto 1 <|
   .test (w64 (2654208000 - w64 (Int.tdiv (w64 (w64 (z4495 - 11796480) * w64 (11796480 - w64 (z4495 - 11796480)))) 65536)) = 0)
    (fun _ => .fail) -- none
    (fun h1 =>
    .known (decide_eq_true h0) <|
    .ret (A88.a0 (w64 (0 - w64 (Int.tdiv (w64 (w64 (4 * w64 (Int.tdiv (w64 (w64 (z4495 - 11796480) * w64 (11796480 - w64 (z4495 - 11796480)))) 65536)) * 65536)) (w64 (2654208000 - w64 (Int.tdiv (w64 (w64 (z4495 - 11796480) * w64 (11796480 - w64 (z4495 - 11796480)))) 65536)))))))
    )
   )
   (fun h0 =>
   .auto 1 <|
   .test (w64 (2654208000 - w64 (Int.tdiv (w64 (z4495 * w64 (11796480 - z4495))) 65536)) = 0)
    (fun _ => .fail) -- none
    (fun h1 =>
    .known (decide_eq_false h0) <|
    .ret (A88.a0 (w64 (Int.tdiv (w64 (w64 (4 * w64 (Int.tdiv (w64 (z4495 * w64 (11796480 - z4495))) 65536)) * 65536)) (w64 (2654208000 - w64 (Int.tdiv (w64 (z4495 * w64 (11796480 - z4495))) 65536))))))
    )
   )
noncomputable def F88 (z4494 : Int) : Option A88 := (D88 z4494).ev some
theorem F88_ok (z4494 : Int) : ∀ b, F88 z4494 = some b → UU 88 ([i64 z4494]) ([]) = some (A88.out b) :=
  fn_ok (E := E88) (L := notIn []) rfl rfl (fun x => by kernel_rfl)
/-! ## F87 -/
noncomputable def D87 (z4490 : Int) : PT A87 :=
  .tot O115 (F115_ok (z4490)) fun z4493 =>
  .ask E88 (F88_ok (w64 (z4493 + 5898240))) fun (r : A88) => match r with
  | .a0 z4497 =>
   .ret (A87.a0 (z4497))
noncomputable def F87 (z4490 : Int) : Option A87 := (D87 z4490).ev some
theorem F87_ok (z4490 : Int) : ∀ b, F87 z4490 = some b → UU 87 ([i64 z4490]) ([]) = some (A87.out b) :=
  fn_ok (E := E87) (L := notIn []) rfl rfl (fun x => by kernel_rfl)
/-! ## F56 -/
noncomputable abbrev B56 : Code := (Try.f56.body).getD .skip
inductive N56_c29 where
  | e0 (z4523 : Int) (z4524 : Int) (z4525 : Int) (k4526 : Nat) (z4527 : Int) (z4528 : Int) (z4529 : Int) (l4530 : List (List V))
@[reducible] def N56_c29.out : N56_c29 → VX × S
  | .e0 z4523 z4524 z4525 k4526 z4527 z4528 z4529 l4530 => (VX.normal, { T := i64 z4523 :: i64 z4524 :: i64 z4525 :: U :: U :: U :: V.ptr 0 0 0 :: V.hs 1 0 k4526 :: i64 z4527 :: i64 z4528 :: i64 z4529 :: un 34 [], σ := [Ob.cells true false 2 [[vb false, V.hs 2 0 0]], Ob.cells true true 2 l4530, Ob.cells true true 2 []] })
def N56_c29.ex (g : N56_c29 → Prop) : Prop := (∃ (z4523 : Int) (z4524 : Int) (z4525 : Int) (k4526 : Nat) (z4527 : Int) (z4528 : Int) (z4529 : Int) (l4530 : List (List V)), g (.e0 z4523 z4524 z4525 k4526 z4527 z4528 z4529 l4530))
theorem N56_c29.ok (g : N56_c29 → Prop) : N56_c29.ex g ↔ ∃ b, g b := ⟨fun h => match h with
  | ⟨_, _, _, _, _, _, _, _, h⟩ => ⟨_, h⟩, fun ⟨b, h⟩ => match b, h with
  | .e0 _ _ _ _ _ _ _ _, h => ⟨_, _, _, _, _, _, _, _, h⟩⟩
abbrev E56_c29 : Ent (VX × S) := ⟨N56_c29, N56_c29.out, N56_c29.ex, N56_c29.ok⟩
noncomputable def D56_c29 (z4515 : Int) (z4516 : Int) (z4517 : Int) (k4518 : Nat) (z4519 : Int) (z4520 : Int) (b4521 : Bool) (l4522 : List (List V)) : PT N56_c29 :=
  .testB (b4521)
   (fun h0 =>
   .ret (N56_c29.e0 (z4515) (z4516) (z4517) (k4518) (z4519) (z4520) (z4517) (l4522))
   )
   (fun h0 =>
   .ret (N56_c29.e0 (z4515) (z4516) (z4517) (k4518) (z4519) (z4520) (z4516) (l4522))
   )
noncomputable def J56_c29 (z4515 : Int) (z4516 : Int) (z4517 : Int) (k4518 : Nat) (z4519 : Int) (z4520 : Int) (b4521 : Bool) (l4522 : List (List V)) : Option N56_c29 := (D56_c29 z4515 z4516 z4517 k4518 z4519 z4520 b4521 l4522).ev some
theorem J56_c29_ok (z4515 : Int) (z4516 : Int) (z4517 : Int) (k4518 : Nat) (z4519 : Int) (z4520 : Int) (b4521 : Bool) (l4522 : List (List V)) : ∀ b, J56_c29 z4515 z4516 z4517 k4518 z4519 z4520 b4521 l4522 = some b → condP Try.prog X CC 56 (0) 18446744073709551616 B56 29 ({ T := i64 z4515 :: i64 z4516 :: i64 z4517 :: U :: U :: U :: V.ptr 0 0 0 :: V.hs 1 0 k4518 :: i64 z4519 :: i64 z4520 :: i64 z4516 :: un 18 (vb b4521 :: un 15 []), σ := [Ob.cells true false 2 [[vb false, V.hs 2 0 0]], Ob.cells true true 2 l4522, Ob.cells true true 2 []] }) = some (E56_c29.out b) :=
  cond_ok (E := E56_c29) (L := notIn []) (fun x => by kernel_rfl)
inductive N56_0 where
  | s0 (z4503 : Int) (z4504 : Int) (z4505 : Int) (k4506 : Nat) (z4507 : Int) (l4508 : List (List V))
  | e0 (k4543 : Nat) (l4544 : List (List V))
@[reducible] def N56_0.out : N56_0 → VX × S
  | .s0 z4503 z4504 z4505 k4506 z4507 l4508 => (VX.normal, { T := i64 z4503 :: i64 z4504 :: i64 z4505 :: U :: U :: U :: V.ptr 0 0 0 :: V.hs 1 0 k4506 :: i64 z4507 :: un 36 [], σ := [Ob.cells true false 2 [[vb false, V.hs 2 0 0]], Ob.cells true true 2 l4508, Ob.cells true true 2 []] })
  | .e0 k4543 l4544 => (VX.exit 0, { T := un 6 (V.ptr 0 0 0 :: V.hs 1 0 k4543 :: un 37 []), σ := [Ob.cells true false 2 [[vb false, V.hs 2 0 0]], Ob.cells true true 2 l4544, Ob.cells true true 2 []] })
def N56_0.ex (g : N56_0 → Prop) : Prop := (∃ (z4503 : Int) (z4504 : Int) (z4505 : Int) (k4506 : Nat) (z4507 : Int) (l4508 : List (List V)), g (.s0 z4503 z4504 z4505 k4506 z4507 l4508)) ∨ (∃ (k4543 : Nat) (l4544 : List (List V)), g (.e0 k4543 l4544))
theorem N56_0.ok (g : N56_0 → Prop) : N56_0.ex g ↔ ∃ b, g b := ⟨fun h => match h with
  | .inl ⟨_, _, _, _, _, _, h⟩ => ⟨_, h⟩
  | .inr (⟨_, _, h⟩) => ⟨_, h⟩, fun ⟨b, h⟩ => match b, h with
  | .s0 _ _ _ _ _ _, h => .inl ⟨_, _, _, _, _, _, h⟩
  | .e0 _ _, h => .inr (⟨_, _, h⟩)⟩
abbrev E56_0 : Ent (VX × S) := ⟨N56_0, N56_0.out, N56_0.ex, N56_0.ok⟩
noncomputable def D56_0 (z4503 : Int) (z4504 : Int) (z4505 : Int) (k4506 : Nat) (z4507 : Int) (l4508 : List (List V)) : PT N56_0 :=
  .test (z4507 < w64 (2 * z4503))
   (fun h0 =>
   .test (z4503 = 0)
    (fun _ => .fail) -- none
    (fun h1 =>
    .auto 1 <|
    .cut E56_c29 (J56_c29_ok (z4503) (z4504) (z4505) (k4506) (z4507) (w64 (w64 (Int.tdiv (w64 (w64 (z4507 * 180) * 65536)) z4503) - 5898240)) (Int.tmod z4507 2 == 1) (l4508)) fun (r : N56_c29) => match r with
    | .e0 z4550 z4551 z4552 k4553 z4554 z4555 z4556 l4557 =>
     .ask E87 (F87_ok (z4555)) fun (r : A87) => match r with
     | .a0 z4558 =>
      .ask E86 (F86_ok (z4556) (z4558)) fun (r : A86) => match r with
      | .a0 z4559 =>
       .ask E88 (F88_ok (z4555)) fun (r : A88) => match r with
       | .a0 z4560 =>
        .ask E86 (F86_ok (z4556) (z4560)) fun (r : A86) => match r with
        | .a0 z4561 =>
         .auto 1 <|
         .test (0 + k4553 ≤ List.length l4557 ∧ (k4553 + 1) * 16 ≤ 140737488355328 ∧ k4553 + 1 ≤ 140737488355328)
          (fun h2 =>
          .ret (N56_0.s0 (z4550) (z4551) (z4552) (k4553 + 1) (w64 (z4554 + 1)) (List.take k4553 l4557 ++ [[i64 z4559, i64 z4561]]))
          )
          (fun _ => .fail) -- none
    )
   )
   (fun h0 =>
   .ret (N56_0.e0 (k4506) (l4508))
   )
noncomputable def S56_0 : N56_0 → PT N56_0
  | .s0 z4503 z4504 z4505 k4506 z4507 l4508 => D56_0 z4503 z4504 z4505 k4506 z4507 l4508
  | _ => .fail
def N56_0.off : N56_0 → Bool
  | .s0 _ _ _ _ _ _ => false
  | _ => true
noncomputable def L56_0 (n : Nat) (b : N56_0) : Option N56_0 := PT.loop (S56_0) N56_0.off n b
theorem L56_0_ok : ∀ (n : Nat) (b : N56_0), N56_0.off b = false → ∀ c, L56_0 n b = some c → loopP Try.prog X CC 56 (0) 18446744073709551616 B56 0 n (E56_0.out b).2 = some (E56_0.out c) :=
  loop_ok (E := E56_0) (step := S56_0) (L := notIn []) (fun b hb => by cases b <;> first | (cases hb; done) | (intro x; kernel_rfl)) (fun b => by cases b <;> rfl)
noncomputable def N56_0.nx (n : Nat) (c : N56_0) : Option N56_0 := match N56_0.off c with
  | true => some c
  | false => L56_0 n c
theorem L56_0_s0 (n : Nat) (z4503 : Int) (z4504 : Int) (z4505 : Int) (k4506 : Nat) (z4507 : Int) (l4508 : List (List V)) : L56_0 (n + 1) (.s0 z4503 z4504 z4505 k4506 z4507 l4508) = (D56_0 z4503 z4504 z4505 k4506 z4507 l4508).ev (N56_0.nx n) := rfl
theorem N56_0.nx_s0 (n : Nat) (z4503 : Int) (z4504 : Int) (z4505 : Int) (k4506 : Nat) (z4507 : Int) (l4508 : List (List V)) : N56_0.nx n (.s0 z4503 z4504 z4505 k4506 z4507 l4508) = L56_0 n (.s0 z4503 z4504 z4505 k4506 z4507 l4508) := rfl
theorem N56_0.nx_e0 (n : Nat) (k4543 : Nat) (l4544 : List (List V)) : N56_0.nx n (.e0 k4543 l4544) = some (.e0 k4543 l4544) := rfl
noncomputable def D56 (z4472 : Int) (z4473 : Int) (z4474 : Int) : PT A56 :=
  .cut E56_0 (L56_0_ok 18446744073709551616 (.s0 (if 2 > if 16 < z4472 then 16 else z4472 then 2 else if 16 < z4472 then 16 else z4472) (z4473) (z4474) (0) (0) ([])) rfl) fun (r : N56_0) => match r with
  | .e0 k4562 l4563 =>
   .test (0 + k4562 ≤ List.length l4563)
    (fun h0 =>
    .ask E85 (F85_ok (List.take k4562 l4563)) fun (r : A85) => match r with
    | .a0 b4564 k4565 l4566 =>
     .auto 1 <|
     .ret (A56.a0 (b4564) (k4565) (l4566))
    )
    (fun _ => .fail) -- none
  | _ => .fail
noncomputable def F56 (z4472 : Int) (z4473 : Int) (z4474 : Int) : Option A56 := (D56 z4472 z4473 z4474).ev some
theorem F56_ok (z4472 : Int) (z4473 : Int) (z4474 : Int) : ∀ b, F56 z4472 z4473 z4474 = some b → UU 56 ([i64 z4472, i64 z4473, i64 z4474]) ([]) = some (A56.out b) :=
  fn_ok (E := E56) (L := notIn []) rfl rfl (fun x => by kernel_rfl)
/-! ## F21 -/
noncomputable def D21 (z4410 : Int) (z4411 : Int) (z4412 : Int) : PT A21 :=
  .ask E45 (F45_ok (z4410) (z4411)) fun (r : A45) => match r with
  | .a0 b4413 k4414 l4415 =>
   .ask E54 (F54_ok (z4410) (z4411)) fun (r : A54) => match r with
   | .a0 b4451 k4452 l4453 =>
    .test (0 + k4414 ≤ List.length l4415)
     (fun h0 =>
     .test (0 + k4452 ≤ List.length l4453)
      (fun h1 =>
      .ask E20 (F20_ok (b4413) (List.take k4414 l4415) (b4451) (List.take k4452 l4453)) fun (r : A20) => match r with
      | .a0 b4454 =>
       .testB (b4454)
        (fun h2 =>
        .auto 2 <|
        .ask E46 (F46_ok (z4410) (z4411)) fun (r : A46) => match r with
        | .a0 b4455 k4456 l4457 =>
         .auto 3 <|
         .ask E55 (F55_ok (z4410) (z4411)) fun (r : A55) => match r with
         | .a0 b4465 k4466 l4467 =>
          .auto 1 <|
          .test (0 + k4456 ≤ List.length l4457)
           (fun h3 =>
           .test (0 + k4466 ≤ List.length l4467)
            (fun h4 =>
            .ask E20 (F20_ok (b4455) (List.take k4456 l4457) (b4465) (List.take k4466 l4467)) fun (r : A20) => match r with
            | .a0 b4468 =>
             .auto 1 <|
             .testB (b4468)
              (fun h5 =>
              .auto 3 <|
              .ask E47 (F47_ok (z4412) (z4410) (z4411)) fun (r : A47) => match r with
              | .a0 b4469 k4470 l4471 =>
               .auto 4 <|
               .ask E56 (F56_ok (z4412) (z4410) (z4411)) fun (r : A56) => match r with
               | .a0 b4567 k4568 l4569 =>
                .auto 1 <|
                .test (0 + k4470 ≤ List.length l4471)
                 (fun h6 =>
                 .test (0 + k4568 ≤ List.length l4569)
                  (fun h7 =>
                  .ask E20 (F20_ok (b4469) (List.take k4470 l4471) (b4567) (List.take k4568 l4569)) fun (r : A20) => match r with
                  | .a0 b4570 =>
                   .auto 1 <|
                   .ret (A21.a0 (b4570))
                  )
                  (fun _ => .fail) -- none
                 )
                 (fun _ => .fail) -- none
              )
              (fun h5 =>
              .auto 9 <|
              .ret (A21.a0 (false))
              )
            )
            (fun _ => .fail) -- none
           )
           (fun _ => .fail) -- none
        )
        (fun h2 =>
        .auto 17 <|
        .ret (A21.a0 (false))
        )
      )
      (fun _ => .fail) -- none
     )
     (fun _ => .fail) -- none
noncomputable def F21 (z4410 : Int) (z4411 : Int) (z4412 : Int) : Option A21 := (D21 z4410 z4411 z4412).ev some
theorem F21_ok (z4410 : Int) (z4411 : Int) (z4412 : Int) : ∀ b, F21 z4410 z4411 z4412 = some b → UU 21 ([i64 z4410, i64 z4411, i64 z4412]) ([]) = some (A21.out b) :=
  fn_ok (E := E21) (L := notIn []) rfl rfl (fun x => by kernel_rfl)
/-! ## F89 -/
noncomputable abbrev B89 : Code := (Try.f89.body).getD .skip
inductive N89_0 where
  | s0 (l4820 : List (List V)) (z4821 : Int)
  | e0
  | e1 (l4822 : List (List V))
@[reducible] def N89_0.out : N89_0 → VX × S
  | .s0 l4820 z4821 => (VX.normal, { T := V.list 7 l4820 :: U :: U :: i64 z4821 :: un 53 [], σ := [] })
  | .e0 => (VX.ret, { T := U :: U :: vb false :: un 54 [], σ := [] })
  | .e1 l4822 => (VX.exit 0, { T := V.list 7 l4822 :: un 56 [], σ := [] })
def N89_0.ex (g : N89_0 → Prop) : Prop := (∃ (l4820 : List (List V)) (z4821 : Int), g (.s0 l4820 z4821)) ∨ g .e0 ∨ (∃ (l4822 : List (List V)), g (.e1 l4822))
theorem N89_0.ok (g : N89_0 → Prop) : N89_0.ex g ↔ ∃ b, g b := ⟨fun h => match h with
  | .inl ⟨_, _, h⟩ => ⟨_, h⟩
  | .inr (.inl h) => ⟨_, h⟩
  | .inr (.inr (⟨_, h⟩)) => ⟨_, h⟩, fun ⟨b, h⟩ => match b, h with
  | .s0 _ _, h => .inl ⟨_, _, h⟩
  | .e0, h => .inr (.inl h)
  | .e1 _, h => .inr (.inr (⟨_, h⟩))⟩
abbrev E89_0 : Ent (VX × S) := ⟨N89_0, N89_0.out, N89_0.ex, N89_0.ok⟩
noncomputable def D89_0 (l4820 : List (List V)) (z4821 : Int) : PT N89_0 :=
  .test (z4821 < (↑(List.length l4820) : Int))
   (fun h0 =>
   .test (0 ≤ z4821)
    (fun h1 =>
    .look RW61 (l4820[Int.toNat z4821]?) fun e4825 =>
    .known (decide_eq_true h1) <|
    .look RW61 (l4820[Int.toNat z4821]?) fun e4826 =>
    .known (decide_eq_true h1) <|
    .look RW61 (l4820[Int.toNat z4821]?) fun e4827 =>
    .tot O70 (F70_ok (e4825.c0) (e4826.c2) (e4827.c3) (e4827.c4) (e4827.c5) (e4827.c6)) fun b4828 =>
    .testB (!b4828)
     (fun h2 =>
     .auto 13 <|
     .ret (N89_0.e0)
     )
     (fun h2 =>
     .auto 2 <|
     .known (decide_eq_true h1) <|
     .look RW61 (l4820[Int.toNat z4821]?) fun e4829 =>
     .auto 3 <|
     .tot O104 (F104_ok (e4829.c1) (-67108864) (67108864)) fun b4830 =>
     .auto 2 <|
     .testB (!b4830)
      (fun h3 =>
      .auto 5 <|
      .ret (N89_0.e0)
      )
      (fun h3 =>
      .auto 2 <|
      .test (z4821 > 0)
       (fun h4 =>
       .auto 3 <|
       .test (0 ≤ w64 (z4821 - 1))
        (fun h5 =>
        .look RW61 (l4820[Int.toNat (w64 (z4821 - (1 : Int)))]?) fun e4831 =>
        .auto 5 <|
        .known (decide_eq_true h1) <|
        .look RW61 (l4820[Int.toNat z4821]?) fun e4832 =>
        .auto 6 <|
        .test (e4831.c0 ≥ e4832.c0)
         (fun h6 =>
         .ret (N89_0.e0)
         )
         (fun h6 =>
         .ret (N89_0.s0 (l4820) (w64 (z4821 + 1)))
         )
        )
        (fun _ => .fail) -- none
       )
       (fun h4 =>
       .auto 15 <|
       .ret (N89_0.s0 (l4820) (w64 (z4821 + 1)))
       )
      )
     )
    )
    (fun _ => .fail) -- none
   )
   (fun h0 =>
   .ret (N89_0.e1 (l4820))
   )
noncomputable def S89_0 : N89_0 → PT N89_0
  | .s0 l4820 z4821 => D89_0 l4820 z4821
  | _ => .fail
def N89_0.off : N89_0 → Bool
  | .s0 _ _ => false
  | _ => true
noncomputable def L89_0 (n : Nat) (b : N89_0) : Option N89_0 := PT.loop (S89_0) N89_0.off n b
theorem L89_0_ok : ∀ (n : Nat) (b : N89_0), N89_0.off b = false → ∀ c, L89_0 n b = some c → loopP Try.prog X CC 89 (0) 18446744073709551616 B89 0 n (E89_0.out b).2 = some (E89_0.out c) :=
  loop_ok (E := E89_0) (step := S89_0) (L := notIn []) (fun b hb => by cases b <;> first | (cases hb; done) | (intro x; kernel_rfl)) (fun b => by cases b <;> rfl)
noncomputable def N89_0.nx (n : Nat) (c : N89_0) : Option N89_0 := match N89_0.off c with
  | true => some c
  | false => L89_0 n c
theorem L89_0_s0 (n : Nat) (l4820 : List (List V)) (z4821 : Int) : L89_0 (n + 1) (.s0 l4820 z4821) = (D89_0 l4820 z4821).ev (N89_0.nx n) := rfl
theorem N89_0.nx_s0 (n : Nat) (l4820 : List (List V)) (z4821 : Int) : N89_0.nx n (.s0 l4820 z4821) = L89_0 n (.s0 l4820 z4821) := rfl
theorem N89_0.nx_e0 (n : Nat) : N89_0.nx n (.e0) = some (.e0) := rfl
theorem N89_0.nx_e1 (n : Nat) (l4822 : List (List V)) : N89_0.nx n (.e1 l4822) = some (.e1 l4822) := rfl
noncomputable def D89 (l4812 : List (List V)) : PT A89 :=
  .cut E89_0 (L89_0_ok 18446744073709551616 (.s0 (l4812) (0)) rfl) fun (r : N89_0) => match r with
  | .e0 =>
   .ret (A89.a0 (false))
  | .e1 l4833 =>
   .ret (A89.a0 (decide ((↑(List.length l4833) : Int) ≤ 32)))
  | _ => .fail
noncomputable def F89 (l4812 : List (List V)) : Option A89 := (D89 l4812).ev some
theorem F89_ok (l4812 : List (List V)) : ∀ b, F89 l4812 = some b → UU 89 ([V.list 7 l4812]) ([]) = some (A89.out b) :=
  fn_ok (E := E89) (L := notIn []) rfl rfl (fun x => by kernel_rfl)
/-! ## F116 -/
noncomputable def D116 (z4949 : Int) : PT (Bool) :=
  .test (z4949 ≥ -67108864)
   (fun h0 =>
   .auto 2 <|
   .ret (decide (z4949 ≤ 67108864))
   )
   (fun h0 =>
   .auto 2 <|
   .ret (false)
   )
@[reducible] def O116 (b4950 : Bool) : V × Store := (vb b4950, [])
noncomputable def F116 (z4949 : Int) : Bool := (D116 z4949).evT
theorem F116_ok (z4949 : Int) : UU 116 ([i64 z4949]) ([]) = some (O116 (F116 z4949)) :=
  fnT_ok (out := O116) (L := notIn []) rfl rfl (fun x => by kernel_rfl) (by simp [D116, PT.isT])
/-! ## F90 -/
noncomputable def D90 (z4935 : Int) (z4936 : Int) (z4937 : Int) (z4938 : Int) (z4939 : Int) (z4940 : Int) (z4941 : Int) (z4942 : Int) (z4943 : Int) (z4944 : Int) (z4945 : Int) (z4946 : Int) (z4947 : Int) (z4948 : Int) : PT (Bool) :=
  .auto 1 <|
  .test (z4935 ≥ 0)
   (fun h0 =>
   .auto 4 <|
   .test (z4935 ≤ 2)
    (fun h1 =>
    .auto 4 <|
    .tot O116 (F116_ok (z4944)) fun b4951 =>
    .auto 1 <|
    .testB (b4951)
     (fun h2 =>
     .auto 4 <|
     .tot O116 (F116_ok (z4945)) fun b4952 =>
     .auto 1 <|
     .testB (b4952)
      (fun h3 =>
      .auto 4 <|
      .tot O116 (F116_ok (z4946)) fun b4953 =>
      .auto 1 <|
      .testB (b4953)
       (fun h4 =>
       .auto 4 <|
       .tot O116 (F116_ok (z4947)) fun b4954 =>
       .auto 1 <|
       .testB (b4954)
        (fun h5 =>
        .auto 3 <|
        .tot O116 (F116_ok (z4948)) fun b4955 =>
        .auto 1 <|
        .ret (b4955)
        )
        (fun h5 =>
        .auto 3 <|
        .ret (false)
        )
       )
       (fun h4 =>
       .auto 8 <|
       .ret (false)
       )
      )
      (fun h3 =>
      .auto 13 <|
      .ret (false)
      )
     )
     (fun h2 =>
     .auto 18 <|
     .ret (false)
     )
    )
    (fun h1 =>
    .auto 23 <|
    .ret (false)
    )
   )
   (fun h0 =>
   .auto 27 <|
   .ret (false)
   )
@[reducible] def O90 (b4956 : Bool) : V × Store := (vb b4956, [])
noncomputable def F90 (z4935 : Int) (z4936 : Int) (z4937 : Int) (z4938 : Int) (z4939 : Int) (z4940 : Int) (z4941 : Int) (z4942 : Int) (z4943 : Int) (z4944 : Int) (z4945 : Int) (z4946 : Int) (z4947 : Int) (z4948 : Int) : Bool := (D90 z4935 z4936 z4937 z4938 z4939 z4940 z4941 z4942 z4943 z4944 z4945 z4946 z4947 z4948).evT
theorem F90_ok (z4935 : Int) (z4936 : Int) (z4937 : Int) (z4938 : Int) (z4939 : Int) (z4940 : Int) (z4941 : Int) (z4942 : Int) (z4943 : Int) (z4944 : Int) (z4945 : Int) (z4946 : Int) (z4947 : Int) (z4948 : Int) : UU 90 ([V.agg [i64 z4935, u8 z4936, u8 z4937, u8 z4938, u8 z4939, u8 z4940, u8 z4941, u8 z4942, u8 z4943, i64 z4944, i64 z4945, i64 z4946, i64 z4947, i64 z4948]]) ([]) = some (O90 (F90 z4935 z4936 z4937 z4938 z4939 z4940 z4941 z4942 z4943 z4944 z4945 z4946 z4947 z4948)) :=
  fnT_ok (out := O90) (L := notIn []) rfl rfl (fun x => by kernel_rfl) (by simp [D90, PT.isT])
/-! ## F91 -/
noncomputable abbrev B91 : Code := (Try.f91.body).getD .skip
inductive N91_0 where
  | s0 (l4964 : List (List V)) (z4965 : Int)
  | e0
  | e1 (l4966 : List (List V))
@[reducible] def N91_0.out : N91_0 → VX × S
  | .s0 l4964 z4965 => (VX.normal, { T := V.list 10 l4964 :: U :: U :: i64 z4965 :: un 44 [], σ := [] })
  | .e0 => (VX.ret, { T := U :: U :: vb false :: un 45 [], σ := [] })
  | .e1 l4966 => (VX.exit 0, { T := V.list 10 l4966 :: un 47 [], σ := [] })
def N91_0.ex (g : N91_0 → Prop) : Prop := (∃ (l4964 : List (List V)) (z4965 : Int), g (.s0 l4964 z4965)) ∨ g .e0 ∨ (∃ (l4966 : List (List V)), g (.e1 l4966))
theorem N91_0.ok (g : N91_0 → Prop) : N91_0.ex g ↔ ∃ b, g b := ⟨fun h => match h with
  | .inl ⟨_, _, h⟩ => ⟨_, h⟩
  | .inr (.inl h) => ⟨_, h⟩
  | .inr (.inr (⟨_, h⟩)) => ⟨_, h⟩, fun ⟨b, h⟩ => match b, h with
  | .s0 _ _, h => .inl ⟨_, _, h⟩
  | .e0, h => .inr (.inl h)
  | .e1 _, h => .inr (.inr (⟨_, h⟩))⟩
abbrev E91_0 : Ent (VX × S) := ⟨N91_0, N91_0.out, N91_0.ex, N91_0.ok⟩
noncomputable def D91_0 (l4964 : List (List V)) (z4965 : Int) : PT N91_0 :=
  .test (z4965 < (↑(List.length l4964) : Int))
   (fun h0 =>
   .test (0 ≤ z4965)
    (fun h1 =>
    .look RW65 (l4964[Int.toNat z4965]?) fun e4969 =>
    .known (decide_eq_true h1) <|
    .look RW65 (l4964[Int.toNat z4965]?) fun e4970 =>
    .known (decide_eq_true h1) <|
    .look RW65 (l4964[Int.toNat z4965]?) fun e4971 =>
    .tot O70 (F70_ok (e4969.c0) (e4970.c5) (e4971.c6) (e4971.c7) (e4971.c8) (e4971.c9)) fun b4972 =>
    .testB (!b4972)
     (fun h2 =>
     .auto 5 <|
     .ret (N91_0.e0)
     )
     (fun h2 =>
     .auto 2 <|
     .test (z4965 > 0)
      (fun h3 =>
      .auto 3 <|
      .test (0 ≤ w64 (z4965 - 1))
       (fun h4 =>
       .look RW65 (l4964[Int.toNat (w64 (z4965 - (1 : Int)))]?) fun e4973 =>
       .auto 5 <|
       .known (decide_eq_true h1) <|
       .look RW65 (l4964[Int.toNat z4965]?) fun e4974 =>
       .auto 6 <|
       .test (e4973.c0 ≥ e4974.c0)
        (fun h5 =>
        .ret (N91_0.e0)
        )
        (fun h5 =>
        .ret (N91_0.s0 (l4964) (w64 (z4965 + 1)))
        )
       )
       (fun _ => .fail) -- none
      )
      (fun h3 =>
      .auto 15 <|
      .ret (N91_0.s0 (l4964) (w64 (z4965 + 1)))
      )
     )
    )
    (fun _ => .fail) -- none
   )
   (fun h0 =>
   .ret (N91_0.e1 (l4964))
   )
noncomputable def S91_0 : N91_0 → PT N91_0
  | .s0 l4964 z4965 => D91_0 l4964 z4965
  | _ => .fail
def N91_0.off : N91_0 → Bool
  | .s0 _ _ => false
  | _ => true
noncomputable def L91_0 (n : Nat) (b : N91_0) : Option N91_0 := PT.loop (S91_0) N91_0.off n b
theorem L91_0_ok : ∀ (n : Nat) (b : N91_0), N91_0.off b = false → ∀ c, L91_0 n b = some c → loopP Try.prog X CC 91 (0) 18446744073709551616 B91 0 n (E91_0.out b).2 = some (E91_0.out c) :=
  loop_ok (E := E91_0) (step := S91_0) (L := notIn []) (fun b hb => by cases b <;> first | (cases hb; done) | (intro x; kernel_rfl)) (fun b => by cases b <;> rfl)
noncomputable def N91_0.nx (n : Nat) (c : N91_0) : Option N91_0 := match N91_0.off c with
  | true => some c
  | false => L91_0 n c
theorem L91_0_s0 (n : Nat) (l4964 : List (List V)) (z4965 : Int) : L91_0 (n + 1) (.s0 l4964 z4965) = (D91_0 l4964 z4965).ev (N91_0.nx n) := rfl
theorem N91_0.nx_s0 (n : Nat) (l4964 : List (List V)) (z4965 : Int) : N91_0.nx n (.s0 l4964 z4965) = L91_0 n (.s0 l4964 z4965) := rfl
theorem N91_0.nx_e0 (n : Nat) : N91_0.nx n (.e0) = some (.e0) := rfl
theorem N91_0.nx_e1 (n : Nat) (l4966 : List (List V)) : N91_0.nx n (.e1 l4966) = some (.e1 l4966) := rfl
noncomputable def D91 (l4958 : List (List V)) : PT A91 :=
  .cut E91_0 (L91_0_ok 18446744073709551616 (.s0 (l4958) (0)) rfl) fun (r : N91_0) => match r with
  | .e0 =>
   .ret (A91.a0 (false))
  | .e1 l4975 =>
   .ret (A91.a0 (decide ((↑(List.length l4975) : Int) ≤ 32)))
  | _ => .fail
noncomputable def F91 (l4958 : List (List V)) : Option A91 := (D91 l4958).ev some
theorem F91_ok (l4958 : List (List V)) : ∀ b, F91 l4958 = some b → UU 91 ([V.list 10 l4958]) ([]) = some (A91.out b) :=
  fn_ok (E := E91) (L := notIn []) rfl rfl (fun x => by kernel_rfl)
/-! ## F92 -/
noncomputable abbrev B92 : Code := (Try.f92.body).getD .skip
inductive N92_0 where
  | s0 (l4984 : List (List V)) (z4985 : Int)
  | e0
  | e1 (l4986 : List (List V))
@[reducible] def N92_0.out : N92_0 → VX × S
  | .s0 l4984 z4985 => (VX.normal, { T := V.list 1 l4984 :: U :: U :: i64 z4985 :: un 21 [], σ := [] })
  | .e0 => (VX.ret, { T := U :: U :: vb false :: un 22 [], σ := [] })
  | .e1 l4986 => (VX.exit 0, { T := V.list 1 l4986 :: un 24 [], σ := [] })
def N92_0.ex (g : N92_0 → Prop) : Prop := (∃ (l4984 : List (List V)) (z4985 : Int), g (.s0 l4984 z4985)) ∨ g .e0 ∨ (∃ (l4986 : List (List V)), g (.e1 l4986))
theorem N92_0.ok (g : N92_0 → Prop) : N92_0.ex g ↔ ∃ b, g b := ⟨fun h => match h with
  | .inl ⟨_, _, h⟩ => ⟨_, h⟩
  | .inr (.inl h) => ⟨_, h⟩
  | .inr (.inr (⟨_, h⟩)) => ⟨_, h⟩, fun ⟨b, h⟩ => match b, h with
  | .s0 _ _, h => .inl ⟨_, _, h⟩
  | .e0, h => .inr (.inl h)
  | .e1 _, h => .inr (.inr (⟨_, h⟩))⟩
abbrev E92_0 : Ent (VX × S) := ⟨N92_0, N92_0.out, N92_0.ex, N92_0.ok⟩
noncomputable def D92_0 (l4984 : List (List V)) (z4985 : Int) : PT N92_0 :=
  .test (z4985 < (↑(List.length l4984) : Int))
   (fun h0 =>
   .test (0 ≤ z4985)
    (fun h1 =>
    .look RW2 (l4984[Int.toNat z4985]?) fun e4989 =>
    .test (e4989.c0 < 65536)
     (fun h2 =>
     .auto 6 <|
     .ret (N92_0.e0)
     )
     (fun h2 =>
     .auto 2 <|
     .known (decide_eq_true h1) <|
     .look RW2 (l4984[Int.toNat z4985]?) fun e4990 =>
     .auto 3 <|
     .test (e4990.c0 > 67108864)
      (fun h3 =>
      .ret (N92_0.e0)
      )
      (fun h3 =>
      .ret (N92_0.s0 (l4984) (w64 (z4985 + 1)))
      )
     )
    )
    (fun _ => .fail) -- none
   )
   (fun h0 =>
   .ret (N92_0.e1 (l4984))
   )
noncomputable def S92_0 : N92_0 → PT N92_0
  | .s0 l4984 z4985 => D92_0 l4984 z4985
  | _ => .fail
def N92_0.off : N92_0 → Bool
  | .s0 _ _ => false
  | _ => true
noncomputable def L92_0 (n : Nat) (b : N92_0) : Option N92_0 := PT.loop (S92_0) N92_0.off n b
theorem L92_0_ok : ∀ (n : Nat) (b : N92_0), N92_0.off b = false → ∀ c, L92_0 n b = some c → loopP Try.prog X CC 92 (0) 18446744073709551616 B92 0 n (E92_0.out b).2 = some (E92_0.out c) :=
  loop_ok (E := E92_0) (step := S92_0) (L := notIn []) (fun b hb => by cases b <;> first | (cases hb; done) | (intro x; kernel_rfl)) (fun b => by cases b <;> rfl)
noncomputable def N92_0.nx (n : Nat) (c : N92_0) : Option N92_0 := match N92_0.off c with
  | true => some c
  | false => L92_0 n c
theorem L92_0_s0 (n : Nat) (l4984 : List (List V)) (z4985 : Int) : L92_0 (n + 1) (.s0 l4984 z4985) = (D92_0 l4984 z4985).ev (N92_0.nx n) := rfl
theorem N92_0.nx_s0 (n : Nat) (l4984 : List (List V)) (z4985 : Int) : N92_0.nx n (.s0 l4984 z4985) = L92_0 n (.s0 l4984 z4985) := rfl
theorem N92_0.nx_e0 (n : Nat) : N92_0.nx n (.e0) = some (.e0) := rfl
theorem N92_0.nx_e1 (n : Nat) (l4986 : List (List V)) : N92_0.nx n (.e1 l4986) = some (.e1 l4986) := rfl
noncomputable def D92 (l4980 : List (List V)) : PT A92 :=
  .cut E92_0 (L92_0_ok 18446744073709551616 (.s0 (l4980) (0)) rfl) fun (r : N92_0) => match r with
  | .e0 =>
   .ret (A92.a0 (false))
  | .e1 l4991 =>
   .ret (A92.a0 (decide ((↑(List.length l4991) : Int) ≤ 8)))
  | _ => .fail
noncomputable def F92 (l4980 : List (List V)) : Option A92 := (D92 l4980).ev some
theorem F92_ok (l4980 : List (List V)) : ∀ b, F92 l4980 = some b → UU 92 ([V.list 1 l4980]) ([]) = some (A92.out b) :=
  fn_ok (E := E92) (L := notIn []) rfl rfl (fun x => by kernel_rfl)
/-! ## F57 -/
noncomputable abbrev B57 : Code := (Try.f57.body).getD .skip
inductive N57_r3 where
  | e0 (b4869 : Bool) (z4870 : Int) (z4871 : Int) (l4872 : List (List V)) (l4873 : List (List V)) (l4874 : List (List V)) (b4875 : Bool) (z4876 : Int) (z4877 : Int) (z4878 : Int) (z4879 : Int) (z4880 : Int) (z4881 : Int) (z4882 : Int) (z4883 : Int) (z4884 : Int) (z4885 : Int) (z4886 : Int) (z4887 : Int) (z4888 : Int) (z4889 : Int) (z4890 : Int) (l4891 : List (List V)) (b4892 : Bool) (l4893 : List (List V)) (z4894 : Int) (z4895 : Int) (z4896 : Int) (z4897 : Int) (z4898 : Int) (l4899 : List (List V)) (l4900 : List (List V)) (l4901 : List (List V))
@[reducible] def N57_r3.out : N57_r3 → VX × S
  | .e0 b4869 z4870 z4871 l4872 l4873 l4874 b4875 z4876 z4877 z4878 z4879 z4880 z4881 z4882 z4883 z4884 z4885 z4886 z4887 z4888 z4889 z4890 l4891 b4892 l4893 z4894 z4895 z4896 z4897 z4898 l4899 l4900 l4901 => (VX.normal, { T := U :: V.ptr 0 0 0 :: un 75 (vb b4869 :: un 48 []), σ := [Ob.cells true false 32 [[i64 z4870, i64 z4871, V.list 7 l4872, V.list 7 l4873, V.list 8 l4874, vb b4875, i64 z4876, i64 z4877, u8 z4878, u8 z4879, u8 z4880, u8 z4881, u8 z4882, u8 z4883, u8 z4884, u8 z4885, i64 z4886, i64 z4887, i64 z4888, i64 z4889, i64 z4890, V.list 10 l4891, vb b4892, V.list 7 l4893, u8 z4894, u8 z4895, u8 z4896, u8 z4897, i64 z4898, V.list 1 l4899, V.list 7 l4900, V.list 7 l4901]]] })
def N57_r3.ex (g : N57_r3 → Prop) : Prop := (∃ (b4869 : Bool) (z4870 : Int) (z4871 : Int) (l4872 : List (List V)) (l4873 : List (List V)) (l4874 : List (List V)) (b4875 : Bool) (z4876 : Int) (z4877 : Int) (z4878 : Int) (z4879 : Int) (z4880 : Int) (z4881 : Int) (z4882 : Int) (z4883 : Int) (z4884 : Int) (z4885 : Int) (z4886 : Int) (z4887 : Int) (z4888 : Int) (z4889 : Int) (z4890 : Int) (l4891 : List (List V)) (b4892 : Bool) (l4893 : List (List V)) (z4894 : Int) (z4895 : Int) (z4896 : Int) (z4897 : Int) (z4898 : Int) (l4899 : List (List V)) (l4900 : List (List V)) (l4901 : List (List V)), g (.e0 b4869 z4870 z4871 l4872 l4873 l4874 b4875 z4876 z4877 z4878 z4879 z4880 z4881 z4882 z4883 z4884 z4885 z4886 z4887 z4888 z4889 z4890 l4891 b4892 l4893 z4894 z4895 z4896 z4897 z4898 l4899 l4900 l4901))
theorem N57_r3.ok (g : N57_r3 → Prop) : N57_r3.ex g ↔ ∃ b, g b := ⟨fun h => match h with
  | ⟨_, _, _, _, _, _, _, _, _, _, _, _, _, _, _, _, _, _, _, _, _, _, _, _, _, _, _, _, _, _, _, _, _, h⟩ => ⟨_, h⟩, fun ⟨b, h⟩ => match b, h with
  | .e0 _ _ _ _ _ _ _ _ _ _ _ _ _ _ _ _ _ _ _ _ _ _ _ _ _ _ _ _ _ _ _ _ _, h => ⟨_, _, _, _, _, _, _, _, _, _, _, _, _, _, _, _, _, _, _, _, _, _, _, _, _, _, _, _, _, _, _, _, _, h⟩⟩
abbrev E57_r3 : Ent (VX × S) := ⟨N57_r3, N57_r3.out, N57_r3.ex, N57_r3.ok⟩
noncomputable def D57_r3 (z4780 : Int) (z4781 : Int) (l4782 : List (List V)) (l4783 : List (List V)) (l4784 : List (List V)) (b4785 : Bool) (z4786 : Int) (z4787 : Int) (z4788 : Int) (z4789 : Int) (z4790 : Int) (z4791 : Int) (z4792 : Int) (z4793 : Int) (z4794 : Int) (z4795 : Int) (z4796 : Int) (z4797 : Int) (z4798 : Int) (z4799 : Int) (z4800 : Int) (l4801 : List (List V)) (b4802 : Bool) (l4803 : List (List V)) (z4804 : Int) (z4805 : Int) (z4806 : Int) (z4807 : Int) (z4808 : Int) (l4809 : List (List V)) (l4810 : List (List V)) (l4811 : List (List V)) : PT N57_r3 :=
  .auto 1 <|
  .ask E89 (F89_ok (l4782)) fun (r : A89) => match r with
  | .a0 b5034 =>
   .testB (!b5034)
    (fun h0 =>
    .auto 21 <|
    .ret (N57_r3.e0 (true) (z4780) (z4781) (l4782) (l4783) (l4784) (b4785) (z4786) (z4787) (z4788) (z4789) (z4790) (z4791) (z4792) (z4793) (z4794) (z4795) (z4796) (z4797) (z4798) (z4799) (z4800) (l4801) (b4802) (l4803) (z4804) (z4805) (z4806) (z4807) (z4808) (l4809) (l4810) (l4811))
    )
    (fun h0 =>
    .auto 3 <|
    .ask E89 (F89_ok (l4783)) fun (r : A89) => match r with
    | .a0 b5035 =>
     .auto 2 <|
     .testB (!b5035)
      (fun h1 =>
      .auto 16 <|
      .ret (N57_r3.e0 (true) (z4780) (z4781) (l4782) (l4783) (l4784) (b4785) (z4786) (z4787) (z4788) (z4789) (z4790) (z4791) (z4792) (z4793) (z4794) (z4795) (z4796) (z4797) (z4798) (z4799) (z4800) (l4801) (b4802) (l4803) (z4804) (z4805) (z4806) (z4807) (z4808) (l4809) (l4810) (l4811))
      )
      (fun h1 =>
      .auto 3 <|
      .ask E34 (F34_ok (l4784)) fun (r : A34) => match r with
      | .a0 b5036 =>
       .auto 2 <|
       .testB (!b5036)
        (fun h2 =>
        .auto 11 <|
        .ret (N57_r3.e0 (true) (z4780) (z4781) (l4782) (l4783) (l4784) (b4785) (z4786) (z4787) (z4788) (z4789) (z4790) (z4791) (z4792) (z4793) (z4794) (z4795) (z4796) (z4797) (z4798) (z4799) (z4800) (l4801) (b4802) (l4803) (z4804) (z4805) (z4806) (z4807) (z4808) (l4809) (l4810) (l4811))
        )
        (fun h2 =>
        .auto 4 <|
        .testB (z4780 == 3)
         (fun h3 =>
         .auto 12 <|
         .test (w64 ((↑(List.length l4782) : Int) + (↑(List.length l4783) : Int)) > 0)
          (fun h4 =>
          .auto 5 <|
          .ret (N57_r3.e0 (true) (z4780) (z4781) (l4782) (l4783) (l4784) (b4785) (z4786) (z4787) (z4788) (z4789) (z4790) (z4791) (z4792) (z4793) (z4794) (z4795) (z4796) (z4797) (z4798) (z4799) (z4800) (l4801) (b4802) (l4803) (z4804) (z4805) (z4806) (z4807) (z4808) (l4809) (l4810) (l4811))
          )
          (fun h4 =>
          .auto 4 <|
          .testB (z4780 != 3)
           (fun h5 =>
           .auto 7 <|
           .ret (N57_r3.e0 (decide ((↑(List.length l4784) : Int) > 0)) (z4780) (z4781) (l4782) (l4783) (l4784) (b4785) (z4786) (z4787) (z4788) (z4789) (z4790) (z4791) (z4792) (z4793) (z4794) (z4795) (z4796) (z4797) (z4798) (z4799) (z4800) (l4801) (b4802) (l4803) (z4804) (z4805) (z4806) (z4807) (z4808) (l4809) (l4810) (l4811))
           )
           (fun h5 =>
           .auto 6 <|
           .ret (N57_r3.e0 (false) (z4780) (z4781) (l4782) (l4783) (l4784) (b4785) (z4786) (z4787) (z4788) (z4789) (z4790) (z4791) (z4792) (z4793) (z4794) (z4795) (z4796) (z4797) (z4798) (z4799) (z4800) (l4801) (b4802) (l4803) (z4804) (z4805) (z4806) (z4807) (z4808) (l4809) (l4810) (l4811))
           )
          )
         )
         (fun h3 =>
         .auto 15 <|
         .testB (z4780 != 3)
          (fun h4 =>
          .auto 7 <|
          .ret (N57_r3.e0 (decide ((↑(List.length l4784) : Int) > 0)) (z4780) (z4781) (l4782) (l4783) (l4784) (b4785) (z4786) (z4787) (z4788) (z4789) (z4790) (z4791) (z4792) (z4793) (z4794) (z4795) (z4796) (z4797) (z4798) (z4799) (z4800) (l4801) (b4802) (l4803) (z4804) (z4805) (z4806) (z4807) (z4808) (l4809) (l4810) (l4811))
          )
          (fun h4 =>
          .auto 6 <|
          .ret (N57_r3.e0 (false) (z4780) (z4781) (l4782) (l4783) (l4784) (b4785) (z4786) (z4787) (z4788) (z4789) (z4790) (z4791) (z4792) (z4793) (z4794) (z4795) (z4796) (z4797) (z4798) (z4799) (z4800) (l4801) (b4802) (l4803) (z4804) (z4805) (z4806) (z4807) (z4808) (l4809) (l4810) (l4811))
          )
         )
        )
      )
    )
noncomputable def J57_r3 (z4780 : Int) (z4781 : Int) (l4782 : List (List V)) (l4783 : List (List V)) (l4784 : List (List V)) (b4785 : Bool) (z4786 : Int) (z4787 : Int) (z4788 : Int) (z4789 : Int) (z4790 : Int) (z4791 : Int) (z4792 : Int) (z4793 : Int) (z4794 : Int) (z4795 : Int) (z4796 : Int) (z4797 : Int) (z4798 : Int) (z4799 : Int) (z4800 : Int) (l4801 : List (List V)) (b4802 : Bool) (l4803 : List (List V)) (z4804 : Int) (z4805 : Int) (z4806 : Int) (z4807 : Int) (z4808 : Int) (l4809 : List (List V)) (l4810 : List (List V)) (l4811 : List (List V)) : Option N57_r3 := (D57_r3 z4780 z4781 l4782 l4783 l4784 b4785 z4786 z4787 z4788 z4789 z4790 z4791 z4792 z4793 z4794 z4795 z4796 z4797 z4798 z4799 z4800 l4801 b4802 l4803 z4804 z4805 z4806 z4807 z4808 l4809 l4810 l4811).ev some
theorem J57_r3_ok (z4780 : Int) (z4781 : Int) (l4782 : List (List V)) (l4783 : List (List V)) (l4784 : List (List V)) (b4785 : Bool) (z4786 : Int) (z4787 : Int) (z4788 : Int) (z4789 : Int) (z4790 : Int) (z4791 : Int) (z4792 : Int) (z4793 : Int) (z4794 : Int) (z4795 : Int) (z4796 : Int) (z4797 : Int) (z4798 : Int) (z4799 : Int) (z4800 : Int) (l4801 : List (List V)) (b4802 : Bool) (l4803 : List (List V)) (z4804 : Int) (z4805 : Int) (z4806 : Int) (z4807 : Int) (z4808 : Int) (l4809 : List (List V)) (l4810 : List (List V)) (l4811 : List (List V)) : ∀ b, J57_r3 z4780 z4781 l4782 l4783 l4784 b4785 z4786 z4787 z4788 z4789 z4790 z4791 z4792 z4793 z4794 z4795 z4796 z4797 z4798 z4799 z4800 l4801 b4802 l4803 z4804 z4805 z4806 z4807 z4808 l4809 l4810 l4811 = some b → regP Try.prog X CC 57 (0) B57 3 ({ T := U :: V.ptr 0 0 0 :: un 124 [], σ := [Ob.cells true false 32 [[i64 z4780, i64 z4781, V.list 7 l4782, V.list 7 l4783, V.list 8 l4784, vb b4785, i64 z4786, i64 z4787, u8 z4788, u8 z4789, u8 z4790, u8 z4791, u8 z4792, u8 z4793, u8 z4794, u8 z4795, i64 z4796, i64 z4797, i64 z4798, i64 z4799, i64 z4800, V.list 10 l4801, vb b4802, V.list 7 l4803, u8 z4804, u8 z4805, u8 z4806, u8 z4807, i64 z4808, V.list 1 l4809, V.list 7 l4810, V.list 7 l4811]]] }) = some (E57_r3.out b) :=
  reg_ok (E := E57_r3) (fun x => by kernel_rfl)
inductive N57_r1 where
  | e0 (b4713 : Bool) (z4714 : Int) (z4715 : Int) (l4716 : List (List V)) (l4717 : List (List V)) (l4718 : List (List V)) (b4719 : Bool) (z4720 : Int) (z4721 : Int) (z4722 : Int) (z4723 : Int) (z4724 : Int) (z4725 : Int) (z4726 : Int) (z4727 : Int) (z4728 : Int) (z4729 : Int) (z4730 : Int) (z4731 : Int) (z4732 : Int) (z4733 : Int) (z4734 : Int) (l4735 : List (List V)) (b4736 : Bool) (l4737 : List (List V)) (z4738 : Int) (z4739 : Int) (z4740 : Int) (z4741 : Int) (z4742 : Int) (l4743 : List (List V)) (l4744 : List (List V)) (l4745 : List (List V))
@[reducible] def N57_r1.out : N57_r1 → VX × S
  | .e0 b4713 z4714 z4715 l4716 l4717 l4718 b4719 z4720 z4721 z4722 z4723 z4724 z4725 z4726 z4727 z4728 z4729 z4730 z4731 z4732 z4733 z4734 l4735 b4736 l4737 z4738 z4739 z4740 z4741 z4742 l4743 l4744 l4745 => (VX.normal, { T := U :: V.ptr 0 0 0 :: un 33 (vb b4713 :: un 90 []), σ := [Ob.cells true false 32 [[i64 z4714, i64 z4715, V.list 7 l4716, V.list 7 l4717, V.list 8 l4718, vb b4719, i64 z4720, i64 z4721, u8 z4722, u8 z4723, u8 z4724, u8 z4725, u8 z4726, u8 z4727, u8 z4728, u8 z4729, i64 z4730, i64 z4731, i64 z4732, i64 z4733, i64 z4734, V.list 10 l4735, vb b4736, V.list 7 l4737, u8 z4738, u8 z4739, u8 z4740, u8 z4741, i64 z4742, V.list 1 l4743, V.list 7 l4744, V.list 7 l4745]]] })
def N57_r1.ex (g : N57_r1 → Prop) : Prop := (∃ (b4713 : Bool) (z4714 : Int) (z4715 : Int) (l4716 : List (List V)) (l4717 : List (List V)) (l4718 : List (List V)) (b4719 : Bool) (z4720 : Int) (z4721 : Int) (z4722 : Int) (z4723 : Int) (z4724 : Int) (z4725 : Int) (z4726 : Int) (z4727 : Int) (z4728 : Int) (z4729 : Int) (z4730 : Int) (z4731 : Int) (z4732 : Int) (z4733 : Int) (z4734 : Int) (l4735 : List (List V)) (b4736 : Bool) (l4737 : List (List V)) (z4738 : Int) (z4739 : Int) (z4740 : Int) (z4741 : Int) (z4742 : Int) (l4743 : List (List V)) (l4744 : List (List V)) (l4745 : List (List V)), g (.e0 b4713 z4714 z4715 l4716 l4717 l4718 b4719 z4720 z4721 z4722 z4723 z4724 z4725 z4726 z4727 z4728 z4729 z4730 z4731 z4732 z4733 z4734 l4735 b4736 l4737 z4738 z4739 z4740 z4741 z4742 l4743 l4744 l4745))
theorem N57_r1.ok (g : N57_r1 → Prop) : N57_r1.ex g ↔ ∃ b, g b := ⟨fun h => match h with
  | ⟨_, _, _, _, _, _, _, _, _, _, _, _, _, _, _, _, _, _, _, _, _, _, _, _, _, _, _, _, _, _, _, _, _, h⟩ => ⟨_, h⟩, fun ⟨b, h⟩ => match b, h with
  | .e0 _ _ _ _ _ _ _ _ _ _ _ _ _ _ _ _ _ _ _ _ _ _ _ _ _ _ _ _ _ _ _ _ _, h => ⟨_, _, _, _, _, _, _, _, _, _, _, _, _, _, _, _, _, _, _, _, _, _, _, _, _, _, _, _, _, _, _, _, _, h⟩⟩
abbrev E57_r1 : Ent (VX × S) := ⟨N57_r1, N57_r1.out, N57_r1.ex, N57_r1.ok⟩
noncomputable def D57_r1 (z4649 : Int) (z4650 : Int) (l4651 : List (List V)) (l4652 : List (List V)) (l4653 : List (List V)) (b4654 : Bool) (z4655 : Int) (z4656 : Int) (z4657 : Int) (z4658 : Int) (z4659 : Int) (z4660 : Int) (z4661 : Int) (z4662 : Int) (z4663 : Int) (z4664 : Int) (z4665 : Int) (z4666 : Int) (z4667 : Int) (z4668 : Int) (z4669 : Int) (l4670 : List (List V)) (b4671 : Bool) (l4672 : List (List V)) (z4673 : Int) (z4674 : Int) (z4675 : Int) (z4676 : Int) (z4677 : Int) (l4678 : List (List V)) (l4679 : List (List V)) (l4680 : List (List V)) : PT N57_r1 :=
  .auto 1 <|
  .test (z4649 < 0)
   (fun h0 =>
   .auto 15 <|
   .ret (N57_r1.e0 (true) (z4649) (z4650) (l4651) (l4652) (l4653) (b4654) (z4655) (z4656) (z4657) (z4658) (z4659) (z4660) (z4661) (z4662) (z4663) (z4664) (z4665) (z4666) (z4667) (z4668) (z4669) (l4670) (b4671) (l4672) (z4673) (z4674) (z4675) (z4676) (z4677) (l4678) (l4679) (l4680))
   )
   (fun h0 =>
   .auto 4 <|
   .test (z4649 > 3)
    (fun h1 =>
    .auto 11 <|
    .ret (N57_r1.e0 (true) (z4649) (z4650) (l4651) (l4652) (l4653) (b4654) (z4655) (z4656) (z4657) (z4658) (z4659) (z4660) (z4661) (z4662) (z4663) (z4664) (z4665) (z4666) (z4667) (z4668) (z4669) (l4670) (b4671) (l4672) (z4673) (z4674) (z4675) (z4676) (z4677) (l4678) (l4679) (l4680))
    )
    (fun h1 =>
    .auto 4 <|
    .testB (z4649 == 2)
     (fun h2 =>
     .auto 4 <|
     .test (z4650 < 2)
      (fun h3 =>
      .auto 13 <|
      .ret (N57_r1.e0 (true) (z4649) (z4650) (l4651) (l4652) (l4653) (b4654) (z4655) (z4656) (z4657) (z4658) (z4659) (z4660) (z4661) (z4662) (z4663) (z4664) (z4665) (z4666) (z4667) (z4668) (z4669) (l4670) (b4671) (l4672) (z4673) (z4674) (z4675) (z4676) (z4677) (l4678) (l4679) (l4680))
      )
      (fun h3 =>
      .auto 8 <|
      .test (z4650 > 16)
       (fun h4 =>
       .auto 5 <|
       .ret (N57_r1.e0 (true) (z4649) (z4650) (l4651) (l4652) (l4653) (b4654) (z4655) (z4656) (z4657) (z4658) (z4659) (z4660) (z4661) (z4662) (z4663) (z4664) (z4665) (z4666) (z4667) (z4668) (z4669) (l4670) (b4671) (l4672) (z4673) (z4674) (z4675) (z4676) (z4677) (l4678) (l4679) (l4680))
       )
       (fun h4 =>
       .auto 4 <|
       .testB (z4649 != 2)
        (fun h5 =>
        .auto 6 <|
        .ret (N57_r1.e0 (z4650 != 0) (z4649) (z4650) (l4651) (l4652) (l4653) (b4654) (z4655) (z4656) (z4657) (z4658) (z4659) (z4660) (z4661) (z4662) (z4663) (z4664) (z4665) (z4666) (z4667) (z4668) (z4669) (l4670) (b4671) (l4672) (z4673) (z4674) (z4675) (z4676) (z4677) (l4678) (l4679) (l4680))
        )
        (fun h5 =>
        .auto 5 <|
        .ret (N57_r1.e0 (false) (z4649) (z4650) (l4651) (l4652) (l4653) (b4654) (z4655) (z4656) (z4657) (z4658) (z4659) (z4660) (z4661) (z4662) (z4663) (z4664) (z4665) (z4666) (z4667) (z4668) (z4669) (l4670) (b4671) (l4672) (z4673) (z4674) (z4675) (z4676) (z4677) (l4678) (l4679) (l4680))
        )
       )
      )
     )
     (fun h2 =>
     .auto 12 <|
     .testB (z4649 != 2)
      (fun h3 =>
      .auto 6 <|
      .ret (N57_r1.e0 (z4650 != 0) (z4649) (z4650) (l4651) (l4652) (l4653) (b4654) (z4655) (z4656) (z4657) (z4658) (z4659) (z4660) (z4661) (z4662) (z4663) (z4664) (z4665) (z4666) (z4667) (z4668) (z4669) (l4670) (b4671) (l4672) (z4673) (z4674) (z4675) (z4676) (z4677) (l4678) (l4679) (l4680))
      )
      (fun h3 =>
      .auto 5 <|
      .ret (N57_r1.e0 (false) (z4649) (z4650) (l4651) (l4652) (l4653) (b4654) (z4655) (z4656) (z4657) (z4658) (z4659) (z4660) (z4661) (z4662) (z4663) (z4664) (z4665) (z4666) (z4667) (z4668) (z4669) (l4670) (b4671) (l4672) (z4673) (z4674) (z4675) (z4676) (z4677) (l4678) (l4679) (l4680))
      )
     )
    )
   )
noncomputable def J57_r1 (z4649 : Int) (z4650 : Int) (l4651 : List (List V)) (l4652 : List (List V)) (l4653 : List (List V)) (b4654 : Bool) (z4655 : Int) (z4656 : Int) (z4657 : Int) (z4658 : Int) (z4659 : Int) (z4660 : Int) (z4661 : Int) (z4662 : Int) (z4663 : Int) (z4664 : Int) (z4665 : Int) (z4666 : Int) (z4667 : Int) (z4668 : Int) (z4669 : Int) (l4670 : List (List V)) (b4671 : Bool) (l4672 : List (List V)) (z4673 : Int) (z4674 : Int) (z4675 : Int) (z4676 : Int) (z4677 : Int) (l4678 : List (List V)) (l4679 : List (List V)) (l4680 : List (List V)) : Option N57_r1 := (D57_r1 z4649 z4650 l4651 l4652 l4653 b4654 z4655 z4656 z4657 z4658 z4659 z4660 z4661 z4662 z4663 z4664 z4665 z4666 z4667 z4668 z4669 l4670 b4671 l4672 z4673 z4674 z4675 z4676 z4677 l4678 l4679 l4680).ev some
theorem J57_r1_ok (z4649 : Int) (z4650 : Int) (l4651 : List (List V)) (l4652 : List (List V)) (l4653 : List (List V)) (b4654 : Bool) (z4655 : Int) (z4656 : Int) (z4657 : Int) (z4658 : Int) (z4659 : Int) (z4660 : Int) (z4661 : Int) (z4662 : Int) (z4663 : Int) (z4664 : Int) (z4665 : Int) (z4666 : Int) (z4667 : Int) (z4668 : Int) (z4669 : Int) (l4670 : List (List V)) (b4671 : Bool) (l4672 : List (List V)) (z4673 : Int) (z4674 : Int) (z4675 : Int) (z4676 : Int) (z4677 : Int) (l4678 : List (List V)) (l4679 : List (List V)) (l4680 : List (List V)) : ∀ b, J57_r1 z4649 z4650 l4651 l4652 l4653 b4654 z4655 z4656 z4657 z4658 z4659 z4660 z4661 z4662 z4663 z4664 z4665 z4666 z4667 z4668 z4669 l4670 b4671 l4672 z4673 z4674 z4675 z4676 z4677 l4678 l4679 l4680 = some b → regP Try.prog X CC 57 (0) B57 1 ({ T := U :: V.ptr 0 0 0 :: un 124 [], σ := [Ob.cells true false 32 [[i64 z4649, i64 z4650, V.list 7 l4651, V.list 7 l4652, V.list 8 l4653, vb b4654, i64 z4655, i64 z4656, u8 z4657, u8 z4658, u8 z4659, u8 z4660, u8 z4661, u8 z4662, u8 z4663, u8 z4664, i64 z4665, i64 z4666, i64 z4667, i64 z4668, i64 z4669, V.list 10 l4670, vb b4671, V.list 7 l4672, u8 z4673, u8 z4674, u8 z4675, u8 z4676, i64 z4677, V.list 1 l4678, V.list 7 l4679, V.list 7 l4680]]] }) = some (E57_r1.out b) :=
  reg_ok (E := E57_r1) (fun x => by kernel_rfl)
noncomputable def D57 (z4617 : Int) (z4618 : Int) (l4619 : List (List V)) (l4620 : List (List V)) (l4621 : List (List V)) (b4622 : Bool) (z4623 : Int) (z4624 : Int) (z4625 : Int) (z4626 : Int) (z4627 : Int) (z4628 : Int) (z4629 : Int) (z4630 : Int) (z4631 : Int) (z4632 : Int) (z4633 : Int) (z4634 : Int) (z4635 : Int) (z4636 : Int) (z4637 : Int) (l4638 : List (List V)) (b4639 : Bool) (l4640 : List (List V)) (z4641 : Int) (z4642 : Int) (z4643 : Int) (z4644 : Int) (z4645 : Int) (l4646 : List (List V)) (l4647 : List (List V)) (l4648 : List (List V)) : PT A57 :=
  .cut E57_r1 (J57_r1_ok (z4617) (z4618) (l4619) (l4620) (l4621) (b4622) (z4623) (z4624) (z4625) (z4626) (z4627) (z4628) (z4629) (z4630) (z4631) (z4632) (z4633) (z4634) (z4635) (z4636) (z4637) (l4638) (b4639) (l4640) (z4641) (z4642) (z4643) (z4644) (z4645) (l4646) (l4647) (l4648)) fun (r : N57_r1) => match r with
  | .e0 b5001 z5002 z5003 l5004 l5005 l5006 b5007 z5008 z5009 z5010 z5011 z5012 z5013 z5014 z5015 z5016 z5017 z5018 z5019 z5020 z5021 z5022 l5023 b5024 l5025 z5026 z5027 z5028 z5029 z5030 l5031 l5032 l5033 =>
   .testB (b5001)
    (fun h0 =>
    .ret (A57.a0 (false))
    )
    (fun h0 =>
    .cut E57_r3 (J57_r3_ok (z5002) (z5003) (l5004) (l5005) (l5006) (b5007) (z5008) (z5009) (z5010) (z5011) (z5012) (z5013) (z5014) (z5015) (z5016) (z5017) (z5018) (z5019) (z5020) (z5021) (z5022) (l5023) (b5024) (l5025) (z5026) (z5027) (z5028) (z5029) (z5030) (l5031) (l5032) (l5033)) fun (r : N57_r3) => match r with
    | .e0 b5037 z5038 z5039 l5040 l5041 l5042 b5043 z5044 z5045 z5046 z5047 z5048 z5049 z5050 z5051 z5052 z5053 z5054 z5055 z5056 z5057 z5058 l5059 b5060 l5061 z5062 z5063 z5064 z5065 z5066 l5067 l5068 l5069 =>
     .testB (b5037)
      (fun h1 =>
      .ret (A57.a0 (false))
      )
      (fun h1 =>
      .auto 1 <|
      .testB (z5044 == 0)
       (fun h2 =>
       .auto 7 <|
       .tot O90 (F90_ok (z5045) (z5046) (z5047) (z5048) (z5049) (z5050) (z5051) (z5052) (z5053) (z5054) (z5055) (z5056) (z5057) (z5058)) fun b5070 =>
       .auto 1 <|
       .testB (b5070)
        (fun h3 =>
        .auto 3 <|
        .ask E91 (F91_ok (l5059)) fun (r : A91) => match r with
        | .a0 b5071 =>
         .auto 1 <|
         .testB (b5071)
          (fun h4 =>
          .auto 3 <|
          .ask E89 (F89_ok (l5061)) fun (r : A89) => match r with
          | .a0 b5072 =>
           .auto 1 <|
           .testB (b5072)
            (fun h5 =>
            .auto 3 <|
            .ask E89 (F89_ok (l5068)) fun (r : A89) => match r with
            | .a0 b5073 =>
             .auto 1 <|
             .testB (b5073)
              (fun h6 =>
              .auto 3 <|
              .ask E89 (F89_ok (l5069)) fun (r : A89) => match r with
              | .a0 b5074 =>
               .auto 1 <|
               .testB (b5074)
                (fun h7 =>
                .auto 4 <|
                .testB (z5066 == 0)
                 (fun h8 =>
                 .auto 9 <|
                 .ask E92 (F92_ok (l5067)) fun (r : A92) => match r with
                 | .a0 b5075 =>
                  .auto 1 <|
                  .ret (A57.a0 (b5075))
                 )
                 (fun h8 =>
                 .auto 6 <|
                 .testB (z5066 == 1)
                  (fun h9 =>
                  .auto 3 <|
                  .ask E92 (F92_ok (l5067)) fun (r : A92) => match r with
                  | .a0 b5076 =>
                   .auto 1 <|
                   .ret (A57.a0 (b5076))
                  )
                  (fun h9 =>
                  .auto 3 <|
                  .ret (A57.a0 (false))
                  )
                 )
                )
                (fun h7 =>
                .auto 9 <|
                .ret (A57.a0 (false))
                )
              )
              (fun h6 =>
              .auto 13 <|
              .ret (A57.a0 (false))
              )
            )
            (fun h5 =>
            .auto 17 <|
            .ret (A57.a0 (false))
            )
          )
          (fun h4 =>
          .auto 21 <|
          .ret (A57.a0 (false))
          )
        )
        (fun h3 =>
        .auto 25 <|
        .ret (A57.a0 (false))
        )
       )
       (fun h2 =>
       .auto 4 <|
       .testB (z5044 == 1)
        (fun h3 =>
        .auto 3 <|
        .tot O90 (F90_ok (z5045) (z5046) (z5047) (z5048) (z5049) (z5050) (z5051) (z5052) (z5053) (z5054) (z5055) (z5056) (z5057) (z5058)) fun b5077 =>
        .auto 1 <|
        .testB (b5077)
         (fun h4 =>
         .auto 3 <|
         .ask E91 (F91_ok (l5059)) fun (r : A91) => match r with
         | .a0 b5078 =>
          .auto 1 <|
          .testB (b5078)
           (fun h5 =>
           .auto 3 <|
           .ask E89 (F89_ok (l5061)) fun (r : A89) => match r with
           | .a0 b5079 =>
            .auto 1 <|
            .testB (b5079)
             (fun h6 =>
             .auto 3 <|
             .ask E89 (F89_ok (l5068)) fun (r : A89) => match r with
             | .a0 b5080 =>
              .auto 1 <|
              .testB (b5080)
               (fun h7 =>
               .auto 3 <|
               .ask E89 (F89_ok (l5069)) fun (r : A89) => match r with
               | .a0 b5081 =>
                .auto 1 <|
                .testB (b5081)
                 (fun h8 =>
                 .auto 4 <|
                 .testB (z5066 == 0)
                  (fun h9 =>
                  .auto 9 <|
                  .ask E92 (F92_ok (l5067)) fun (r : A92) => match r with
                  | .a0 b5082 =>
                   .auto 1 <|
                   .ret (A57.a0 (b5082))
                  )
                  (fun h9 =>
                  .auto 6 <|
                  .testB (z5066 == 1)
                   (fun h10 =>
                   .auto 3 <|
                   .ask E92 (F92_ok (l5067)) fun (r : A92) => match r with
                   | .a0 b5083 =>
                    .auto 1 <|
                    .ret (A57.a0 (b5083))
                   )
                   (fun h10 =>
                   .auto 3 <|
                   .ret (A57.a0 (false))
                   )
                  )
                 )
                 (fun h8 =>
                 .auto 9 <|
                 .ret (A57.a0 (false))
                 )
               )
               (fun h7 =>
               .auto 13 <|
               .ret (A57.a0 (false))
               )
             )
             (fun h6 =>
             .auto 17 <|
             .ret (A57.a0 (false))
             )
           )
           (fun h5 =>
           .auto 21 <|
           .ret (A57.a0 (false))
           )
         )
         (fun h4 =>
         .auto 25 <|
         .ret (A57.a0 (false))
         )
        )
        (fun h3 =>
        .auto 29 <|
        .ret (A57.a0 (false))
        )
       )
      )
    )
noncomputable def F57 (z4617 : Int) (z4618 : Int) (l4619 : List (List V)) (l4620 : List (List V)) (l4621 : List (List V)) (b4622 : Bool) (z4623 : Int) (z4624 : Int) (z4625 : Int) (z4626 : Int) (z4627 : Int) (z4628 : Int) (z4629 : Int) (z4630 : Int) (z4631 : Int) (z4632 : Int) (z4633 : Int) (z4634 : Int) (z4635 : Int) (z4636 : Int) (z4637 : Int) (l4638 : List (List V)) (b4639 : Bool) (l4640 : List (List V)) (z4641 : Int) (z4642 : Int) (z4643 : Int) (z4644 : Int) (z4645 : Int) (l4646 : List (List V)) (l4647 : List (List V)) (l4648 : List (List V)) : Option A57 := (D57 z4617 z4618 l4619 l4620 l4621 b4622 z4623 z4624 z4625 z4626 z4627 z4628 z4629 z4630 z4631 z4632 z4633 z4634 z4635 z4636 z4637 l4638 b4639 l4640 z4641 z4642 z4643 z4644 z4645 l4646 l4647 l4648).ev some
theorem F57_ok (z4617 : Int) (z4618 : Int) (l4619 : List (List V)) (l4620 : List (List V)) (l4621 : List (List V)) (b4622 : Bool) (z4623 : Int) (z4624 : Int) (z4625 : Int) (z4626 : Int) (z4627 : Int) (z4628 : Int) (z4629 : Int) (z4630 : Int) (z4631 : Int) (z4632 : Int) (z4633 : Int) (z4634 : Int) (z4635 : Int) (z4636 : Int) (z4637 : Int) (l4638 : List (List V)) (b4639 : Bool) (l4640 : List (List V)) (z4641 : Int) (z4642 : Int) (z4643 : Int) (z4644 : Int) (z4645 : Int) (l4646 : List (List V)) (l4647 : List (List V)) (l4648 : List (List V)) : ∀ b, F57 z4617 z4618 l4619 l4620 l4621 b4622 z4623 z4624 z4625 z4626 z4627 z4628 z4629 z4630 z4631 z4632 z4633 z4634 z4635 z4636 z4637 l4638 b4639 l4640 z4641 z4642 z4643 z4644 z4645 l4646 l4647 l4648 = some b → UU 57 ([V.agg [i64 z4617, i64 z4618, V.list 7 l4619, V.list 7 l4620, V.list 8 l4621, vb b4622, i64 z4623, i64 z4624, u8 z4625, u8 z4626, u8 z4627, u8 z4628, u8 z4629, u8 z4630, u8 z4631, u8 z4632, i64 z4633, i64 z4634, i64 z4635, i64 z4636, i64 z4637, V.list 10 l4638, vb b4639, V.list 7 l4640, u8 z4641, u8 z4642, u8 z4643, u8 z4644, i64 z4645, V.list 1 l4646, V.list 7 l4647, V.list 7 l4648]]) ([]) = some (A57.out b) :=
  fn_ok (E := E57) (L := notIn []) rfl rfl (fun x => by kernel_rfl)
/-! ## F117 -/
noncomputable abbrev B117 : Code := (Try.f117.body).getD .skip
inductive N117_0 where
  | s0 (l5130 : List (List V)) (z5131 : Int) (z5132 : Int) (z5133 : Int)
  | e0 (z5136 : Int)
@[reducible] def N117_0.out : N117_0 → VX × S
  | .s0 l5130 z5131 z5132 z5133 => (VX.normal, { T := V.list 7 l5130 :: i64 z5131 :: U :: U :: U :: i64 z5132 :: i64 z5133 :: un 15 [], σ := [] })
  | .e0 z5136 => (VX.exit 0, { T := un 5 (i64 z5136 :: un 16 []), σ := [] })
def N117_0.ex (g : N117_0 → Prop) : Prop := (∃ (l5130 : List (List V)) (z5131 : Int) (z5132 : Int) (z5133 : Int), g (.s0 l5130 z5131 z5132 z5133)) ∨ (∃ (z5136 : Int), g (.e0 z5136))
theorem N117_0.ok (g : N117_0 → Prop) : N117_0.ex g ↔ ∃ b, g b := ⟨fun h => match h with
  | .inl ⟨_, _, _, _, h⟩ => ⟨_, h⟩
  | .inr (⟨_, h⟩) => ⟨_, h⟩, fun ⟨b, h⟩ => match b, h with
  | .s0 _ _ _ _, h => .inl ⟨_, _, _, _, h⟩
  | .e0 _, h => .inr (⟨_, h⟩)⟩
abbrev E117_0 : Ent (VX × S) := ⟨N117_0, N117_0.out, N117_0.ex, N117_0.ok⟩
noncomputable def D117_0 (l5130 : List (List V)) (z5131 : Int) (z5132 : Int) (z5133 : Int) : PT N117_0 :=
  .test (z5133 < (↑(List.length l5130) : Int))
   (fun h0 =>
   .test (0 ≤ z5133)
    (fun h1 =>
    .look RW61 (l5130[Int.toNat z5133]?) fun e5138 =>
    .test (e5138.c0 ≤ z5131)
     (fun h2 =>
     .ret (N117_0.s0 (l5130) (z5131) (z5133) (w64 (z5133 + 1)))
     )
     (fun h2 =>
     .ret (N117_0.s0 (l5130) (z5131) (z5132) (w64 (z5133 + 1)))
     )
    )
    (fun _ => .fail) -- none
   )
   (fun h0 =>
   .ret (N117_0.e0 (z5132))
   )
noncomputable def S117_0 : N117_0 → PT N117_0
  | .s0 l5130 z5131 z5132 z5133 => D117_0 l5130 z5131 z5132 z5133
  | _ => .fail
def N117_0.off : N117_0 → Bool
  | .s0 _ _ _ _ => false
  | _ => true
noncomputable def L117_0 (n : Nat) (b : N117_0) : Option N117_0 := PT.loop (S117_0) N117_0.off n b
theorem L117_0_ok : ∀ (n : Nat) (b : N117_0), N117_0.off b = false → ∀ c, L117_0 n b = some c → loopP Try.prog X CC 117 (0) 18446744073709551616 B117 0 n (E117_0.out b).2 = some (E117_0.out c) :=
  loop_ok (E := E117_0) (step := S117_0) (L := notIn []) (fun b hb => by cases b <;> first | (cases hb; done) | (intro x; kernel_rfl)) (fun b => by cases b <;> rfl)
noncomputable def N117_0.nx (n : Nat) (c : N117_0) : Option N117_0 := match N117_0.off c with
  | true => some c
  | false => L117_0 n c
theorem L117_0_s0 (n : Nat) (l5130 : List (List V)) (z5131 : Int) (z5132 : Int) (z5133 : Int) : L117_0 (n + 1) (.s0 l5130 z5131 z5132 z5133) = (D117_0 l5130 z5131 z5132 z5133).ev (N117_0.nx n) := rfl
theorem N117_0.nx_s0 (n : Nat) (l5130 : List (List V)) (z5131 : Int) (z5132 : Int) (z5133 : Int) : N117_0.nx n (.s0 l5130 z5131 z5132 z5133) = L117_0 n (.s0 l5130 z5131 z5132 z5133) := rfl
theorem N117_0.nx_e0 (n : Nat) (z5136 : Int) : N117_0.nx n (.e0 z5136) = some (.e0 z5136) := rfl
noncomputable def D117 (l5125 : List (List V)) (z5126 : Int) : PT A117 :=
  .cut E117_0 (L117_0_ok 18446744073709551616 (.s0 (l5125) (z5126) (-1) (0)) rfl) fun (r : N117_0) => match r with
  | .e0 z5139 =>
   .ret (A117.a0 (z5139))
  | _ => .fail
noncomputable def F117 (l5125 : List (List V)) (z5126 : Int) : Option A117 := (D117 l5125 z5126).ev some
theorem F117_ok (l5125 : List (List V)) (z5126 : Int) : ∀ b, F117 l5125 z5126 = some b → UU 117 ([V.list 7 l5125, i64 z5126]) ([]) = some (A117.out b) :=
  fn_ok (E := E117) (L := notIn []) rfl rfl (fun x => by kernel_rfl)
/-! ## F93 -/
noncomputable def D93 (l5121 : List (List V)) (z5122 : Int) (z5123 : Int) : PT A93 :=
  .testB ((↑(List.length l5121) : Int) == 0)
   (fun h0 =>
   .ret (A93.a0 (z5123))
   )
   (fun h0 =>
   .ask E117 (F117_ok (l5121) (z5122)) fun (r : A117) => match r with
   | .a0 z5140 =>
    .test (z5140 < 0)
     (fun h1 =>
     .auto 1 <|
     .look RW61 (l5121[(0 : Nat)]?) fun e5141 =>
     .ret (A93.a0 (e5141.c1))
     )
     (fun h1 =>
     .testB (z5140 == w64 ((↑(List.length l5121) : Int) - 1))
      (fun h2 =>
      .test (0 ≤ z5140)
       (fun h3 =>
       .look RW61 (l5121[Int.toNat z5140]?) fun e5142 =>
       .ret (A93.a0 (e5142.c1))
       )
       (fun _ => .fail) -- none
      )
      (fun h2 =>
      .test (0 ≤ z5140)
       (fun h3 =>
       .look RW61 (l5121[Int.toNat z5140]?) fun e5143 =>
       .test (0 ≤ w64 (z5140 + 1))
        (fun h4 =>
        .look RW61 (l5121[Int.toNat (w64 (z5140 + (1 : Int)))]?) fun e5144 =>
        .known (decide_eq_true h3) <|
        .look RW61 (l5121[Int.toNat z5140]?) fun e5145 =>
        .known (decide_eq_true h3) <|
        .look RW61 (l5121[Int.toNat z5140]?) fun e5146 =>
        .known (decide_eq_true h3) <|
        .look RW61 (l5121[Int.toNat z5140]?) fun e5147 =>
        .known (decide_eq_true h4) <|
        .look RW61 (l5121[Int.toNat (w64 (z5140 + (1 : Int)))]?) fun e5148 =>
        .ask E74 (F74_ok (e5147.c0) (e5148.c0) (z5122)) fun (r : A74) => match r with
        | .a0 z5149 =>
         .ask E73 (F73_ok (e5145.c2) (e5146.c3) (e5146.c4) (e5146.c5) (e5146.c6) (z5149)) fun (r : A73) => match r with
         | .a0 z5150 =>
          .ask E67 (F67_ok (e5143.c1) (e5144.c1) (z5150)) fun (r : A67) => match r with
          | .a0 z5151 =>
           .ret (A93.a0 (z5151))
        )
        (fun _ => .fail) -- none
       )
       (fun _ => .fail) -- none
      )
     )
   )
noncomputable def F93 (l5121 : List (List V)) (z5122 : Int) (z5123 : Int) : Option A93 := (D93 l5121 z5122 z5123).ev some
theorem F93_ok (l5121 : List (List V)) (z5122 : Int) (z5123 : Int) : ∀ b, F93 l5121 z5122 z5123 = some b → UU 93 ([V.list 7 l5121, i64 z5122, i64 z5123]) ([]) = some (A93.out b) :=
  fn_ok (E := E93) (L := notIn []) rfl rfl (fun x => by kernel_rfl)
/-! ## F58 -/
noncomputable def D58 (z5088 : Int) (z5089 : Int) (l5090 : List (List V)) (l5091 : List (List V)) (l5092 : List (List V)) (b5093 : Bool) (z5094 : Int) (z5095 : Int) (z5096 : Int) (z5097 : Int) (z5098 : Int) (z5099 : Int) (z5100 : Int) (z5101 : Int) (z5102 : Int) (z5103 : Int) (z5104 : Int) (z5105 : Int) (z5106 : Int) (z5107 : Int) (z5108 : Int) (l5109 : List (List V)) (b5110 : Bool) (l5111 : List (List V)) (z5112 : Int) (z5113 : Int) (z5114 : Int) (z5115 : Int) (z5116 : Int) (l5117 : List (List V)) (l5118 : List (List V)) (l5119 : List (List V)) (z5120 : Int) : PT A58 :=
  .auto 1 <|
  .ask E93 (F93_ok (l5090) (z5120) (0)) fun (r : A93) => match r with
  | .a0 z5152 =>
   .auto 1 <|
   .ask E93 (F93_ok (l5091) (z5120) (0)) fun (r : A93) => match r with
   | .a0 z5153 =>
    .auto 1 <|
    .testB (z5088 == 0)
     (fun h0 =>
     .ask E54 (F54_ok (z5152) (z5153)) fun (r : A54) => match r with
     | .a0 b5154 k5155 l5156 =>
      .auto 1 <|
      .ret (A58.a0 (b5154) (k5155) (l5156))
     )
     (fun h0 =>
     .testB (z5088 == 1)
      (fun h1 =>
      .ask E55 (F55_ok (z5152) (z5153)) fun (r : A55) => match r with
      | .a0 b5160 k5161 l5162 =>
       .auto 1 <|
       .ret (A58.a0 (b5160) (k5161) (l5162))
      )
      (fun h1 =>
      .testB (z5088 == 2)
       (fun h2 =>
       .auto 1 <|
       .ask E56 (F56_ok (z5089) (z5152) (z5153)) fun (r : A56) => match r with
       | .a0 b5163 k5164 l5165 =>
        .auto 1 <|
        .ret (A58.a0 (b5163) (k5164) (l5165))
       )
       (fun h2 =>
       .testB (z5088 == 3)
        (fun h3 =>
        .auto 1 <|
        .ask E36 (F36_ok (l5092) (z5120)) fun (r : A36) => match r with
        | .a0 b5166 k5167 l5168 =>
         .auto 1 <|
         .ret (A58.a0 (b5166) (k5167) (l5168))
        )
        (fun h3 =>
        .auto 1 <|
        .ret (A58.a0 (false) (0) ([]))
        )
       )
      )
     )
noncomputable def F58 (z5088 : Int) (z5089 : Int) (l5090 : List (List V)) (l5091 : List (List V)) (l5092 : List (List V)) (b5093 : Bool) (z5094 : Int) (z5095 : Int) (z5096 : Int) (z5097 : Int) (z5098 : Int) (z5099 : Int) (z5100 : Int) (z5101 : Int) (z5102 : Int) (z5103 : Int) (z5104 : Int) (z5105 : Int) (z5106 : Int) (z5107 : Int) (z5108 : Int) (l5109 : List (List V)) (b5110 : Bool) (l5111 : List (List V)) (z5112 : Int) (z5113 : Int) (z5114 : Int) (z5115 : Int) (z5116 : Int) (l5117 : List (List V)) (l5118 : List (List V)) (l5119 : List (List V)) (z5120 : Int) : Option A58 := (D58 z5088 z5089 l5090 l5091 l5092 b5093 z5094 z5095 z5096 z5097 z5098 z5099 z5100 z5101 z5102 z5103 z5104 z5105 z5106 z5107 z5108 l5109 b5110 l5111 z5112 z5113 z5114 z5115 z5116 l5117 l5118 l5119 z5120).ev some
theorem F58_ok (z5088 : Int) (z5089 : Int) (l5090 : List (List V)) (l5091 : List (List V)) (l5092 : List (List V)) (b5093 : Bool) (z5094 : Int) (z5095 : Int) (z5096 : Int) (z5097 : Int) (z5098 : Int) (z5099 : Int) (z5100 : Int) (z5101 : Int) (z5102 : Int) (z5103 : Int) (z5104 : Int) (z5105 : Int) (z5106 : Int) (z5107 : Int) (z5108 : Int) (l5109 : List (List V)) (b5110 : Bool) (l5111 : List (List V)) (z5112 : Int) (z5113 : Int) (z5114 : Int) (z5115 : Int) (z5116 : Int) (l5117 : List (List V)) (l5118 : List (List V)) (l5119 : List (List V)) (z5120 : Int) : ∀ b, F58 z5088 z5089 l5090 l5091 l5092 b5093 z5094 z5095 z5096 z5097 z5098 z5099 z5100 z5101 z5102 z5103 z5104 z5105 z5106 z5107 z5108 l5109 b5110 l5111 z5112 z5113 z5114 z5115 z5116 l5117 l5118 l5119 z5120 = some b → UU 58 ([V.agg [i64 z5088, i64 z5089, V.list 7 l5090, V.list 7 l5091, V.list 8 l5092, vb b5093, i64 z5094, i64 z5095, u8 z5096, u8 z5097, u8 z5098, u8 z5099, u8 z5100, u8 z5101, u8 z5102, u8 z5103, i64 z5104, i64 z5105, i64 z5106, i64 z5107, i64 z5108, V.list 10 l5109, vb b5110, V.list 7 l5111, u8 z5112, u8 z5113, u8 z5114, u8 z5115, i64 z5116, V.list 1 l5117, V.list 7 l5118, V.list 7 l5119], i64 z5120]) ([]) = some (A58.out b) :=
  fn_ok (E := E58) (L := notIn []) rfl rfl (fun x => by kernel_rfl)
/-! ## F22 -/
noncomputable def D22 (z4583 : Int) (z4584 : Int) (l4585 : List (List V)) (l4586 : List (List V)) (l4587 : List (List V)) (b4588 : Bool) (z4589 : Int) (z4590 : Int) (z4591 : Int) (z4592 : Int) (z4593 : Int) (z4594 : Int) (z4595 : Int) (z4596 : Int) (z4597 : Int) (z4598 : Int) (z4599 : Int) (z4600 : Int) (z4601 : Int) (z4602 : Int) (z4603 : Int) (l4604 : List (List V)) (b4605 : Bool) (l4606 : List (List V)) (z4607 : Int) (z4608 : Int) (z4609 : Int) (z4610 : Int) (z4611 : Int) (l4612 : List (List V)) (l4613 : List (List V)) (l4614 : List (List V)) (z4615 : Int) : PT A22 :=
  .auto 1 <|
  .ask E17 (F17_ok (z4583) (z4584) (l4585) (l4586) (l4587) (b4588) (z4589) (z4590) (z4591) (z4592) (z4593) (z4594) (z4595) (z4596) (z4597) (z4598) (z4599) (z4600) (z4601) (z4602) (z4603) (l4604) (b4605) (l4606) (z4607) (z4608) (z4609) (z4610) (z4611) (l4612) (l4613) (l4614)) fun (r : A17) => match r with
  | .a0 b4616 =>
   .auto 1 <|
   .ask E57 (F57_ok (z4583) (z4584) (l4585) (l4586) (l4587) (b4588) (z4589) (z4590) (z4591) (z4592) (z4593) (z4594) (z4595) (z4596) (z4597) (z4598) (z4599) (z4600) (z4601) (z4602) (z4603) (l4604) (b4605) (l4606) (z4607) (z4608) (z4609) (z4610) (z4611) (l4612) (l4613) (l4614)) fun (r : A57) => match r with
   | .a0 b5084 =>
    .testB (b4616 == b5084)
     (fun h0 =>
     .auto 3 <|
     .ask E16 (F16_ok (z4583) (z4584) (l4585) (l4586) (l4587) (b4588) (z4589) (z4590) (z4591) (z4592) (z4593) (z4594) (z4595) (z4596) (z4597) (z4598) (z4599) (z4600) (z4601) (z4602) (z4603) (l4604) (b4605) (l4606) (z4607) (z4608) (z4609) (z4610) (z4611) (l4612) (l4613) (l4614) (z4615)) fun (r : A16) => match r with
     | .a0 b5085 k5086 l5087 =>
      .auto 4 <|
      .ask E58 (F58_ok (z4583) (z4584) (l4585) (l4586) (l4587) (b4588) (z4589) (z4590) (z4591) (z4592) (z4593) (z4594) (z4595) (z4596) (z4597) (z4598) (z4599) (z4600) (z4601) (z4602) (z4603) (l4604) (b4605) (l4606) (z4607) (z4608) (z4609) (z4610) (z4611) (l4612) (l4613) (l4614) (z4615)) fun (r : A58) => match r with
      | .a0 b5169 k5170 l5171 =>
       .auto 1 <|
       .test (0 + k5086 ≤ List.length l5087)
        (fun h1 =>
        .test (0 + k5170 ≤ List.length l5171)
         (fun h2 =>
         .ask E20 (F20_ok (b5085) (List.take k5086 l5087) (b5169) (List.take k5170 l5171)) fun (r : A20) => match r with
         | .a0 b5172 =>
          .auto 1 <|
          .ret (A22.a0 (b5172))
         )
         (fun _ => .fail) -- none
        )
        (fun _ => .fail) -- none
     )
     (fun h0 =>
     .auto 7 <|
     .ret (A22.a0 (false))
     )
noncomputable def F22 (z4583 : Int) (z4584 : Int) (l4585 : List (List V)) (l4586 : List (List V)) (l4587 : List (List V)) (b4588 : Bool) (z4589 : Int) (z4590 : Int) (z4591 : Int) (z4592 : Int) (z4593 : Int) (z4594 : Int) (z4595 : Int) (z4596 : Int) (z4597 : Int) (z4598 : Int) (z4599 : Int) (z4600 : Int) (z4601 : Int) (z4602 : Int) (z4603 : Int) (l4604 : List (List V)) (b4605 : Bool) (l4606 : List (List V)) (z4607 : Int) (z4608 : Int) (z4609 : Int) (z4610 : Int) (z4611 : Int) (l4612 : List (List V)) (l4613 : List (List V)) (l4614 : List (List V)) (z4615 : Int) : Option A22 := (D22 z4583 z4584 l4585 l4586 l4587 b4588 z4589 z4590 z4591 z4592 z4593 z4594 z4595 z4596 z4597 z4598 z4599 z4600 z4601 z4602 z4603 l4604 b4605 l4606 z4607 z4608 z4609 z4610 z4611 l4612 l4613 l4614 z4615).ev some
theorem F22_ok (z4583 : Int) (z4584 : Int) (l4585 : List (List V)) (l4586 : List (List V)) (l4587 : List (List V)) (b4588 : Bool) (z4589 : Int) (z4590 : Int) (z4591 : Int) (z4592 : Int) (z4593 : Int) (z4594 : Int) (z4595 : Int) (z4596 : Int) (z4597 : Int) (z4598 : Int) (z4599 : Int) (z4600 : Int) (z4601 : Int) (z4602 : Int) (z4603 : Int) (l4604 : List (List V)) (b4605 : Bool) (l4606 : List (List V)) (z4607 : Int) (z4608 : Int) (z4609 : Int) (z4610 : Int) (z4611 : Int) (l4612 : List (List V)) (l4613 : List (List V)) (l4614 : List (List V)) (z4615 : Int) : ∀ b, F22 z4583 z4584 l4585 l4586 l4587 b4588 z4589 z4590 z4591 z4592 z4593 z4594 z4595 z4596 z4597 z4598 z4599 z4600 z4601 z4602 z4603 l4604 b4605 l4606 z4607 z4608 z4609 z4610 z4611 l4612 l4613 l4614 z4615 = some b → UU 22 ([V.agg [i64 z4583, i64 z4584, V.list 7 l4585, V.list 7 l4586, V.list 8 l4587, vb b4588, i64 z4589, i64 z4590, u8 z4591, u8 z4592, u8 z4593, u8 z4594, u8 z4595, u8 z4596, u8 z4597, u8 z4598, i64 z4599, i64 z4600, i64 z4601, i64 z4602, i64 z4603, V.list 10 l4604, vb b4605, V.list 7 l4606, u8 z4607, u8 z4608, u8 z4609, u8 z4610, i64 z4611, V.list 1 l4612, V.list 7 l4613, V.list 7 l4614], i64 z4615]) ([]) = some (A22.out b) :=
  fn_ok (E := E22) (L := notIn []) rfl rfl (fun x => by kernel_rfl)
/-! ## F7 -/
noncomputable abbrev B7 : Code := (Try.f7.body).getD .skip
inductive N7_c99 where
  | e0 (z5257 : Int) (z5258 : Int) (k5259 : Nat) (k5260 : Nat) (l5261 : List (List V)) (l5262 : List (List V))
@[reducible] def N7_c99.out : N7_c99 → VX × S
  | .e0 z5257 z5258 k5259 k5260 l5261 l5262 => (VX.normal, { T := un 4 (i64 z5257 :: V.ptr 0 0 0 :: un 107 []), σ := [Ob.cells true false 32 [[i64 z5258, i64 0, V.hs 1 0 0, V.hs 2 0 0, V.hs 3 0 0, vb false, i64 0, i64 0, u8 0, u8 0, u8 0, u8 0, u8 0, u8 0, u8 0, u8 0, i64 0, i64 0, i64 0, i64 0, i64 0, V.hs 4 0 0, vb false, V.hs 5 0 k5259, u8 0, u8 0, u8 0, u8 0, i64 0, V.hs 6 0 0, V.hs 7 0 0, V.hs 8 0 k5260]], Ob.cells true true 7 [], Ob.cells true true 7 [], Ob.cells true true 8 [], Ob.cells true true 10 [], Ob.cells true true 7 l5261, Ob.cells true true 1 [], Ob.cells true true 7 [], Ob.cells true true 7 l5262] })
def N7_c99.ex (g : N7_c99 → Prop) : Prop := (∃ (z5257 : Int) (z5258 : Int) (k5259 : Nat) (k5260 : Nat) (l5261 : List (List V)) (l5262 : List (List V)), g (.e0 z5257 z5258 k5259 k5260 l5261 l5262))
theorem N7_c99.ok (g : N7_c99 → Prop) : N7_c99.ex g ↔ ∃ b, g b := ⟨fun h => match h with
  | ⟨_, _, _, _, _, _, h⟩ => ⟨_, h⟩, fun ⟨b, h⟩ => match b, h with
  | .e0 _ _ _ _ _ _, h => ⟨_, _, _, _, _, _, h⟩⟩
abbrev E7_c99 : Ent (VX × S) := ⟨N7_c99, N7_c99.out, N7_c99.ex, N7_c99.ok⟩
noncomputable def D7_c99 (z5246 : Int) (b5247 : Bool) (z5248 : Int) : PT N7_c99 :=
  .testB (b5247)
   (fun h0 =>
   .auto 1 <|
   .ret (N7_c99.e0 (z5246) (0) (1) (0) ([[i64 0, i64 0, i64 5, i64 0, i64 0, i64 0, i64 0]]) ([]))
   )
   (fun h0 =>
   .testB (z5246 == 21)
    (fun h1 =>
    .auto 1 <|
    .ret (N7_c99.e0 (z5246) (0) (0) (1) ([]) ([[i64 0, i64 67108865, i64 0, i64 0, i64 0, i64 0, i64 0]]))
    )
    (fun h1 =>
    .ret (N7_c99.e0 (z5246) (z5248) (0) (0) ([]) ([]))
    )
   )
noncomputable def J7_c99 (z5246 : Int) (b5247 : Bool) (z5248 : Int) : Option N7_c99 := (D7_c99 z5246 b5247 z5248).ev some
theorem J7_c99_ok (z5246 : Int) (b5247 : Bool) (z5248 : Int) : ∀ b, J7_c99 z5246 b5247 z5248 = some b → condP Try.prog X CC 7 (0) 18446744073709551616 B7 99 ({ T := un 4 (i64 z5246 :: V.ptr 0 0 0 :: un 26 (i64 z5246 :: un 66 (vb b5247 :: un 13 []))), σ := [Ob.cells true false 32 [[i64 z5248, i64 0, V.hs 1 0 0, V.hs 2 0 0, V.hs 3 0 0, vb false, i64 0, i64 0, u8 0, u8 0, u8 0, u8 0, u8 0, u8 0, u8 0, u8 0, i64 0, i64 0, i64 0, i64 0, i64 0, V.hs 4 0 0, vb false, V.hs 5 0 0, u8 0, u8 0, u8 0, u8 0, i64 0, V.hs 6 0 0, V.hs 7 0 0, V.hs 8 0 0]], Ob.cells true true 7 [], Ob.cells true true 7 [], Ob.cells true true 8 [], Ob.cells true true 10 [], Ob.cells true true 7 [], Ob.cells true true 1 [], Ob.cells true true 7 [], Ob.cells true true 7 []] }) = some (E7_c99.out b) :=
  cond_ok (E := E7_c99) (L := notIn []) (fun x => by kernel_rfl)
inductive N7_c89 where
  | e0 (z5269 : Int) (z5270 : Int) (k5271 : Nat) (k5272 : Nat) (k5273 : Nat) (k5274 : Nat) (l5275 : List (List V)) (l5276 : List (List V)) (l5277 : List (List V)) (l5278 : List (List V))
@[reducible] def N7_c89.out : N7_c89 → VX × S
  | .e0 z5269 z5270 k5271 k5272 k5273 k5274 l5275 l5276 l5277 l5278 => (VX.normal, { T := un 4 (i64 z5269 :: V.ptr 0 0 0 :: un 107 []), σ := [Ob.cells true false 32 [[i64 z5270, i64 0, V.hs 1 0 0, V.hs 2 0 0, V.hs 3 0 0, vb false, i64 0, i64 0, u8 0, u8 0, u8 0, u8 0, u8 0, u8 0, u8 0, u8 0, i64 0, i64 0, i64 0, i64 0, i64 0, V.hs 4 0 k5271, vb false, V.hs 5 0 k5272, u8 0, u8 0, u8 0, u8 0, i64 0, V.hs 6 0 k5273, V.hs 7 0 0, V.hs 8 0 k5274]], Ob.cells true true 7 [], Ob.cells true true 7 [], Ob.cells true true 8 [], Ob.cells true true 10 l5275, Ob.cells true true 7 l5276, Ob.cells true true 1 l5277, Ob.cells true true 7 [], Ob.cells true true 7 l5278] })
def N7_c89.ex (g : N7_c89 → Prop) : Prop := (∃ (z5269 : Int) (z5270 : Int) (k5271 : Nat) (k5272 : Nat) (k5273 : Nat) (k5274 : Nat) (l5275 : List (List V)) (l5276 : List (List V)) (l5277 : List (List V)) (l5278 : List (List V)), g (.e0 z5269 z5270 k5271 k5272 k5273 k5274 l5275 l5276 l5277 l5278))
theorem N7_c89.ok (g : N7_c89 → Prop) : N7_c89.ex g ↔ ∃ b, g b := ⟨fun h => match h with
  | ⟨_, _, _, _, _, _, _, _, _, _, h⟩ => ⟨_, h⟩, fun ⟨b, h⟩ => match b, h with
  | .e0 _ _ _ _ _ _ _ _ _ _, h => ⟨_, _, _, _, _, _, _, _, _, _, h⟩⟩
abbrev E7_c89 : Ent (VX × S) := ⟨N7_c89, N7_c89.out, N7_c89.ex, N7_c89.ok⟩
noncomputable def D7_c89 (z5235 : Int) (b5236 : Bool) (z5237 : Int) : PT N7_c89 :=
  .testB (b5236)
   (fun h0 =>
   .auto 1 <|
   .ret (N7_c89.e0 (z5235) (0) (0) (0) (1) (0) ([]) ([]) ([[i64 1]]) ([]))
   )
   (fun h0 =>
   .testB (z5235 == 19)
    (fun h1 =>
    .auto 1 <|
    .ret (N7_c89.e0 (z5235) (0) (2) (0) (0) (0) ([[i64 1, u8 0, u8 0, u8 0, u8 0, i64 0, i64 0, i64 0, i64 0, i64 0], [i64 0, u8 0, u8 0, u8 0, u8 0, i64 0, i64 0, i64 0, i64 0, i64 0]]) ([]) ([]) ([]))
    )
    (fun h1 =>
    .cut E7_c99 (J7_c99_ok (z5235) (z5235 == 20) (z5237)) fun (r : N7_c99) => match r with
    | .e0 z5492 z5493 k5494 k5495 l5496 l5497 =>
     .ret (N7_c89.e0 (z5492) (z5493) (0) (k5494) (0) (k5495) ([]) (l5496) ([]) (l5497))
    )
   )
noncomputable def J7_c89 (z5235 : Int) (b5236 : Bool) (z5237 : Int) : Option N7_c89 := (D7_c89 z5235 b5236 z5237).ev some
theorem J7_c89_ok (z5235 : Int) (b5236 : Bool) (z5237 : Int) : ∀ b, J7_c89 z5235 b5236 z5237 = some b → condP Try.prog X CC 7 (0) 18446744073709551616 B7 89 ({ T := un 4 (i64 z5235 :: V.ptr 0 0 0 :: un 26 (i64 z5235 :: un 56 (vb b5236 :: un 23 []))), σ := [Ob.cells true false 32 [[i64 z5237, i64 0, V.hs 1 0 0, V.hs 2 0 0, V.hs 3 0 0, vb false, i64 0, i64 0, u8 0, u8 0, u8 0, u8 0, u8 0, u8 0, u8 0, u8 0, i64 0, i64 0, i64 0, i64 0, i64 0, V.hs 4 0 0, vb false, V.hs 5 0 0, u8 0, u8 0, u8 0, u8 0, i64 0, V.hs 6 0 0, V.hs 7 0 0, V.hs 8 0 0]], Ob.cells true true 7 [], Ob.cells true true 7 [], Ob.cells true true 8 [], Ob.cells true true 10 [], Ob.cells true true 7 [], Ob.cells true true 1 [], Ob.cells true true 7 [], Ob.cells true true 7 []] }) = some (E7_c89.out b) :=
  cond_ok (E := E7_c89) (L := notIn []) (fun x => by kernel_rfl)
inductive N7_c82 where
  | e0 (z5289 : Int) (z5290 : Int) (z5291 : Int) (k5292 : Nat) (k5293 : Nat) (z5294 : Int) (k5295 : Nat) (k5296 : Nat) (l5297 : List (List V)) (l5298 : List (List V)) (l5299 : List (List V)) (l5300 : List (List V))
@[reducible] def N7_c82.out : N7_c82 → VX × S
  | .e0 z5289 z5290 z5291 k5292 k5293 z5294 k5295 k5296 l5297 l5298 l5299 l5300 => (VX.normal, { T := un 4 (i64 z5289 :: V.ptr 0 0 0 :: un 107 []), σ := [Ob.cells true false 32 [[i64 z5290, i64 0, V.hs 1 0 0, V.hs 2 0 0, V.hs 3 0 0, vb false, i64 0, i64 0, u8 0, u8 0, u8 0, u8 0, u8 0, u8 0, u8 0, u8 0, i64 0, i64 0, i64 0, i64 0, i64 z5291, V.hs 4 0 k5292, vb false, V.hs 5 0 k5293, u8 0, u8 0, u8 0, u8 0, i64 z5294, V.hs 6 0 k5295, V.hs 7 0 0, V.hs 8 0 k5296]], Ob.cells true true 7 [], Ob.cells true true 7 [], Ob.cells true true 8 [], Ob.cells true true 10 l5297, Ob.cells true true 7 l5298, Ob.cells true true 1 l5299, Ob.cells true true 7 [], Ob.cells true true 7 l5300] })
def N7_c82.ex (g : N7_c82 → Prop) : Prop := (∃ (z5289 : Int) (z5290 : Int) (z5291 : Int) (k5292 : Nat) (k5293 : Nat) (z5294 : Int) (k5295 : Nat) (k5296 : Nat) (l5297 : List (List V)) (l5298 : List (List V)) (l5299 : List (List V)) (l5300 : List (List V)), g (.e0 z5289 z5290 z5291 k5292 k5293 z5294 k5295 k5296 l5297 l5298 l5299 l5300))
theorem N7_c82.ok (g : N7_c82 → Prop) : N7_c82.ex g ↔ ∃ b, g b := ⟨fun h => match h with
  | ⟨_, _, _, _, _, _, _, _, _, _, _, _, h⟩ => ⟨_, h⟩, fun ⟨b, h⟩ => match b, h with
  | .e0 _ _ _ _ _ _ _ _ _ _ _ _, h => ⟨_, _, _, _, _, _, _, _, _, _, _, _, h⟩⟩
abbrev E7_c82 : Ent (VX × S) := ⟨N7_c82, N7_c82.out, N7_c82.ex, N7_c82.ok⟩
noncomputable def D7_c82 (z5227 : Int) (b5228 : Bool) (z5229 : Int) : PT N7_c82 :=
  .testB (b5228)
   (fun h0 =>
   .auto 1 <|
   .ret (N7_c82.e0 (z5227) (0) (67108865) (0) (0) (0) (0) (0) ([]) ([]) ([]) ([]))
   )
   (fun h0 =>
   .testB (z5227 == 17)
    (fun h1 =>
    .auto 1 <|
    .ret (N7_c82.e0 (z5227) (0) (0) (0) (0) (2) (0) (0) ([]) ([]) ([]) ([]))
    )
    (fun h1 =>
    .cut E7_c89 (J7_c89_ok (z5227) (z5227 == 18) (z5229)) fun (r : N7_c89) => match r with
    | .e0 z5498 z5499 k5500 k5501 k5502 k5503 l5504 l5505 l5506 l5507 =>
     .ret (N7_c82.e0 (z5498) (z5499) (0) (k5500) (k5501) (0) (k5502) (k5503) (l5504) (l5505) (l5506) (l5507))
    )
   )
noncomputable def J7_c82 (z5227 : Int) (b5228 : Bool) (z5229 : Int) : Option N7_c82 := (D7_c82 z5227 b5228 z5229).ev some
theorem J7_c82_ok (z5227 : Int) (b5228 : Bool) (z5229 : Int) : ∀ b, J7_c82 z5227 b5228 z5229 = some b → condP Try.prog X CC 7 (0) 18446744073709551616 B7 82 ({ T := un 4 (i64 z5227 :: V.ptr 0 0 0 :: un 26 (i64 z5227 :: un 49 (vb b5228 :: un 30 []))), σ := [Ob.cells true false 32 [[i64 z5229, i64 0, V.hs 1 0 0, V.hs 2 0 0, V.hs 3 0 0, vb false, i64 0, i64 0, u8 0, u8 0, u8 0, u8 0, u8 0, u8 0, u8 0, u8 0, i64 0, i64 0, i64 0, i64 0, i64 0, V.hs 4 0 0, vb false, V.hs 5 0 0, u8 0, u8 0, u8 0, u8 0, i64 0, V.hs 6 0 0, V.hs 7 0 0, V.hs 8 0 0]], Ob.cells true true 7 [], Ob.cells true true 7 [], Ob.cells true true 8 [], Ob.cells true true 10 [], Ob.cells true true 7 [], Ob.cells true true 1 [], Ob.cells true true 7 [], Ob.cells true true 7 []] }) = some (E7_c82.out b) :=
  cond_ok (E := E7_c82) (L := notIn []) (fun x => by kernel_rfl)
inductive N7_c75 where
  | e0 (z5313 : Int) (z5314 : Int) (z5315 : Int) (z5316 : Int) (z5317 : Int) (k5318 : Nat) (k5319 : Nat) (z5320 : Int) (k5321 : Nat) (k5322 : Nat) (l5323 : List (List V)) (l5324 : List (List V)) (l5325 : List (List V)) (l5326 : List (List V))
@[reducible] def N7_c75.out : N7_c75 → VX × S
  | .e0 z5313 z5314 z5315 z5316 z5317 k5318 k5319 z5320 k5321 k5322 l5323 l5324 l5325 l5326 => (VX.normal, { T := un 4 (i64 z5313 :: V.ptr 0 0 0 :: un 107 []), σ := [Ob.cells true false 32 [[i64 z5314, i64 0, V.hs 1 0 0, V.hs 2 0 0, V.hs 3 0 0, vb false, i64 z5315, i64 z5316, u8 0, u8 0, u8 0, u8 0, u8 0, u8 0, u8 0, u8 0, i64 0, i64 0, i64 0, i64 0, i64 z5317, V.hs 4 0 k5318, vb false, V.hs 5 0 k5319, u8 0, u8 0, u8 0, u8 0, i64 z5320, V.hs 6 0 k5321, V.hs 7 0 0, V.hs 8 0 k5322]], Ob.cells true true 7 [], Ob.cells true true 7 [], Ob.cells true true 8 [], Ob.cells true true 10 l5323, Ob.cells true true 7 l5324, Ob.cells true true 1 l5325, Ob.cells true true 7 [], Ob.cells true true 7 l5326] })
def N7_c75.ex (g : N7_c75 → Prop) : Prop := (∃ (z5313 : Int) (z5314 : Int) (z5315 : Int) (z5316 : Int) (z5317 : Int) (k5318 : Nat) (k5319 : Nat) (z5320 : Int) (k5321 : Nat) (k5322 : Nat) (l5323 : List (List V)) (l5324 : List (List V)) (l5325 : List (List V)) (l5326 : List (List V)), g (.e0 z5313 z5314 z5315 z5316 z5317 k5318 k5319 z5320 k5321 k5322 l5323 l5324 l5325 l5326))
theorem N7_c75.ok (g : N7_c75 → Prop) : N7_c75.ex g ↔ ∃ b, g b := ⟨fun h => match h with
  | ⟨_, _, _, _, _, _, _, _, _, _, _, _, _, _, h⟩ => ⟨_, h⟩, fun ⟨b, h⟩ => match b, h with
  | .e0 _ _ _ _ _ _ _ _ _ _ _ _ _ _, h => ⟨_, _, _, _, _, _, _, _, _, _, _, _, _, _, h⟩⟩
abbrev E7_c75 : Ent (VX × S) := ⟨N7_c75, N7_c75.out, N7_c75.ex, N7_c75.ok⟩
noncomputable def D7_c75 (z5219 : Int) (b5220 : Bool) (z5221 : Int) : PT N7_c75 :=
  .testB (b5220)
   (fun h0 =>
   .auto 1 <|
   .ret (N7_c75.e0 (z5219) (0) (2) (0) (0) (0) (0) (0) (0) (0) ([]) ([]) ([]) ([]))
   )
   (fun h0 =>
   .testB (z5219 == 15)
    (fun h1 =>
    .auto 1 <|
    .ret (N7_c75.e0 (z5219) (0) (0) (3) (0) (0) (0) (0) (0) (0) ([]) ([]) ([]) ([]))
    )
    (fun h1 =>
    .cut E7_c82 (J7_c82_ok (z5219) (z5219 == 16) (z5221)) fun (r : N7_c82) => match r with
    | .e0 z5508 z5509 z5510 k5511 k5512 z5513 k5514 k5515 l5516 l5517 l5518 l5519 =>
     .ret (N7_c75.e0 (z5508) (z5509) (0) (0) (z5510) (k5511) (k5512) (z5513) (k5514) (k5515) (l5516) (l5517) (l5518) (l5519))
    )
   )
noncomputable def J7_c75 (z5219 : Int) (b5220 : Bool) (z5221 : Int) : Option N7_c75 := (D7_c75 z5219 b5220 z5221).ev some
theorem J7_c75_ok (z5219 : Int) (b5220 : Bool) (z5221 : Int) : ∀ b, J7_c75 z5219 b5220 z5221 = some b → condP Try.prog X CC 7 (0) 18446744073709551616 B7 75 ({ T := un 4 (i64 z5219 :: V.ptr 0 0 0 :: un 26 (i64 z5219 :: un 42 (vb b5220 :: un 37 []))), σ := [Ob.cells true false 32 [[i64 z5221, i64 0, V.hs 1 0 0, V.hs 2 0 0, V.hs 3 0 0, vb false, i64 0, i64 0, u8 0, u8 0, u8 0, u8 0, u8 0, u8 0, u8 0, u8 0, i64 0, i64 0, i64 0, i64 0, i64 0, V.hs 4 0 0, vb false, V.hs 5 0 0, u8 0, u8 0, u8 0, u8 0, i64 0, V.hs 6 0 0, V.hs 7 0 0, V.hs 8 0 0]], Ob.cells true true 7 [], Ob.cells true true 7 [], Ob.cells true true 8 [], Ob.cells true true 10 [], Ob.cells true true 7 [], Ob.cells true true 1 [], Ob.cells true true 7 [], Ob.cells true true 7 []] }) = some (E7_c75.out b) :=
  cond_ok (E := E7_c75) (L := notIn []) (fun x => by kernel_rfl)
inductive N7_c63 where
  | e0 (z5341 : Int) (z5342 : Int) (k5343 : Nat) (z5344 : Int) (z5345 : Int) (z5346 : Int) (k5347 : Nat) (k5348 : Nat) (z5349 : Int) (k5350 : Nat) (k5351 : Nat) (l5352 : List (List V)) (l5353 : List (List V)) (l5354 : List (List V)) (l5355 : List (List V)) (l5356 : List (List V))
@[reducible] def N7_c63.out : N7_c63 → VX × S
  | .e0 z5341 z5342 k5343 z5344 z5345 z5346 k5347 k5348 z5349 k5350 k5351 l5352 l5353 l5354 l5355 l5356 => (VX.normal, { T := un 4 (i64 z5341 :: V.ptr 0 0 0 :: un 107 []), σ := [Ob.cells true false 32 [[i64 z5342, i64 0, V.hs 1 0 0, V.hs 2 0 0, V.hs 3 0 k5343, vb false, i64 z5344, i64 z5345, u8 0, u8 0, u8 0, u8 0, u8 0, u8 0, u8 0, u8 0, i64 0, i64 0, i64 0, i64 0, i64 z5346, V.hs 4 0 k5347, vb false, V.hs 5 0 k5348, u8 0, u8 0, u8 0, u8 0, i64 z5349, V.hs 6 0 k5350, V.hs 7 0 0, V.hs 8 0 k5351]], Ob.cells true true 7 [], Ob.cells true true 7 [], Ob.cells true true 8 l5352, Ob.cells true true 10 l5353, Ob.cells true true 7 l5354, Ob.cells true true 1 l5355, Ob.cells true true 7 [], Ob.cells true true 7 l5356] })
def N7_c63.ex (g : N7_c63 → Prop) : Prop := (∃ (z5341 : Int) (z5342 : Int) (k5343 : Nat) (z5344 : Int) (z5345 : Int) (z5346 : Int) (k5347 : Nat) (k5348 : Nat) (z5349 : Int) (k5350 : Nat) (k5351 : Nat) (l5352 : List (List V)) (l5353 : List (List V)) (l5354 : List (List V)) (l5355 : List (List V)) (l5356 : List (List V)), g (.e0 z5341 z5342 k5343 z5344 z5345 z5346 k5347 k5348 z5349 k5350 k5351 l5352 l5353 l5354 l5355 l5356))
theorem N7_c63.ok (g : N7_c63 → Prop) : N7_c63.ex g ↔ ∃ b, g b := ⟨fun h => match h with
  | ⟨_, _, _, _, _, _, _, _, _, _, _, _, _, _, _, _, h⟩ => ⟨_, h⟩, fun ⟨b, h⟩ => match b, h with
  | .e0 _ _ _ _ _ _ _ _ _ _ _ _ _ _ _ _, h => ⟨_, _, _, _, _, _, _, _, _, _, _, _, _, _, _, _, h⟩⟩
abbrev E7_c63 : Ent (VX × S) := ⟨N7_c63, N7_c63.out, N7_c63.ex, N7_c63.ok⟩
noncomputable def D7_c63 (z5212 : Int) (b5213 : Bool) (z5214 : Int) : PT N7_c63 :=
  .testB (b5213)
   (fun h0 =>
   .auto 3 <|
   .ret (N7_c63.e0 (z5212) (3) (1) (0) (0) (0) (0) (0) (0) (0) (0) ([[i64 0, vb false, V.list 2 [[i64 0, i64 0], [i64 0, i64 0], [i64 0, i64 0], [i64 0, i64 0]], i64 0, i64 0, i64 0, i64 0, i64 0]]) ([]) ([]) ([]) ([]))
   )
   (fun h0 =>
   .testB (z5212 == 13)
    (fun h1 =>
    .auto 1 <|
    .ret (N7_c63.e0 (z5212) (3) (1) (0) (0) (0) (0) (0) (0) (0) (0) ([[i64 0, vb false, V.list 2 [], i64 0, i64 0, i64 0, i64 0, i64 0]]) ([]) ([]) ([]) ([]))
    )
    (fun h1 =>
    .cut E7_c75 (J7_c75_ok (z5212) (z5212 == 14) (z5214)) fun (r : N7_c75) => match r with
    | .e0 z5520 z5521 z5522 z5523 z5524 k5525 k5526 z5527 k5528 k5529 l5530 l5531 l5532 l5533 =>
     .ret (N7_c63.e0 (z5520) (z5521) (0) (z5522) (z5523) (z5524) (k5525) (k5526) (z5527) (k5528) (k5529) ([]) (l5530) (l5531) (l5532) (l5533))
    )
   )
noncomputable def J7_c63 (z5212 : Int) (b5213 : Bool) (z5214 : Int) : Option N7_c63 := (D7_c63 z5212 b5213 z5214).ev some
theorem J7_c63_ok (z5212 : Int) (b5213 : Bool) (z5214 : Int) : ∀ b, J7_c63 z5212 b5213 z5214 = some b → condP Try.prog X CC 7 (0) 18446744073709551616 B7 63 ({ T := un 4 (i64 z5212 :: V.ptr 0 0 0 :: un 26 (i64 z5212 :: un 30 (vb b5213 :: un 49 []))), σ := [Ob.cells true false 32 [[i64 z5214, i64 0, V.hs 1 0 0, V.hs 2 0 0, V.hs 3 0 0, vb false, i64 0, i64 0, u8 0, u8 0, u8 0, u8 0, u8 0, u8 0, u8 0, u8 0, i64 0, i64 0, i64 0, i64 0, i64 0, V.hs 4 0 0, vb false, V.hs 5 0 0, u8 0, u8 0, u8 0, u8 0, i64 0, V.hs 6 0 0, V.hs 7 0 0, V.hs 8 0 0]], Ob.cells true true 7 [], Ob.cells true true 7 [], Ob.cells true true 8 [], Ob.cells true true 10 [], Ob.cells true true 7 [], Ob.cells true true 1 [], Ob.cells true true 7 [], Ob.cells true true 7 []] }) = some (E7_c63.out b) :=
  cond_ok (E := E7_c63) (L := notIn []) (fun x => by kernel_rfl)
inductive N7_c51 where
  | e0 (z5373 : Int) (z5374 : Int) (k5375 : Nat) (k5376 : Nat) (z5377 : Int) (z5378 : Int) (z5379 : Int) (k5380 : Nat) (k5381 : Nat) (z5382 : Int) (k5383 : Nat) (k5384 : Nat) (l5385 : List (List V)) (l5386 : List (List V)) (l5387 : List (List V)) (l5388 : List (List V)) (l5389 : List (List V)) (l5390 : List (List V))
@[reducible] def N7_c51.out : N7_c51 → VX × S
  | .e0 z5373 z5374 k5375 k5376 z5377 z5378 z5379 k5380 k5381 z5382 k5383 k5384 l5385 l5386 l5387 l5388 l5389 l5390 => (VX.normal, { T := un 4 (i64 z5373 :: V.ptr 0 0 0 :: un 107 []), σ := [Ob.cells true false 32 [[i64 z5374, i64 0, V.hs 1 0 k5375, V.hs 2 0 0, V.hs 3 0 k5376, vb false, i64 z5377, i64 z5378, u8 0, u8 0, u8 0, u8 0, u8 0, u8 0, u8 0, u8 0, i64 0, i64 0, i64 0, i64 0, i64 z5379, V.hs 4 0 k5380, vb false, V.hs 5 0 k5381, u8 0, u8 0, u8 0, u8 0, i64 z5382, V.hs 6 0 k5383, V.hs 7 0 0, V.hs 8 0 k5384]], Ob.cells true true 7 l5385, Ob.cells true true 7 [], Ob.cells true true 8 l5386, Ob.cells true true 10 l5387, Ob.cells true true 7 l5388, Ob.cells true true 1 l5389, Ob.cells true true 7 [], Ob.cells true true 7 l5390] })
def N7_c51.ex (g : N7_c51 → Prop) : Prop := (∃ (z5373 : Int) (z5374 : Int) (k5375 : Nat) (k5376 : Nat) (z5377 : Int) (z5378 : Int) (z5379 : Int) (k5380 : Nat) (k5381 : Nat) (z5382 : Int) (k5383 : Nat) (k5384 : Nat) (l5385 : List (List V)) (l5386 : List (List V)) (l5387 : List (List V)) (l5388 : List (List V)) (l5389 : List (List V)) (l5390 : List (List V)), g (.e0 z5373 z5374 k5375 k5376 z5377 z5378 z5379 k5380 k5381 z5382 k5383 k5384 l5385 l5386 l5387 l5388 l5389 l5390))
theorem N7_c51.ok (g : N7_c51 → Prop) : N7_c51.ex g ↔ ∃ b, g b := ⟨fun h => match h with
  | ⟨_, _, _, _, _, _, _, _, _, _, _, _, _, _, _, _, _, _, h⟩ => ⟨_, h⟩, fun ⟨b, h⟩ => match b, h with
  | .e0 _ _ _ _ _ _ _ _ _ _ _ _ _ _ _ _ _ _, h => ⟨_, _, _, _, _, _, _, _, _, _, _, _, _, _, _, _, _, _, h⟩⟩
abbrev E7_c51 : Ent (VX × S) := ⟨N7_c51, N7_c51.out, N7_c51.ex, N7_c51.ok⟩
noncomputable def D7_c51 (z5199 : Int) (b5200 : Bool) (z5201 : Int) : PT N7_c51 :=
  .testB (b5200)
   (fun h0 =>
   .auto 1 <|
   .ret (N7_c51.e0 (z5199) (3) (1) (0) (0) (0) (0) (0) (0) (0) (0) (0) ([[i64 0, i64 0, i64 0, i64 0, i64 0, i64 0, i64 0]]) ([]) ([]) ([]) ([]) ([]))
   )
   (fun h0 =>
   .testB (z5199 == 11)
    (fun h1 =>
    .auto 3 <|
    .ret (N7_c51.e0 (z5199) (z5201) (0) (1) (0) (0) (0) (0) (0) (0) (0) (0) ([]) ([[i64 0, vb false, V.list 2 [[i64 0, i64 0], [i64 0, i64 0], [i64 0, i64 0], [i64 0, i64 0]], i64 0, i64 0, i64 0, i64 0, i64 0]]) ([]) ([]) ([]) ([]))
    )
    (fun h1 =>
    .cut E7_c63 (J7_c63_ok (z5199) (z5199 == 12) (z5201)) fun (r : N7_c63) => match r with
    | .e0 z5534 z5535 k5536 z5537 z5538 z5539 k5540 k5541 z5542 k5543 k5544 l5545 l5546 l5547 l5548 l5549 =>
     .ret (N7_c51.e0 (z5534) (z5535) (0) (k5536) (z5537) (z5538) (z5539) (k5540) (k5541) (z5542) (k5543) (k5544) ([]) (l5545) (l5546) (l5547) (l5548) (l5549))
    )
   )
noncomputable def J7_c51 (z5199 : Int) (b5200 : Bool) (z5201 : Int) : Option N7_c51 := (D7_c51 z5199 b5200 z5201).ev some
theorem J7_c51_ok (z5199 : Int) (b5200 : Bool) (z5201 : Int) : ∀ b, J7_c51 z5199 b5200 z5201 = some b → condP Try.prog X CC 7 (0) 18446744073709551616 B7 51 ({ T := un 4 (i64 z5199 :: V.ptr 0 0 0 :: un 26 (i64 z5199 :: un 18 (vb b5200 :: un 61 []))), σ := [Ob.cells true false 32 [[i64 z5201, i64 0, V.hs 1 0 0, V.hs 2 0 0, V.hs 3 0 0, vb false, i64 0, i64 0, u8 0, u8 0, u8 0, u8 0, u8 0, u8 0, u8 0, u8 0, i64 0, i64 0, i64 0, i64 0, i64 0, V.hs 4 0 0, vb false, V.hs 5 0 0, u8 0, u8 0, u8 0, u8 0, i64 0, V.hs 6 0 0, V.hs 7 0 0, V.hs 8 0 0]], Ob.cells true true 7 [], Ob.cells true true 7 [], Ob.cells true true 8 [], Ob.cells true true 10 [], Ob.cells true true 7 [], Ob.cells true true 1 [], Ob.cells true true 7 [], Ob.cells true true 7 []] }) = some (E7_c51.out b) :=
  cond_ok (E := E7_c51) (L := notIn []) (fun x => by kernel_rfl)
inductive N7_c42 where
  | e0 (z5409 : Int) (z5410 : Int) (z5411 : Int) (k5412 : Nat) (k5413 : Nat) (z5414 : Int) (z5415 : Int) (z5416 : Int) (k5417 : Nat) (k5418 : Nat) (z5419 : Int) (k5420 : Nat) (k5421 : Nat) (l5422 : List (List V)) (l5423 : List (List V)) (l5424 : List (List V)) (l5425 : List (List V)) (l5426 : List (List V)) (l5427 : List (List V))
@[reducible] def N7_c42.out : N7_c42 → VX × S
  | .e0 z5409 z5410 z5411 k5412 k5413 z5414 z5415 z5416 k5417 k5418 z5419 k5420 k5421 l5422 l5423 l5424 l5425 l5426 l5427 => (VX.normal, { T := un 4 (i64 z5409 :: V.ptr 0 0 0 :: un 107 []), σ := [Ob.cells true false 32 [[i64 z5410, i64 z5411, V.hs 1 0 k5412, V.hs 2 0 0, V.hs 3 0 k5413, vb false, i64 z5414, i64 z5415, u8 0, u8 0, u8 0, u8 0, u8 0, u8 0, u8 0, u8 0, i64 0, i64 0, i64 0, i64 0, i64 z5416, V.hs 4 0 k5417, vb false, V.hs 5 0 k5418, u8 0, u8 0, u8 0, u8 0, i64 z5419, V.hs 6 0 k5420, V.hs 7 0 0, V.hs 8 0 k5421]], Ob.cells true true 7 l5422, Ob.cells true true 7 [], Ob.cells true true 8 l5423, Ob.cells true true 10 l5424, Ob.cells true true 7 l5425, Ob.cells true true 1 l5426, Ob.cells true true 7 [], Ob.cells true true 7 l5427] })
def N7_c42.ex (g : N7_c42 → Prop) : Prop := (∃ (z5409 : Int) (z5410 : Int) (z5411 : Int) (k5412 : Nat) (k5413 : Nat) (z5414 : Int) (z5415 : Int) (z5416 : Int) (k5417 : Nat) (k5418 : Nat) (z5419 : Int) (k5420 : Nat) (k5421 : Nat) (l5422 : List (List V)) (l5423 : List (List V)) (l5424 : List (List V)) (l5425 : List (List V)) (l5426 : List (List V)) (l5427 : List (List V)), g (.e0 z5409 z5410 z5411 k5412 k5413 z5414 z5415 z5416 k5417 k5418 z5419 k5420 k5421 l5422 l5423 l5424 l5425 l5426 l5427))
theorem N7_c42.ok (g : N7_c42 → Prop) : N7_c42.ex g ↔ ∃ b, g b := ⟨fun h => match h with
  | ⟨_, _, _, _, _, _, _, _, _, _, _, _, _, _, _, _, _, _, _, h⟩ => ⟨_, h⟩, fun ⟨b, h⟩ => match b, h with
  | .e0 _ _ _ _ _ _ _ _ _ _ _ _ _ _ _ _ _ _ _, h => ⟨_, _, _, _, _, _, _, _, _, _, _, _, _, _, _, _, _, _, _, h⟩⟩
abbrev E7_c42 : Ent (VX × S) := ⟨N7_c42, N7_c42.out, N7_c42.ex, N7_c42.ok⟩
noncomputable def D7_c42 (z5188 : Int) (b5189 : Bool) (z5190 : Int) : PT N7_c42 :=
  .testB (b5189)
   (fun h0 =>
   .auto 1 <|
   .ret (N7_c42.e0 (z5188) (z5190) (1) (0) (0) (0) (0) (0) (0) (0) (0) (0) (0) ([]) ([]) ([]) ([]) ([]) ([]))
   )
   (fun h0 =>
   .testB (z5188 == 9)
    (fun h1 =>
    .auto 1 <|
    .ret (N7_c42.e0 (z5188) (z5190) (0) (2) (0) (0) (0) (0) (0) (0) (0) (0) (0) ([[i64 5, i64 0, i64 0, i64 0, i64 0, i64 0, i64 0], [i64 5, i64 0, i64 0, i64 0, i64 0, i64 0, i64 0]]) ([]) ([]) ([]) ([]) ([]))
    )
    (fun h1 =>
    .cut E7_c51 (J7_c51_ok (z5188) (z5188 == 10) (z5190)) fun (r : N7_c51) => match r with
    | .e0 z5550 z5551 k5552 k5553 z5554 z5555 z5556 k5557 k5558 z5559 k5560 k5561 l5562 l5563 l5564 l5565 l5566 l5567 =>
     .ret (N7_c42.e0 (z5550) (z5551) (0) (k5552) (k5553) (z5554) (z5555) (z5556) (k5557) (k5558) (z5559) (k5560) (k5561) (l5562) (l5563) (l5564) (l5565) (l5566) (l5567))
    )
   )
noncomputable def J7_c42 (z5188 : Int) (b5189 : Bool) (z5190 : Int) : Option N7_c42 := (D7_c42 z5188 b5189 z5190).ev some
theorem J7_c42_ok (z5188 : Int) (b5189 : Bool) (z5190 : Int) : ∀ b, J7_c42 z5188 b5189 z5190 = some b → condP Try.prog X CC 7 (0) 18446744073709551616 B7 42 ({ T := un 4 (i64 z5188 :: V.ptr 0 0 0 :: un 26 (i64 z5188 :: un 9 (vb b5189 :: un 70 []))), σ := [Ob.cells true false 32 [[i64 z5190, i64 0, V.hs 1 0 0, V.hs 2 0 0, V.hs 3 0 0, vb false, i64 0, i64 0, u8 0, u8 0, u8 0, u8 0, u8 0, u8 0, u8 0, u8 0, i64 0, i64 0, i64 0, i64 0, i64 0, V.hs 4 0 0, vb false, V.hs 5 0 0, u8 0, u8 0, u8 0, u8 0, i64 0, V.hs 6 0 0, V.hs 7 0 0, V.hs 8 0 0]], Ob.cells true true 7 [], Ob.cells true true 7 [], Ob.cells true true 8 [], Ob.cells true true 10 [], Ob.cells true true 7 [], Ob.cells true true 1 [], Ob.cells true true 7 [], Ob.cells true true 7 []] }) = some (E7_c42.out b) :=
  cond_ok (E := E7_c42) (L := notIn []) (fun x => by kernel_rfl)
inductive N7_c36 where
  | e0 (z5447 : Int) (z5448 : Int) (z5449 : Int) (k5450 : Nat) (k5451 : Nat) (z5452 : Int) (z5453 : Int) (z5454 : Int) (k5455 : Nat) (k5456 : Nat) (z5457 : Int) (k5458 : Nat) (k5459 : Nat) (l5460 : List (List V)) (l5461 : List (List V)) (l5462 : List (List V)) (l5463 : List (List V)) (l5464 : List (List V)) (l5465 : List (List V))
@[reducible] def N7_c36.out : N7_c36 → VX × S
  | .e0 z5447 z5448 z5449 k5450 k5451 z5452 z5453 z5454 k5455 k5456 z5457 k5458 k5459 l5460 l5461 l5462 l5463 l5464 l5465 => (VX.normal, { T := un 4 (i64 z5447 :: V.ptr 0 0 0 :: un 107 []), σ := [Ob.cells true false 32 [[i64 z5448, i64 z5449, V.hs 1 0 k5450, V.hs 2 0 0, V.hs 3 0 k5451, vb false, i64 z5452, i64 z5453, u8 0, u8 0, u8 0, u8 0, u8 0, u8 0, u8 0, u8 0, i64 0, i64 0, i64 0, i64 0, i64 z5454, V.hs 4 0 k5455, vb false, V.hs 5 0 k5456, u8 0, u8 0, u8 0, u8 0, i64 z5457, V.hs 6 0 k5458, V.hs 7 0 0, V.hs 8 0 k5459]], Ob.cells true true 7 l5460, Ob.cells true true 7 [], Ob.cells true true 8 l5461, Ob.cells true true 10 l5462, Ob.cells true true 7 l5463, Ob.cells true true 1 l5464, Ob.cells true true 7 [], Ob.cells true true 7 l5465] })
def N7_c36.ex (g : N7_c36 → Prop) : Prop := (∃ (z5447 : Int) (z5448 : Int) (z5449 : Int) (k5450 : Nat) (k5451 : Nat) (z5452 : Int) (z5453 : Int) (z5454 : Int) (k5455 : Nat) (k5456 : Nat) (z5457 : Int) (k5458 : Nat) (k5459 : Nat) (l5460 : List (List V)) (l5461 : List (List V)) (l5462 : List (List V)) (l5463 : List (List V)) (l5464 : List (List V)) (l5465 : List (List V)), g (.e0 z5447 z5448 z5449 k5450 k5451 z5452 z5453 z5454 k5455 k5456 z5457 k5458 k5459 l5460 l5461 l5462 l5463 l5464 l5465))
theorem N7_c36.ok (g : N7_c36 → Prop) : N7_c36.ex g ↔ ∃ b, g b := ⟨fun h => match h with
  | ⟨_, _, _, _, _, _, _, _, _, _, _, _, _, _, _, _, _, _, _, h⟩ => ⟨_, h⟩, fun ⟨b, h⟩ => match b, h with
  | .e0 _ _ _ _ _ _ _ _ _ _ _ _ _ _ _ _ _ _ _, h => ⟨_, _, _, _, _, _, _, _, _, _, _, _, _, _, _, _, _, _, _, h⟩⟩
abbrev E7_c36 : Ent (VX × S) := ⟨N7_c36, N7_c36.out, N7_c36.ex, N7_c36.ok⟩
noncomputable def D7_c36 (z5180 : Int) (b5181 : Bool) (z5182 : Int) : PT N7_c36 :=
  .testB (b5181)
   (fun h0 =>
   .auto 1 <|
   .ret (N7_c36.e0 (z5180) (2) (2) (0) (0) (0) (0) (0) (0) (0) (0) (0) (0) ([]) ([]) ([]) ([]) ([]) ([]))
   )
   (fun h0 =>
   .testB (z5180 == 7)
    (fun h1 =>
    .auto 1 <|
    .ret (N7_c36.e0 (z5180) (2) (17) (0) (0) (0) (0) (0) (0) (0) (0) (0) (0) ([]) ([]) ([]) ([]) ([]) ([]))
    )
    (fun h1 =>
    .cut E7_c42 (J7_c42_ok (z5180) (z5180 == 8) (z5182)) fun (r : N7_c42) => match r with
    | .e0 z5568 z5569 z5570 k5571 k5572 z5573 z5574 z5575 k5576 k5577 z5578 k5579 k5580 l5581 l5582 l5583 l5584 l5585 l5586 =>
     .ret (N7_c36.e0 (z5568) (z5569) (z5570) (k5571) (k5572) (z5573) (z5574) (z5575) (k5576) (k5577) (z5578) (k5579) (k5580) (l5581) (l5582) (l5583) (l5584) (l5585) (l5586))
    )
   )
noncomputable def J7_c36 (z5180 : Int) (b5181 : Bool) (z5182 : Int) : Option N7_c36 := (D7_c36 z5180 b5181 z5182).ev some
theorem J7_c36_ok (z5180 : Int) (b5181 : Bool) (z5182 : Int) : ∀ b, J7_c36 z5180 b5181 z5182 = some b → condP Try.prog X CC 7 (0) 18446744073709551616 B7 36 ({ T := un 4 (i64 z5180 :: V.ptr 0 0 0 :: un 26 (i64 z5180 :: U :: U :: U :: vb b5181 :: un 76 [])), σ := [Ob.cells true false 32 [[i64 z5182, i64 0, V.hs 1 0 0, V.hs 2 0 0, V.hs 3 0 0, vb false, i64 0, i64 0, u8 0, u8 0, u8 0, u8 0, u8 0, u8 0, u8 0, u8 0, i64 0, i64 0, i64 0, i64 0, i64 0, V.hs 4 0 0, vb false, V.hs 5 0 0, u8 0, u8 0, u8 0, u8 0, i64 0, V.hs 6 0 0, V.hs 7 0 0, V.hs 8 0 0]], Ob.cells true true 7 [], Ob.cells true true 7 [], Ob.cells true true 8 [], Ob.cells true true 10 [], Ob.cells true true 7 [], Ob.cells true true 1 [], Ob.cells true true 7 [], Ob.cells true true 7 []] }) = some (E7_c36.out b) :=
  cond_ok (E := E7_c36) (L := notIn []) (fun x => by kernel_rfl)
inductive N7_4 where
  | s0 (z5175 : Int)
  | e0
  | e1
@[reducible] def N7_4.out : N7_4 → VX × S
  | .s0 z5175 => (VX.normal, { T := un 4 (i64 z5175 :: un 108 []), σ := [] })
  | .e0 => (VX.ret, { T := vb false :: un 112 [], σ := [] })
  | .e1 => (VX.exit 4, { T := un 113 [], σ := [] })
def N7_4.ex (g : N7_4 → Prop) : Prop := (∃ (z5175 : Int), g (.s0 z5175)) ∨ g .e0 ∨ g .e1
theorem N7_4.ok (g : N7_4 → Prop) : N7_4.ex g ↔ ∃ b, g b := ⟨fun h => match h with
  | .inl ⟨_, h⟩ => ⟨_, h⟩
  | .inr (.inl h) => ⟨_, h⟩
  | .inr (.inr (h)) => ⟨_, h⟩, fun ⟨b, h⟩ => match b, h with
  | .s0 _, h => .inl ⟨_, h⟩
  | .e0, h => .inr (.inl h)
  | .e1, h => .inr (.inr (h))⟩
abbrev E7_4 : Ent (VX × S) := ⟨N7_4, N7_4.out, N7_4.ex, N7_4.ok⟩
noncomputable def D7_4 (z5175 : Int) : PT N7_4 :=
  .test (z5175 < 22)
   (fun h0 =>
   .auto 2 <|
   .testB (z5175 == 5)
    (fun h1 =>
    .auto 2 <|
    .ask E22 (F22_ok (-1) (0) ([]) ([]) ([]) (false) (0) (0) (0) (0) (0) (0) (0) (0) (0) (0) (0) (0) (0) (0) (0) ([]) (false) ([]) (0) (0) (0) (0) (0) ([]) ([]) ([]) (3)) fun (r : A22) => match r with
    | .a0 b5491 =>
     .testB (!b5491)
      (fun h2 =>
      .ret (N7_4.e0)
      )
      (fun h2 =>
      .ret (N7_4.s0 (w64 (z5175 + 1)))
      )
    )
    (fun h1 =>
    .cut E7_c36 (J7_c36_ok (z5175) (z5175 == 6) (Int.tmod z5175 5)) fun (r : N7_c36) => match r with
    | .e0 z5587 z5588 z5589 k5590 k5591 z5592 z5593 z5594 k5595 k5596 z5597 k5598 k5599 l5600 l5601 l5602 l5603 l5604 l5605 =>
     .auto 1 <|
     .test (0 + k5590 ≤ List.length l5600)
      (fun h2 =>
      .auto 1 <|
      .test (0 + k5591 ≤ List.length l5601)
       (fun h3 =>
       .test (0 + k5595 ≤ List.length l5602)
        (fun h4 =>
        .test (0 + k5596 ≤ List.length l5603)
         (fun h5 =>
         .test (0 + k5598 ≤ List.length l5604)
          (fun h6 =>
          .auto 1 <|
          .test (0 + k5599 ≤ List.length l5605)
           (fun h7 =>
           .ask E22 (F22_ok (z5588) (z5589) (List.take k5590 l5600) ([]) (List.take k5591 l5601) (false) (z5592) (z5593) (0) (0) (0) (0) (0) (0) (0) (0) (0) (0) (0) (0) (z5594) (List.take k5595 l5602) (false) (List.take k5596 l5603) (0) (0) (0) (0) (z5597) (List.take k5598 l5604) ([]) (List.take k5599 l5605) (3)) fun (r : A22) => match r with
           | .a0 b5606 =>
            .testB (!b5606)
             (fun h8 =>
             .ret (N7_4.e0)
             )
             (fun h8 =>
             .ret (N7_4.s0 (w64 (z5587 + 1)))
             )
           )
           (fun _ => .fail) -- none
          )
          (fun _ => .fail) -- none
         )
         (fun _ => .fail) -- none
        )
        (fun _ => .fail) -- none
       )
       (fun _ => .fail) -- none
      )
      (fun _ => .fail) -- none
    )
   )
   (fun h0 =>
   .ret (N7_4.e1)
   )
noncomputable def S7_4 : N7_4 → PT N7_4
  | .s0 z5175 => D7_4 z5175
  | _ => .fail
def N7_4.off : N7_4 → Bool
  | .s0 _ => false
  | _ => true
noncomputable def L7_4 (n : Nat) (b : N7_4) : Option N7_4 := PT.loop (S7_4) N7_4.off n b
theorem L7_4_ok : ∀ (n : Nat) (b : N7_4), N7_4.off b = false → ∀ c, L7_4 n b = some c → loopP Try.prog X CC 7 (0) 18446744073709551616 B7 4 n (E7_4.out b).2 = some (E7_4.out c) :=
  loop_ok (E := E7_4) (step := S7_4) (L := notIn []) (fun b hb => by cases b <;> first | (cases hb; done) | (intro x; kernel_rfl)) (fun b => by cases b <;> rfl)
noncomputable def N7_4.nx (n : Nat) (c : N7_4) : Option N7_4 := match N7_4.off c with
  | true => some c
  | false => L7_4 n c
theorem L7_4_s0 (n : Nat) (z5175 : Int) : L7_4 (n + 1) (.s0 z5175) = (D7_4 z5175).ev (N7_4.nx n) := rfl
theorem N7_4.nx_s0 (n : Nat) (z5175 : Int) : N7_4.nx n (.s0 z5175) = L7_4 n (.s0 z5175) := rfl
theorem N7_4.nx_e0 (n : Nat) : N7_4.nx n (.e0) = some (.e0) := rfl
theorem N7_4.nx_e1 (n : Nat) : N7_4.nx n (.e1) = some (.e1) := rfl
inductive N7_2 where
  | s0 (z4577 : Int) (z4578 : Int) (z4579 : Int)
  | e0
  | e1 (z4581 : Int)
@[reducible] def N7_2.out : N7_2 → VX × S
  | .s0 z4577 z4578 z4579 => (VX.normal, { T := U :: U :: i64 z4577 :: i64 z4578 :: U :: U :: V.hs 0 0 11 :: i64 11 :: i64 z4579 :: un 104 [], σ := [Ob.cells true true 1 [[i64 0], [i64 1], [i64 2], [i64 3], [i64 (-1)], [i64 (-3)], [i64 65536], [i64 327687], [i64 67108864], [i64 (-67108864)], [i64 1099511627776]]] })
  | .e0 => (VX.ret, { T := vb false :: un 112 [], σ := [] })
  | .e1 z4581 => (VX.exit 2, { T := un 6 (V.hs 0 0 11 :: i64 11 :: i64 z4581 :: un 104 []), σ := [Ob.cells true true 1 [[i64 0], [i64 1], [i64 2], [i64 3], [i64 (-1)], [i64 (-3)], [i64 65536], [i64 327687], [i64 67108864], [i64 (-67108864)], [i64 1099511627776]]] })
def N7_2.ex (g : N7_2 → Prop) : Prop := (∃ (z4577 : Int) (z4578 : Int) (z4579 : Int), g (.s0 z4577 z4578 z4579)) ∨ g .e0 ∨ (∃ (z4581 : Int), g (.e1 z4581))
theorem N7_2.ok (g : N7_2 → Prop) : N7_2.ex g ↔ ∃ b, g b := ⟨fun h => match h with
  | .inl ⟨_, _, _, h⟩ => ⟨_, h⟩
  | .inr (.inl h) => ⟨_, h⟩
  | .inr (.inr (⟨_, h⟩)) => ⟨_, h⟩, fun ⟨b, h⟩ => match b, h with
  | .s0 _ _ _, h => .inl ⟨_, _, _, h⟩
  | .e0, h => .inr (.inl h)
  | .e1 _, h => .inr (.inr (⟨_, h⟩))⟩
abbrev E7_2 : Ent (VX × S) := ⟨N7_2, N7_2.out, N7_2.ex, N7_2.ok⟩
noncomputable def D7_2 (z4577 : Int) (z4578 : Int) (z4579 : Int) : PT N7_2 :=
  .test (z4578 < 19)
   (fun h0 =>
   .auto 1 <|
   .ask E21 (F21_ok (z4577) (w64 (w64 (Int.tdiv (w64 (z4578 * 65536)) 2) + 3)) (z4578)) fun (r : A21) => match r with
   | .a0 b5489 =>
    .testB (!b5489)
     (fun h1 =>
     .ret (N7_2.e0)
     )
     (fun h1 =>
     .ret (N7_2.s0 (z4577) (w64 (z4578 + 1)) (z4579))
     )
   )
   (fun h0 =>
   .ret (N7_2.e1 (z4579))
   )
noncomputable def S7_2 : N7_2 → PT N7_2
  | .s0 z4577 z4578 z4579 => D7_2 z4577 z4578 z4579
  | _ => .fail
def N7_2.off : N7_2 → Bool
  | .s0 _ _ _ => false
  | _ => true
noncomputable def L7_2 (n : Nat) (b : N7_2) : Option N7_2 := PT.loop (S7_2) N7_2.off n b
theorem L7_2_ok : ∀ (n : Nat) (b : N7_2), N7_2.off b = false → ∀ c, L7_2 n b = some c → loopP Try.prog X CC 7 (0) 18446744073709551616 B7 2 n (E7_2.out b).2 = some (E7_2.out c) :=
  loop_ok (E := E7_2) (step := S7_2) (L := notIn []) (fun b hb => by cases b <;> first | (cases hb; done) | (intro x; kernel_rfl)) (fun b => by cases b <;> rfl)
noncomputable def N7_2.nx (n : Nat) (c : N7_2) : Option N7_2 := match N7_2.off c with
  | true => some c
  | false => L7_2 n c
theorem L7_2_s0 (n : Nat) (z4577 : Int) (z4578 : Int) (z4579 : Int) : L7_2 (n + 1) (.s0 z4577 z4578 z4579) = (D7_2 z4577 z4578 z4579).ev (N7_2.nx n) := rfl
theorem N7_2.nx_s0 (n : Nat) (z4577 : Int) (z4578 : Int) (z4579 : Int) : N7_2.nx n (.s0 z4577 z4578 z4579) = L7_2 n (.s0 z4577 z4578 z4579) := rfl
theorem N7_2.nx_e0 (n : Nat) : N7_2.nx n (.e0) = some (.e0) := rfl
theorem N7_2.nx_e1 (n : Nat) (z4581 : Int) : N7_2.nx n (.e1 z4581) = some (.e1 z4581) := rfl
inductive N7_0 where
  | s0 (z4575 : Int)
  | e0
  | e1
@[reducible] def N7_0.out : N7_0 → VX × S
  | .s0 z4575 => (VX.normal, { T := un 6 (V.hs 0 0 11 :: i64 11 :: i64 z4575 :: un 104 []), σ := [Ob.cells true true 1 [[i64 0], [i64 1], [i64 2], [i64 3], [i64 (-1)], [i64 (-3)], [i64 65536], [i64 327687], [i64 67108864], [i64 (-67108864)], [i64 1099511627776]]] })
  | .e0 => (VX.ret, { T := vb false :: un 112 [], σ := [] })
  | .e1 => (VX.exit 0, { T := un 113 [], σ := [] })
def N7_0.ex (g : N7_0 → Prop) : Prop := (∃ (z4575 : Int), g (.s0 z4575)) ∨ g .e0 ∨ g .e1
theorem N7_0.ok (g : N7_0 → Prop) : N7_0.ex g ↔ ∃ b, g b := ⟨fun h => match h with
  | .inl ⟨_, h⟩ => ⟨_, h⟩
  | .inr (.inl h) => ⟨_, h⟩
  | .inr (.inr (h)) => ⟨_, h⟩, fun ⟨b, h⟩ => match b, h with
  | .s0 _, h => .inl ⟨_, h⟩
  | .e0, h => .inr (.inl h)
  | .e1, h => .inr (.inr (h))⟩
abbrev E7_0 : Ent (VX × S) := ⟨N7_0, N7_0.out, N7_0.ex, N7_0.ok⟩
noncomputable def D7_0 (z4575 : Int) : PT N7_0 :=
  .test (z4575 < 11)
   (fun h0 =>
   .test (0 ≤ z4575 ∧ z4575 < 11)
    (fun h1 =>
    .look RW2 ([[i64 (0 : Int)], [i64 (1 : Int)], [i64 (2 : Int)], [i64 (3 : Int)], [i64 (-1 : Int)], [i64 (-3 : Int)], [i64 (65536 : Int)], [i64 (327687 : Int)], [i64 (67108864 : Int)], [i64 (-67108864 : Int)], [i64 (1099511627776 : Int)]][(0 : Nat) + Int.toNat z4575]?) fun e5488 =>
    .cut E7_2 (L7_2_ok 18446744073709551616 (.s0 (e5488.c0) (-1) (z4575)) rfl) fun (r : N7_2) => match r with
    | .e0 =>
     .ret (N7_0.e0)
    | .e1 z5490 =>
     .ret (N7_0.s0 (w64 (z5490 + 1)))
    | _ => .fail
    )
    (fun _ => .fail) -- none
   )
   (fun h0 =>
   .ret (N7_0.e1)
   )
noncomputable def S7_0 : N7_0 → PT N7_0
  | .s0 z4575 => D7_0 z4575
  | _ => .fail
def N7_0.off : N7_0 → Bool
  | .s0 _ => false
  | _ => true
noncomputable def L7_0 (n : Nat) (b : N7_0) : Option N7_0 := PT.loop (S7_0) N7_0.off n b
theorem L7_0_ok : ∀ (n : Nat) (b : N7_0), N7_0.off b = false → ∀ c, L7_0 n b = some c → loopP Try.prog X CC 7 (0) 18446744073709551616 B7 0 n (E7_0.out b).2 = some (E7_0.out c) :=
  loop_ok (E := E7_0) (step := S7_0) (L := notIn []) (fun b hb => by cases b <;> first | (cases hb; done) | (intro x; kernel_rfl)) (fun b => by cases b <;> rfl)
noncomputable def N7_0.nx (n : Nat) (c : N7_0) : Option N7_0 := match N7_0.off c with
  | true => some c
  | false => L7_0 n c
theorem L7_0_s0 (n : Nat) (z4575 : Int) : L7_0 (n + 1) (.s0 z4575) = (D7_0 z4575).ev (N7_0.nx n) := rfl
theorem N7_0.nx_s0 (n : Nat) (z4575 : Int) : N7_0.nx n (.s0 z4575) = L7_0 n (.s0 z4575) := rfl
theorem N7_0.nx_e0 (n : Nat) : N7_0.nx n (.e0) = some (.e0) := rfl
theorem N7_0.nx_e1 (n : Nat) : N7_0.nx n (.e1) = some (.e1) := rfl
noncomputable def D7 : PT A7 :=
  .cut E7_0 (L7_0_ok 18446744073709551616 (.s0 (0)) rfl) fun (r : N7_0) => match r with
  | .e1 =>
   .cut E7_4 (L7_4_ok 18446744073709551616 (.s0 (0)) rfl) fun (r : N7_4) => match r with
   | .e1 =>
    .ask E19 (F19_ok) fun (r : A19) => match r with
    | .a0 b5607 =>
     .ret (A7.a0 (b5607))
   | _ => .fail
  | _ => .fail
noncomputable def F7 : Option A7 := (D7).ev some
theorem F7_ok : ∀ b, F7 = some b → UU 7 ([]) ([]) = some (A7.out b) :=
  fn_ok (E := E7) (L := notIn []) rfl rfl (fun x => by kernel_rfl)

end Go.Proofs.Ytifalphladcdcaa.H
