/- What the functions compute, and that they do so over the machine of plain values (printed by this session's program wip/vm/Walk.lean). No condition beyond those stated. -/
import Derived.Test.YtifalphladcdcaaWk
import Derived.Test.YtifalphladcdcaaP5c
set_option linter.unusedVariables false
set_option linter.unusedSimpArgs false
namespace Go.Proofs.Ytifalphladcdcaa.H
open Go Go.VM
set_option maxRecDepth 100000
/-! ## F123 -/
noncomputable abbrev B123 : Code := (Try.f123.body).getD .skip
inductive N123_2 where
  | s0 (z3539 : Int) (z3540 : Int) (z3541 : Int) (z3542 : Int) (z3543 : Int) (z3544 : Int) (z3545 : Int) (z3546 : Int) (z3547 : Int)
  | e0 (z3548 : Int) (z3549 : Int) (z3550 : Int) (z3551 : Int) (z3552 : Int) (z3553 : Int)
@[reducible] def N123_2.out : N123_2 → VX × S
  | .s0 z3539 z3540 z3541 z3542 z3543 z3544 z3545 z3546 z3547 => (VX.normal, { T := U :: U :: V.int IntKind.u64 z3539 :: un 5 (V.int IntKind.u64 z3540 :: V.int IntKind.u64 z3541 :: V.int IntKind.u64 z3542 :: U :: U :: U :: V.int IntKind.u64 z3543 :: V.int IntKind.u64 z3544 :: V.int IntKind.u64 z3545 :: V.int IntKind.u64 z3546 :: V.int IntKind.u64 z3547 :: un 116 []), σ := [] })
  | .e0 z3548 z3549 z3550 z3551 z3552 z3553 => (VX.exit 2, { T := U :: U :: V.int IntKind.u64 z3548 :: un 5 (V.int IntKind.u64 z3549 :: un 5 (V.int IntKind.u64 z3550 :: V.int IntKind.u64 z3551 :: U :: V.int IntKind.u64 z3552 :: V.int IntKind.u64 z3553 :: un 116 [])), σ := [] })
def N123_2.ex (g : N123_2 → Prop) : Prop := (∃ (z3539 : Int) (z3540 : Int) (z3541 : Int) (z3542 : Int) (z3543 : Int) (z3544 : Int) (z3545 : Int) (z3546 : Int) (z3547 : Int), g (.s0 z3539 z3540 z3541 z3542 z3543 z3544 z3545 z3546 z3547)) ∨ (∃ (z3548 : Int) (z3549 : Int) (z3550 : Int) (z3551 : Int) (z3552 : Int) (z3553 : Int), g (.e0 z3548 z3549 z3550 z3551 z3552 z3553))
theorem N123_2.ok (g : N123_2 → Prop) : N123_2.ex g ↔ ∃ b, g b := ⟨fun h => match h with
  | .inl ⟨_, _, _, _, _, _, _, _, _, h⟩ => ⟨_, h⟩
  | .inr (⟨_, _, _, _, _, _, h⟩) => ⟨_, h⟩, fun ⟨b, h⟩ => match b, h with
  | .s0 _ _ _ _ _ _ _ _ _, h => .inl ⟨_, _, _, _, _, _, _, _, _, h⟩
  | .e0 _ _ _ _ _ _, h => .inr (⟨_, _, _, _, _, _, h⟩)⟩
abbrev E123_2 : Ent (VX × S) := ⟨N123_2, N123_2.out, N123_2.ex, N123_2.ok⟩
noncomputable def D123_2 (z3539 : Int) (z3540 : Int) (z3541 : Int) (z3542 : Int) (z3543 : Int) (z3544 : Int) (z3545 : Int) (z3546 : Int) (z3547 : Int) : PT N123_2 :=
  .test (z3547 ≥ 4294967296)
   (fun h0 =>
   .auto 9 <|
   .test (IntKind.wrap IntKind.u64 (z3545 + z3541) ≥ 4294967296)
    (fun h1 =>
    .ret (N123_2.e0 (z3539) (z3540) (z3543) (z3544) (z3546) (IntKind.wrap IntKind.u64 (z3547 - 1)))
    )
    (fun h1 =>
    .ret (N123_2.s0 (z3539) (z3540) (z3541) (z3542) (z3543) (z3544) (IntKind.wrap IntKind.u64 (z3545 + z3541)) (z3546) (IntKind.wrap IntKind.u64 (z3547 - 1)))
    )
   )
   (fun h0 =>
   .auto 8 <|
   .test (IntKind.wrap IntKind.u64 (z3547 * z3542) > IntKind.wrap IntKind.u64 (IntKind.wrap IntKind.u64 (4294967296 * z3545) + z3543))
    (fun h1 =>
    .test (IntKind.wrap IntKind.u64 (z3545 + z3541) ≥ 4294967296)
     (fun h2 =>
     .ret (N123_2.e0 (z3539) (z3540) (z3543) (z3544) (z3546) (IntKind.wrap IntKind.u64 (z3547 - 1)))
     )
     (fun h2 =>
     .ret (N123_2.s0 (z3539) (z3540) (z3541) (z3542) (z3543) (z3544) (IntKind.wrap IntKind.u64 (z3545 + z3541)) (z3546) (IntKind.wrap IntKind.u64 (z3547 - 1)))
     )
    )
    (fun h1 =>
    .ret (N123_2.e0 (z3539) (z3540) (z3543) (z3544) (z3546) (z3547))
    )
   )
noncomputable def S123_2 : N123_2 → PT N123_2
  | .s0 z3539 z3540 z3541 z3542 z3543 z3544 z3545 z3546 z3547 => D123_2 z3539 z3540 z3541 z3542 z3543 z3544 z3545 z3546 z3547
  | _ => .fail
def N123_2.off : N123_2 → Bool
  | .s0 _ _ _ _ _ _ _ _ _ => false
  | _ => true
noncomputable def L123_2 (n : Nat) (b : N123_2) : Option N123_2 := PT.loop (S123_2) N123_2.off n b
theorem L123_2_ok : ∀ (n : Nat) (b : N123_2), N123_2.off b = false → ∀ c, L123_2 n b = some c → loopP Try.prog X CC 123 (0) 18446744073709551616 B123 2 n (E123_2.out b).2 = some (E123_2.out c) :=
  loop_ok (E := E123_2) (step := S123_2) (L := notIn []) (fun b hb => by cases b <;> first | (cases hb; done) | (intro x; kernel_rfl)) (fun b => by cases b <;> rfl)
noncomputable def N123_2.nx (n : Nat) (c : N123_2) : Option N123_2 := match N123_2.off c with
  | true => some c
  | false => L123_2 n c
theorem L123_2_s0 (n : Nat) (z3539 : Int) (z3540 : Int) (z3541 : Int) (z3542 : Int) (z3543 : Int) (z3544 : Int) (z3545 : Int) (z3546 : Int) (z3547 : Int) : L123_2 (n + 1) (.s0 z3539 z3540 z3541 z3542 z3543 z3544 z3545 z3546 z3547) = (D123_2 z3539 z3540 z3541 z3542 z3543 z3544 z3545 z3546 z3547).ev (N123_2.nx n) := rfl
theorem N123_2.nx_s0 (n : Nat) (z3539 : Int) (z3540 : Int) (z3541 : Int) (z3542 : Int) (z3543 : Int) (z3544 : Int) (z3545 : Int) (z3546 : Int) (z3547 : Int) : N123_2.nx n (.s0 z3539 z3540 z3541 z3542 z3543 z3544 z3545 z3546 z3547) = L123_2 n (.s0 z3539 z3540 z3541 z3542 z3543 z3544 z3545 z3546 z3547) := rfl
theorem N123_2.nx_e0 (n : Nat) (z3548 : Int) (z3549 : Int) (z3550 : Int) (z3551 : Int) (z3552 : Int) (z3553 : Int) : N123_2.nx n (.e0 z3548 z3549 z3550 z3551 z3552 z3553) = some (.e0 z3548 z3549 z3550 z3551 z3552 z3553) := rfl
inductive N123_0 where
  | s0 (z3514 : Int) (z3515 : Int) (z3516 : Int) (z3517 : Int) (z3518 : Int) (z3519 : Int) (z3520 : Int) (z3521 : Int) (z3522 : Int)
  | e0 (z3523 : Int) (z3524 : Int) (z3525 : Int) (z3526 : Int) (z3527 : Int) (z3528 : Int) (z3529 : Int) (z3530 : Int)
@[reducible] def N123_0.out : N123_0 → VX × S
  | .s0 z3514 z3515 z3516 z3517 z3518 z3519 z3520 z3521 z3522 => (VX.normal, { T := U :: U :: V.int IntKind.u64 z3514 :: un 5 (V.int IntKind.u64 z3515 :: V.int IntKind.u64 z3516 :: V.int IntKind.u64 z3517 :: V.int IntKind.u64 z3518 :: U :: V.int IntKind.u64 z3519 :: V.int IntKind.u64 z3520 :: V.int IntKind.u64 z3521 :: V.int IntKind.u64 z3522 :: un 118 []), σ := [] })
  | .e0 z3523 z3524 z3525 z3526 z3527 z3528 z3529 z3530 => (VX.exit 0, { T := U :: U :: V.int IntKind.u64 z3523 :: un 5 (V.int IntKind.u64 z3524 :: V.int IntKind.u64 z3525 :: V.int IntKind.u64 z3526 :: V.int IntKind.u64 z3527 :: U :: V.int IntKind.u64 z3528 :: V.int IntKind.u64 z3529 :: V.int IntKind.u64 z3530 :: un 119 []), σ := [] })
def N123_0.ex (g : N123_0 → Prop) : Prop := (∃ (z3514 : Int) (z3515 : Int) (z3516 : Int) (z3517 : Int) (z3518 : Int) (z3519 : Int) (z3520 : Int) (z3521 : Int) (z3522 : Int), g (.s0 z3514 z3515 z3516 z3517 z3518 z3519 z3520 z3521 z3522)) ∨ (∃ (z3523 : Int) (z3524 : Int) (z3525 : Int) (z3526 : Int) (z3527 : Int) (z3528 : Int) (z3529 : Int) (z3530 : Int), g (.e0 z3523 z3524 z3525 z3526 z3527 z3528 z3529 z3530))
theorem N123_0.ok (g : N123_0 → Prop) : N123_0.ex g ↔ ∃ b, g b := ⟨fun h => match h with
  | .inl ⟨_, _, _, _, _, _, _, _, _, h⟩ => ⟨_, h⟩
  | .inr (⟨_, _, _, _, _, _, _, _, h⟩) => ⟨_, h⟩, fun ⟨b, h⟩ => match b, h with
  | .s0 _ _ _ _ _ _ _ _ _, h => .inl ⟨_, _, _, _, _, _, _, _, _, h⟩
  | .e0 _ _ _ _ _ _ _ _, h => .inr (⟨_, _, _, _, _, _, _, _, h⟩)⟩
abbrev E123_0 : Ent (VX × S) := ⟨N123_0, N123_0.out, N123_0.ex, N123_0.ok⟩
noncomputable def D123_0 (z3514 : Int) (z3515 : Int) (z3516 : Int) (z3517 : Int) (z3518 : Int) (z3519 : Int) (z3520 : Int) (z3521 : Int) (z3522 : Int) : PT N123_0 :=
  .test (z3521 ≥ 4294967296)
   (fun h0 =>
   .auto 9 <|
   .test (IntKind.wrap IntKind.u64 (z3522 + z3516) ≥ 4294967296)
    (fun h1 =>
    .ret (N123_0.e0 (z3514) (z3515) (z3516) (z3517) (z3518) (z3519) (z3520) (IntKind.wrap IntKind.u64 (z3521 - 1)))
    )
    (fun h1 =>
    .ret (N123_0.s0 (z3514) (z3515) (z3516) (z3517) (z3518) (z3519) (z3520) (IntKind.wrap IntKind.u64 (z3521 - 1)) (IntKind.wrap IntKind.u64 (z3522 + z3516)))
    )
   )
   (fun h0 =>
   .auto 8 <|
   .test (IntKind.wrap IntKind.u64 (z3521 * z3517) > IntKind.wrap IntKind.u64 (IntKind.wrap IntKind.u64 (4294967296 * z3522) + z3519))
    (fun h1 =>
    .test (IntKind.wrap IntKind.u64 (z3522 + z3516) ≥ 4294967296)
     (fun h2 =>
     .ret (N123_0.e0 (z3514) (z3515) (z3516) (z3517) (z3518) (z3519) (z3520) (IntKind.wrap IntKind.u64 (z3521 - 1)))
     )
     (fun h2 =>
     .ret (N123_0.s0 (z3514) (z3515) (z3516) (z3517) (z3518) (z3519) (z3520) (IntKind.wrap IntKind.u64 (z3521 - 1)) (IntKind.wrap IntKind.u64 (z3522 + z3516)))
     )
    )
    (fun h1 =>
    .ret (N123_0.e0 (z3514) (z3515) (z3516) (z3517) (z3518) (z3519) (z3520) (z3521))
    )
   )
noncomputable def S123_0 : N123_0 → PT N123_0
  | .s0 z3514 z3515 z3516 z3517 z3518 z3519 z3520 z3521 z3522 => D123_0 z3514 z3515 z3516 z3517 z3518 z3519 z3520 z3521 z3522
  | _ => .fail
def N123_0.off : N123_0 → Bool
  | .s0 _ _ _ _ _ _ _ _ _ => false
  | _ => true
noncomputable def L123_0 (n : Nat) (b : N123_0) : Option N123_0 := PT.loop (S123_0) N123_0.off n b
theorem L123_0_ok : ∀ (n : Nat) (b : N123_0), N123_0.off b = false → ∀ c, L123_0 n b = some c → loopP Try.prog X CC 123 (0) 18446744073709551616 B123 0 n (E123_0.out b).2 = some (E123_0.out c) :=
  loop_ok (E := E123_0) (step := S123_0) (L := notIn []) (fun b hb => by cases b <;> first | (cases hb; done) | (intro x; kernel_rfl)) (fun b => by cases b <;> rfl)
noncomputable def N123_0.nx (n : Nat) (c : N123_0) : Option N123_0 := match N123_0.off c with
  | true => some c
  | false => L123_0 n c
theorem L123_0_s0 (n : Nat) (z3514 : Int) (z3515 : Int) (z3516 : Int) (z3517 : Int) (z3518 : Int) (z3519 : Int) (z3520 : Int) (z3521 : Int) (z3522 : Int) : L123_0 (n + 1) (.s0 z3514 z3515 z3516 z3517 z3518 z3519 z3520 z3521 z3522) = (D123_0 z3514 z3515 z3516 z3517 z3518 z3519 z3520 z3521 z3522).ev (N123_0.nx n) := rfl
theorem N123_0.nx_s0 (n : Nat) (z3514 : Int) (z3515 : Int) (z3516 : Int) (z3517 : Int) (z3518 : Int) (z3519 : Int) (z3520 : Int) (z3521 : Int) (z3522 : Int) : N123_0.nx n (.s0 z3514 z3515 z3516 z3517 z3518 z3519 z3520 z3521 z3522) = L123_0 n (.s0 z3514 z3515 z3516 z3517 z3518 z3519 z3520 z3521 z3522) := rfl
theorem N123_0.nx_e0 (n : Nat) (z3523 : Int) (z3524 : Int) (z3525 : Int) (z3526 : Int) (z3527 : Int) (z3528 : Int) (z3529 : Int) (z3530 : Int) : N123_0.nx n (.e0 z3523 z3524 z3525 z3526 z3527 z3528 z3529 z3530) = some (.e0 z3523 z3524 z3525 z3526 z3527 z3528 z3529 z3530) := rfl
noncomputable def D123 (z3502 : Int) (z3503 : Int) (z3504 : Int) : PT A123 :=
  .testB (z3504 == 0)
   (fun _ => .fail) -- none
   (fun h0 =>
   .test (z3504 ≤ z3502)
    (fun _ => .fail) -- none
    (fun h1 =>
    .testB (z3502 == 0)
     (fun h2 =>
     .test (z3504 = 0)
      (fun _ => .fail) -- none
      (fun h3 =>
      .known (decide_eq_false h3) <|
      .ret (A123.a0 (IntKind.wrap IntKind.u64 (Int.tdiv z3503 z3504)) (Int.tmod z3503 z3504))
      )
     )
     (fun h2 =>
     .ask E124 (F124_ok (z3504)) fun (r : A124) => match r with
     | .a0 z3560 =>
      .test (IntKind.wrap IntKind.u64 z3560 < 0)
       (fun _ => .fail) -- none
       (fun h3 =>
       .auto 1 <|
       .known (decide_eq_false h3) <|
       .test (IntKind.wrap IntKind.u64 (64 - IntKind.wrap IntKind.u64 z3560) < 0)
        (fun _ => .fail) -- none
        (fun h4 =>
        .known (decide_eq_false h3) <|
        .auto 1 <|
        .test (Int.fdiv (IntKind.wrap IntKind.u64 (z3504 * 2 ^ min (Int.toNat (IntKind.wrap IntKind.u64 z3560)) 64)) 4294967296 = 0)
         (fun _ => .fail) -- none
         (fun h5 =>
         .cut E123_0 (L123_0_ok 18446744073709551616 (.s0 (IntKind.wrap IntKind.u64 (z3504 * 2 ^ min (Int.toNat (IntKind.wrap IntKind.u64 z3560)) 64)) (IntKind.wrap IntKind.u64 z3560) (Int.fdiv (IntKind.wrap IntKind.u64 (z3504 * 2 ^ min (Int.toNat (IntKind.wrap IntKind.u64 z3560)) 64)) 4294967296) (IntKind.wrap IntKind.u64 (↑(BitVec.toNat (BitVec.ofInt (IntKind.bits IntKind.u64) (IntKind.wrap IntKind.u64 (z3504 * 2 ^ min (Int.toNat (IntKind.wrap IntKind.u64 z3560)) 64)) &&& BitVec.ofInt (IntKind.bits IntKind.u64) 4294967295)) : Int)) (IntKind.wrap IntKind.u64 (↑(BitVec.toNat (BitVec.ofInt (IntKind.bits IntKind.u64) (IntKind.wrap IntKind.u64 (z3502 * 2 ^ min (Int.toNat (IntKind.wrap IntKind.u64 z3560)) (IntKind.bits IntKind.u64))) ||| BitVec.ofInt (IntKind.bits IntKind.u64) (Int.fdiv z3503 (2 ^ min (Int.toNat (IntKind.wrap IntKind.u64 (64 - IntKind.wrap IntKind.u64 z3560))) (IntKind.bits IntKind.u64))))) : Int)) (Int.fdiv (IntKind.wrap IntKind.u64 (z3503 * 2 ^ min (Int.toNat (IntKind.wrap IntKind.u64 z3560)) 64)) 4294967296) (IntKind.wrap IntKind.u64 (↑(BitVec.toNat (BitVec.ofInt (IntKind.bits IntKind.u64) (IntKind.wrap IntKind.u64 (z3503 * 2 ^ min (Int.toNat (IntKind.wrap IntKind.u64 z3560)) 64)) &&& BitVec.ofInt (IntKind.bits IntKind.u64) 4294967295)) : Int)) (IntKind.wrap IntKind.u64 (Int.tdiv (IntKind.wrap IntKind.u64 (↑(BitVec.toNat (BitVec.ofInt (IntKind.bits IntKind.u64) (IntKind.wrap IntKind.u64 (z3502 * 2 ^ min (Int.toNat (IntKind.wrap IntKind.u64 z3560)) (IntKind.bits IntKind.u64))) ||| BitVec.ofInt (IntKind.bits IntKind.u64) (Int.fdiv z3503 (2 ^ min (Int.toNat (IntKind.wrap IntKind.u64 (64 - IntKind.wrap IntKind.u64 z3560))) (IntKind.bits IntKind.u64))))) : Int)) (Int.fdiv (IntKind.wrap IntKind.u64 (z3504 * 2 ^ min (Int.toNat (IntKind.wrap IntKind.u64 z3560)) 64)) 4294967296))) (IntKind.wrap IntKind.u64 (IntKind.wrap IntKind.u64 (↑(BitVec.toNat (BitVec.ofInt (IntKind.bits IntKind.u64) (IntKind.wrap IntKind.u64 (z3502 * 2 ^ min (Int.toNat (IntKind.wrap IntKind.u64 z3560)) (IntKind.bits IntKind.u64))) ||| BitVec.ofInt (IntKind.bits IntKind.u64) (Int.fdiv z3503 (2 ^ min (Int.toNat (IntKind.wrap IntKind.u64 (64 - IntKind.wrap IntKind.u64 z3560))) (IntKind.bits IntKind.u64))))) : Int) - IntKind.wrap IntKind.u64 (IntKind.wrap IntKind.u64 (Int.tdiv (IntKind.wrap IntKind.u64 (↑(BitVec.toNat (BitVec.ofInt (IntKind.bits IntKind.u64) (IntKind.wrap IntKind.u64 (z3502 * 2 ^ min (Int.toNat (IntKind.wrap IntKind.u64 z3560)) (IntKind.bits IntKind.u64))) ||| BitVec.ofInt (IntKind.bits IntKind.u64) (Int.fdiv z3503 (2 ^ min (Int.toNat (IntKind.wrap IntKind.u64 (64 - IntKind.wrap IntKind.u64 z3560))) (IntKind.bits IntKind.u64))))) : Int)) (Int.fdiv (IntKind.wrap IntKind.u64 (z3504 * 2 ^ min (Int.toNat (IntKind.wrap IntKind.u64 z3560)) 64)) 4294967296)) * Int.fdiv (IntKind.wrap IntKind.u64 (z3504 * 2 ^ min (Int.toNat (IntKind.wrap IntKind.u64 z3560)) 64)) 4294967296)))) rfl) fun (r : N123_0) => match r with
         | .e0 z3561 z3562 z3563 z3564 z3565 z3566 z3567 z3568 =>
          .test (z3563 = 0)
           (fun _ => .fail) -- none
           (fun h6 =>
           .cut E123_2 (L123_2_ok 18446744073709551616 (.s0 (z3561) (z3562) (z3563) (z3564) (z3567) (z3568) (IntKind.wrap IntKind.u64 (IntKind.wrap IntKind.u64 (IntKind.wrap IntKind.u64 (IntKind.wrap IntKind.u64 (z3565 * 4294967296) + z3566) - IntKind.wrap IntKind.u64 (z3568 * z3561)) - IntKind.wrap IntKind.u64 (IntKind.wrap IntKind.u64 (Int.tdiv (IntKind.wrap IntKind.u64 (IntKind.wrap IntKind.u64 (IntKind.wrap IntKind.u64 (z3565 * 4294967296) + z3566) - IntKind.wrap IntKind.u64 (z3568 * z3561))) z3563) * z3563))) (IntKind.wrap IntKind.u64 (IntKind.wrap IntKind.u64 (IntKind.wrap IntKind.u64 (z3565 * 4294967296) + z3566) - IntKind.wrap IntKind.u64 (z3568 * z3561))) (IntKind.wrap IntKind.u64 (Int.tdiv (IntKind.wrap IntKind.u64 (IntKind.wrap IntKind.u64 (IntKind.wrap IntKind.u64 (z3565 * 4294967296) + z3566) - IntKind.wrap IntKind.u64 (z3568 * z3561))) z3563))) rfl) fun (r : N123_2) => match r with
           | .e0 z3569 z3570 z3571 z3572 z3573 z3574 =>
            .test (z3570 < 0)
             (fun _ => .fail) -- none
             (fun h7 =>
             .ret (A123.a0 (IntKind.wrap IntKind.u64 (IntKind.wrap IntKind.u64 (z3572 * 4294967296) + z3574)) (Int.fdiv (IntKind.wrap IntKind.u64 (IntKind.wrap IntKind.u64 (IntKind.wrap IntKind.u64 (z3573 * 4294967296) + z3571) - IntKind.wrap IntKind.u64 (z3574 * z3569))) (2 ^ min (Int.toNat z3570) 64)))
             )
           | _ => .fail
           )
         | _ => .fail
         )
        )
       )
     )
    )
   )
noncomputable def F123 (z3502 : Int) (z3503 : Int) (z3504 : Int) : Option A123 := (D123 z3502 z3503 z3504).ev some
theorem F123_ok (z3502 : Int) (z3503 : Int) (z3504 : Int) : ∀ b, F123 z3502 z3503 z3504 = some b → UU 123 ([V.int IntKind.u64 z3502, V.int IntKind.u64 z3503, V.int IntKind.u64 z3504]) ([]) = some (A123.out b) :=
  fn_ok (E := E123) (L := notIn []) rfl rfl (fun x => by kernel_rfl)
/-! ## F114 -/
noncomputable abbrev B114 : Code := (Try.f114.body).getD .skip
inductive N114_r6 where
  | e0 (b3580 : Bool) (z3581 : Int) (b3582 : Bool)
@[reducible] def N114_r6.out : N114_r6 → VX × S
  | .e0 b3580 z3581 b3582 => (VX.normal, { T := U :: U :: U :: vb b3580 :: un 5 (V.int IntKind.u64 z3581 :: un 21 (vb b3582 :: un 10 [])), σ := [] })
def N114_r6.ex (g : N114_r6 → Prop) : Prop := (∃ (b3580 : Bool) (z3581 : Int) (b3582 : Bool), g (.e0 b3580 z3581 b3582))
theorem N114_r6.ok (g : N114_r6 → Prop) : N114_r6.ex g ↔ ∃ b, g b := ⟨fun h => match h with
  | ⟨_, _, _, h⟩ => ⟨_, h⟩, fun ⟨b, h⟩ => match b, h with
  | .e0 _ _ _, h => ⟨_, _, _, h⟩⟩
abbrev E114_r6 : Ent (VX × S) := ⟨N114_r6, N114_r6.out, N114_r6.ex, N114_r6.ok⟩
noncomputable def D114_r6 (b3577 : Bool) (z3578 : Int) (z3579 : Int) : PT N114_r6 :=
  .testB (b3577)
   (fun h0 =>
   .auto 2 <|
   .test (z3579 > 0)
    (fun h1 =>
    .auto 2 <|
    .ret (N114_r6.e0 (b3577) (z3578) (decide (z3578 < 4611686018427387904)))
    )
    (fun h1 =>
    .auto 2 <|
    .ret (N114_r6.e0 (b3577) (z3578) (false))
    )
   )
   (fun h0 =>
   .auto 5 <|
   .ret (N114_r6.e0 (b3577) (z3578) (false))
   )
noncomputable def J114_r6 (b3577 : Bool) (z3578 : Int) (z3579 : Int) : Option N114_r6 := (D114_r6 b3577 z3578 z3579).ev some
theorem J114_r6_ok (b3577 : Bool) (z3578 : Int) (z3579 : Int) : ∀ b, J114_r6 b3577 z3578 z3579 = some b → regP Try.prog X CC 114 (0) B114 6 ({ T := U :: U :: U :: vb b3577 :: un 5 (V.int IntKind.u64 z3578 :: V.int IntKind.u64 z3579 :: un 31 []), σ := [] }) = some (E114_r6.out b) :=
  reg_ok (E := E114_r6) (fun x => by kernel_rfl)
noncomputable def D114 (z3497 : Int) (z3498 : Int) (z3499 : Int) (b3500 : Bool) : PT A114 :=
  .test (z3497 ≥ z3499)
   (fun h0 =>
   .testB (b3500)
    (fun h1 =>
    .ret (A114.a0 (-1099511627776))
    )
    (fun h1 =>
    .ret (A114.a0 (1099511627776))
    )
   )
   (fun h0 =>
   .ask E123 (F123_ok (z3497) (z3498) (z3499)) fun (r : A123) => match r with
   | .a0 z3590 z3591 =>
    .cut E114_r6 (J114_r6_ok (b3500) (z3590) (z3591)) fun (r : N114_r6) => match r with
    | .e0 b3592 z3593 b3594 =>
     .testB (b3594)
      (fun h1 =>
      .testB (b3592)
       (fun h2 =>
       .tot O100 (F100_ok (w64 (0 - w64 (if 4611686018427387904 < IntKind.wrap IntKind.u64 (z3593 + 1) then 4611686018427387904 else IntKind.wrap IntKind.u64 (z3593 + 1))))) fun z3595 =>
       .ret (A114.a0 (z3595))
       )
       (fun h2 =>
       .tot O100 (F100_ok (w64 (if 4611686018427387904 < IntKind.wrap IntKind.u64 (z3593 + 1) then 4611686018427387904 else IntKind.wrap IntKind.u64 (z3593 + 1)))) fun z3596 =>
       .ret (A114.a0 (z3596))
       )
      )
      (fun h1 =>
      .testB (b3592)
       (fun h2 =>
       .tot O100 (F100_ok (w64 (0 - w64 (if 4611686018427387904 < z3593 then 4611686018427387904 else z3593)))) fun z3597 =>
       .ret (A114.a0 (z3597))
       )
       (fun h2 =>
       .tot O100 (F100_ok (w64 (if 4611686018427387904 < z3593 then 4611686018427387904 else z3593))) fun z3598 =>
       .ret (A114.a0 (z3598))
       )
      )
   )
noncomputable def F114 (z3497 : Int) (z3498 : Int) (z3499 : Int) (b3500 : Bool) : Option A114 := (D114 z3497 z3498 z3499 b3500).ev some
theorem F114_ok (z3497 : Int) (z3498 : Int) (z3499 : Int) (b3500 : Bool) : ∀ b, F114 z3497 z3498 z3499 b3500 = some b → UU 114 ([V.int IntKind.u64 z3497, V.int IntKind.u64 z3498, V.int IntKind.u64 z3499, vb b3500]) ([]) = some (A114.out b) :=
  fn_ok (E := E114) (L := notIn []) rfl rfl (fun x => by kernel_rfl)
/-! ## F86 -/
noncomputable def D86 (z3484 : Int) (z3485 : Int) : PT A86 :=
  .tot O100 (F100_ok (z3484)) fun z3486 =>
  .ask E112 (F112_ok (z3486)) fun (r : A112) => match r with
  | .a0 z3490 b3491 =>
   .tot O100 (F100_ok (z3485)) fun z3492 =>
   .ask E112 (F112_ok (z3492)) fun (r : A112) => match r with
   | .a0 z3493 b3494 =>
    .ask E113 (F113_ok (z3490) (z3493)) fun (r : A113) => match r with
    | .a0 z3495 z3496 =>
     .ask E114 (F114_ok (z3495) (z3496) (65536) (!b3491 == b3494)) fun (r : A114) => match r with
     | .a0 z3599 =>
      .ret (A86.a0 (z3599))
noncomputable def F86 (z3484 : Int) (z3485 : Int) : Option A86 := (D86 z3484 z3485).ev some
theorem F86_ok (z3484 : Int) (z3485 : Int) : ∀ b, F86 z3484 z3485 = some b → UU 86 ([i64 z3484, i64 z3485]) ([]) = some (A86.out b) :=
  fn_ok (E := E86) (L := notIn []) rfl rfl (fun x => by kernel_rfl)
/-! ## F67 -/
noncomputable def D67 (z3466 : Int) (z3467 : Int) (z3468 : Int) : PT A67 :=
  .tot O100 (F100_ok (z3466)) fun z3476 =>
  .tot O99 (F99_ok (z3467) (w64 (0 - z3476))) fun z3483 =>
  .ask E86 (F86_ok (z3483) (z3468)) fun (r : A86) => match r with
  | .a0 z3601 =>
   .tot O99 (F99_ok (z3466) (z3601)) fun z3602 =>
   .ret (A67.a0 (z3602))
noncomputable def F67 (z3466 : Int) (z3467 : Int) (z3468 : Int) : Option A67 := (D67 z3466 z3467 z3468).ev some
theorem F67_ok (z3466 : Int) (z3467 : Int) (z3468 : Int) : ∀ b, F67 z3466 z3467 z3468 = some b → UU 67 ([i64 z3466, i64 z3467, i64 z3468]) ([]) = some (A67.out b) :=
  fn_ok (E := E67) (L := notIn []) rfl rfl (fun x => by kernel_rfl)
/-! ## F30 -/
noncomputable abbrev B30 : Code := (Try.f30.body).getD .skip
inductive N30_0 where
  | s0 (z3607 : Int) (z3608 : Int) (b3609 : Bool) (l3610 : List (List V)) (b3611 : Bool) (l3612 : List (List V)) (k3613 : Nat) (l3614 : List (List V))
  | e0 (b3626 : Bool) (k3627 : Nat) (l3628 : List (List V))
@[reducible] def N30_0.out : N30_0 → VX × S
  | .s0 z3607 z3608 b3609 l3610 b3611 l3612 k3613 l3614 => (VX.normal, { T := U :: U :: i64 z3607 :: V.ptr 0 0 0 :: V.ptr 1 0 0 :: U :: V.ptr 2 0 0 :: V.ptr 3 0 0 :: i64 z3608 :: un 47 [], σ := [Ob.cells true false 2 [[vb b3609, V.list 2 l3610]], Ob.cells true false 2 [[vb b3611, V.list 2 l3612]], Ob.cells true false 2 [[vb false, V.hs 4 0 0]], Ob.cells true false 2 [[vb b3609, V.hs 5 0 k3613]], Ob.cells true true 2 [], Ob.cells true true 2 l3614] })
  | .e0 b3626 k3627 l3628 => (VX.exit 0, { T := un 6 (V.ptr 0 0 0 :: V.ptr 1 0 0 :: un 48 []), σ := [Ob.cells true false 2 [[vb false, V.hs 2 0 0]], Ob.cells true false 2 [[vb b3626, V.hs 3 0 k3627]], Ob.cells true true 2 [], Ob.cells true true 2 l3628] })
def N30_0.ex (g : N30_0 → Prop) : Prop := (∃ (z3607 : Int) (z3608 : Int) (b3609 : Bool) (l3610 : List (List V)) (b3611 : Bool) (l3612 : List (List V)) (k3613 : Nat) (l3614 : List (List V)), g (.s0 z3607 z3608 b3609 l3610 b3611 l3612 k3613 l3614)) ∨ (∃ (b3626 : Bool) (k3627 : Nat) (l3628 : List (List V)), g (.e0 b3626 k3627 l3628))
theorem N30_0.ok (g : N30_0 → Prop) : N30_0.ex g ↔ ∃ b, g b := ⟨fun h => match h with
  | .inl ⟨_, _, _, _, _, _, _, _, h⟩ => ⟨_, h⟩
  | .inr (⟨_, _, _, h⟩) => ⟨_, h⟩, fun ⟨b, h⟩ => match b, h with
  | .s0 _ _ _ _ _ _ _ _, h => .inl ⟨_, _, _, _, _, _, _, _, h⟩
  | .e0 _ _ _, h => .inr (⟨_, _, _, h⟩)⟩
abbrev E30_0 : Ent (VX × S) := ⟨N30_0, N30_0.out, N30_0.ex, N30_0.ok⟩
noncomputable def D30_0 (z3607 : Int) (z3608 : Int) (b3609 : Bool) (l3610 : List (List V)) (b3611 : Bool) (l3612 : List (List V)) (k3613 : Nat) (l3614 : List (List V)) : PT N30_0 :=
  .auto 1 <|
  .test (z3608 < (↑(List.length l3610) : Int))
   (fun h0 =>
   .auto 1 <|
   .test (0 ≤ z3608)
    (fun h1 =>
    .look RW26 (l3610[Int.toNat z3608]?) fun e3632 =>
    .auto 3 <|
    .tot O27 (F27_ok (b3609) (l3610) (b3611) (l3612)) fun b3633 =>
    .testB (b3633)
     (fun h2 =>
     .auto 2 <|
     .known (decide_eq_true h1) <|
     .look RW26 (l3612[Int.toNat z3608]?) fun e3634 =>
     .ask E67 (F67_ok (e3632.c0) (e3634.c0) (z3607)) fun (r : A67) => match r with
     | .a0 z3635 =>
      .auto 2 <|
      .known (decide_eq_true h1) <|
      .look RW26 (l3612[Int.toNat z3608]?) fun e3636 =>
      .ask E67 (F67_ok (e3632.c1) (e3636.c1) (z3607)) fun (r : A67) => match r with
      | .a0 z3637 =>
       .auto 4 <|
       .test (0 + k3613 ≤ List.length l3614 ∧ (k3613 + 1) * 16 ≤ 140737488355328 ∧ k3613 + 1 ≤ 140737488355328)
        (fun h3 =>
        .auto 1 <|
        .ret (N30_0.s0 (z3607) (w64 (z3608 + 1)) (b3609) (l3610) (b3611) (l3612) (k3613 + 1) (List.take k3613 l3614 ++ [[i64 z3635, i64 z3637]]))
        )
        (fun _ => .fail) -- none
     )
     (fun h2 =>
     .auto 3 <|
     .test (0 + k3613 ≤ List.length l3614 ∧ (k3613 + 1) * 16 ≤ 140737488355328 ∧ k3613 + 1 ≤ 140737488355328)
      (fun h3 =>
      .auto 1 <|
      .ret (N30_0.s0 (z3607) (w64 (z3608 + 1)) (b3609) (l3610) (b3611) (l3612) (k3613 + 1) (List.take k3613 l3614 ++ [[i64 e3632.c0, i64 e3632.c1]]))
      )
      (fun _ => .fail) -- none
     )
    )
    (fun _ => .fail) -- none
   )
   (fun h0 =>
   .ret (N30_0.e0 (b3609) (k3613) (l3614))
   )
noncomputable def S30_0 : N30_0 → PT N30_0
  | .s0 z3607 z3608 b3609 l3610 b3611 l3612 k3613 l3614 => D30_0 z3607 z3608 b3609 l3610 b3611 l3612 k3613 l3614
  | _ => .fail
def N30_0.off : N30_0 → Bool
  | .s0 _ _ _ _ _ _ _ _ => false
  | _ => true
noncomputable def L30_0 (n : Nat) (b : N30_0) : Option N30_0 := PT.loop (S30_0) N30_0.off n b
theorem L30_0_ok : ∀ (n : Nat) (b : N30_0), N30_0.off b = false → ∀ c, L30_0 n b = some c → loopP Try.prog X CC 30 (0) 18446744073709551616 B30 0 n (E30_0.out b).2 = some (E30_0.out c) :=
  loop_ok (E := E30_0) (step := S30_0) (L := notIn []) (fun b hb => by cases b <;> first | (cases hb; done) | (intro x; kernel_rfl)) (fun b => by cases b <;> rfl)
noncomputable def N30_0.nx (n : Nat) (c : N30_0) : Option N30_0 := match N30_0.off c with
  | true => some c
  | false => L30_0 n c
theorem L30_0_s0 (n : Nat) (z3607 : Int) (z3608 : Int) (b3609 : Bool) (l3610 : List (List V)) (b3611 : Bool) (l3612 : List (List V)) (k3613 : Nat) (l3614 : List (List V)) : L30_0 (n + 1) (.s0 z3607 z3608 b3609 l3610 b3611 l3612 k3613 l3614) = (D30_0 z3607 z3608 b3609 l3610 b3611 l3612 k3613 l3614).ev (N30_0.nx n) := rfl
theorem N30_0.nx_s0 (n : Nat) (z3607 : Int) (z3608 : Int) (b3609 : Bool) (l3610 : List (List V)) (b3611 : Bool) (l3612 : List (List V)) (k3613 : Nat) (l3614 : List (List V)) : N30_0.nx n (.s0 z3607 z3608 b3609 l3610 b3611 l3612 k3613 l3614) = L30_0 n (.s0 z3607 z3608 b3609 l3610 b3611 l3612 k3613 l3614) := rfl
theorem N30_0.nx_e0 (n : Nat) (b3626 : Bool) (k3627 : Nat) (l3628 : List (List V)) : N30_0.nx n (.e0 b3626 k3627 l3628) = some (.e0 b3626 k3627 l3628) := rfl
noncomputable def D30 (b3453 : Bool) (l3454 : List (List V)) (b3455 : Bool) (l3456 : List (List V)) (z3457 : Int) : PT A30 :=
  .auto 2 <|
  .cut E30_0 (L30_0_ok 18446744073709551616 (.s0 (z3457) (0) (b3453) (l3454) (b3455) (l3456) (0) ([])) rfl) fun (r : N30_0) => match r with
  | .e0 b3638 k3639 l3640 =>
   .auto 2 <|
   .ret (A30.a0 (b3638) (k3639) (l3640))
  | _ => .fail
noncomputable def F30 (b3453 : Bool) (l3454 : List (List V)) (b3455 : Bool) (l3456 : List (List V)) (z3457 : Int) : Option A30 := (D30 b3453 l3454 b3455 l3456 z3457).ev some
theorem F30_ok (b3453 : Bool) (l3454 : List (List V)) (b3455 : Bool) (l3456 : List (List V)) (z3457 : Int) : ∀ b, F30 b3453 l3454 b3455 l3456 z3457 = some b → UU 30 ([V.agg [vb b3453, V.list 2 l3454], V.agg [vb b3455, V.list 2 l3456], i64 z3457]) ([]) = some (A30.out b) :=
  fn_ok (E := E30) (L := notIn []) rfl rfl (fun x => by kernel_rfl)
/-! ## F64 -/
noncomputable abbrev B64 : Code := (Try.f64.body).getD .skip
inductive N64_0 where
  | s0 (l3656 : List (List V)) (l3657 : List (List V)) (z3658 : Int) (z3659 : Int)
  | e0
  | e1
@[reducible] def N64_0.out : N64_0 → VX × S
  | .s0 l3656 l3657 z3658 z3659 => (VX.normal, { T := V.list 2 l3656 :: V.list 2 l3657 :: un 10 (i64 z3658 :: i64 z3659 :: un 12 []), σ := [] })
  | .e0 => (VX.ret, { T := un 4 (vb false :: un 21 []), σ := [] })
  | .e1 => (VX.exit 0, { T := un 26 [], σ := [] })
def N64_0.ex (g : N64_0 → Prop) : Prop := (∃ (l3656 : List (List V)) (l3657 : List (List V)) (z3658 : Int) (z3659 : Int), g (.s0 l3656 l3657 z3658 z3659)) ∨ g .e0 ∨ g .e1
theorem N64_0.ok (g : N64_0 → Prop) : N64_0.ex g ↔ ∃ b, g b := ⟨fun h => match h with
  | .inl ⟨_, _, _, _, h⟩ => ⟨_, h⟩
  | .inr (.inl h) => ⟨_, h⟩
  | .inr (.inr (h)) => ⟨_, h⟩, fun ⟨b, h⟩ => match b, h with
  | .s0 _ _ _ _, h => .inl ⟨_, _, _, _, h⟩
  | .e0, h => .inr (.inl h)
  | .e1, h => .inr (.inr (h))⟩
abbrev E64_0 : Ent (VX × S) := ⟨N64_0, N64_0.out, N64_0.ex, N64_0.ok⟩
noncomputable def D64_0 (l3656 : List (List V)) (l3657 : List (List V)) (z3658 : Int) (z3659 : Int) : PT N64_0 :=
  .test (z3659 < z3658)
   (fun h0 =>
   .test (0 ≤ z3659)
    (fun h1 =>
    .look RW26 (l3656[Int.toNat z3659]?) fun e3660 =>
    .known (decide_eq_true h1) <|
    .look RW26 (l3657[Int.toNat z3659]?) fun e3661 =>
    .testB (!(e3660.c0 == e3661.c0 && (e3660.c1 == e3661.c1 && true)))
     (fun h2 =>
     .ret (N64_0.e0)
     )
     (fun h2 =>
     .ret (N64_0.s0 (l3656) (l3657) (z3658) (w64 (z3659 + 1)))
     )
    )
    (fun _ => .fail) -- none
   )
   (fun h0 =>
   .ret (N64_0.e1)
   )
noncomputable def S64_0 : N64_0 → PT N64_0
  | .s0 l3656 l3657 z3658 z3659 => D64_0 l3656 l3657 z3658 z3659
  | _ => .fail
def N64_0.off : N64_0 → Bool
  | .s0 _ _ _ _ => false
  | _ => true
noncomputable def L64_0 (n : Nat) (b : N64_0) : Option N64_0 := PT.loop (S64_0) N64_0.off n b
theorem L64_0_ok : ∀ (n : Nat) (b : N64_0), N64_0.off b = false → ∀ c, L64_0 n b = some c → loopP Try.prog X CC 64 (0) 18446744073709551616 B64 0 n (E64_0.out b).2 = some (E64_0.out c) :=
  loop_ok (E := E64_0) (step := S64_0) (L := notIn []) (fun b hb => by cases b <;> first | (cases hb; done) | (intro x; kernel_rfl)) (fun b => by cases b <;> rfl)
noncomputable def N64_0.nx (n : Nat) (c : N64_0) : Option N64_0 := match N64_0.off c with
  | true => some c
  | false => L64_0 n c
theorem L64_0_s0 (n : Nat) (l3656 : List (List V)) (l3657 : List (List V)) (z3658 : Int) (z3659 : Int) : L64_0 (n + 1) (.s0 l3656 l3657 z3658 z3659) = (D64_0 l3656 l3657 z3658 z3659).ev (N64_0.nx n) := rfl
theorem N64_0.nx_s0 (n : Nat) (l3656 : List (List V)) (l3657 : List (List V)) (z3658 : Int) (z3659 : Int) : N64_0.nx n (.s0 l3656 l3657 z3658 z3659) = L64_0 n (.s0 l3656 l3657 z3658 z3659) := rfl
theorem N64_0.nx_e0 (n : Nat) : N64_0.nx n (.e0) = some (.e0) := rfl
theorem N64_0.nx_e1 (n : Nat) : N64_0.nx n (.e1) = some (.e1) := rfl
noncomputable def D64 (l3648 : List (List V)) (l3649 : List (List V)) : PT A64 :=
  .testB ((↑(List.length l3648) : Int) != (↑(List.length l3649) : Int))
   (fun h0 =>
   .ret (A64.a0 (false))
   )
   (fun h0 =>
   .cut E64_0 (L64_0_ok 18446744073709551616 (.s0 (l3648) (l3649) ((↑(List.length l3648) : Int)) (0)) rfl) fun (r : N64_0) => match r with
   | .e0 =>
    .ret (A64.a0 (false))
   | .e1 =>
    .ret (A64.a0 (true))
   | _ => .fail
   )
noncomputable def F64 (l3648 : List (List V)) (l3649 : List (List V)) : Option A64 := (D64 l3648 l3649).ev some
theorem F64_ok (l3648 : List (List V)) (l3649 : List (List V)) : ∀ b, F64 l3648 l3649 = some b → UU 64 ([V.list 2 l3648, V.list 2 l3649]) ([]) = some (A64.out b) :=
  fn_ok (E := E64) (L := notIn []) rfl rfl (fun x => by kernel_rfl)
/-! ## F28 -/
noncomputable def D28 (b3644 : Bool) (l3645 : List (List V)) (b3646 : Bool) (l3647 : List (List V)) : PT A28 :=
  .auto 2 <|
  .testB (b3644 == b3646)
   (fun h0 =>
   .auto 6 <|
   .ask E64 (F64_ok (l3645) (l3647)) fun (r : A64) => match r with
   | .a0 b3662 =>
    .auto 1 <|
    .ret (A28.a0 (b3662))
   )
   (fun h0 =>
   .auto 5 <|
   .ret (A28.a0 (false))
   )
noncomputable def F28 (b3644 : Bool) (l3645 : List (List V)) (b3646 : Bool) (l3647 : List (List V)) : Option A28 := (D28 b3644 l3645 b3646 l3647).ev some
theorem F28_ok (b3644 : Bool) (l3645 : List (List V)) (b3646 : Bool) (l3647 : List (List V)) : ∀ b, F28 b3644 l3645 b3646 l3647 = some b → UU 28 ([V.agg [vb b3644, V.list 2 l3645], V.agg [vb b3646, V.list 2 l3647]]) ([]) = some (A28.out b) :=
  fn_ok (E := E28) (L := notIn []) rfl rfl (fun x => by kernel_rfl)
/-! ## F102 -/
noncomputable def D102 (z3690 : Int) (z3691 : Int) (z3692 : Int) (z3693 : Int) (z3694 : Int) : PT A102 :=
  .ask E86 (F86_ok (z3690) (z3691)) fun (r : A86) => match r with
  | .a0 z3695 =>
   .ask E86 (F86_ok (z3692) (z3693)) fun (r : A86) => match r with
   | .a0 z3696 =>
    .tot O99 (F99_ok (z3695) (z3696)) fun z3697 =>
    .tot O99 (F99_ok (z3697) (z3694)) fun z3698 =>
    .ret (A102.a0 (z3698))
noncomputable def F102 (z3690 : Int) (z3691 : Int) (z3692 : Int) (z3693 : Int) (z3694 : Int) : Option A102 := (D102 z3690 z3691 z3692 z3693 z3694).ev some
theorem F102_ok (z3690 : Int) (z3691 : Int) (z3692 : Int) (z3693 : Int) (z3694 : Int) : ∀ b, F102 z3690 z3691 z3692 z3693 z3694 = some b → UU 102 ([i64 z3690, i64 z3691, i64 z3692, i64 z3693, i64 z3694]) ([]) = some (A102.out b) :=
  fn_ok (E := E102) (L := notIn []) rfl rfl (fun x => by kernel_rfl)
/-! ## F101 -/
noncomputable def D101 (z3701 : Int) : PT (Int) :=
  .tot O119 (F119_ok (z3701) (-536870912) (536870912)) fun z3702 =>
  .ret (z3702)
@[reducible] def O101 (z3703 : Int) : V × Store := (i64 z3703, [])
noncomputable def F101 (z3701 : Int) : Int := (D101 z3701).evT
theorem F101_ok (z3701 : Int) : UU 101 ([i64 z3701]) ([]) = some (O101 (F101 z3701)) :=
  fnT_ok (out := O101) (L := notIn []) rfl rfl (fun x => by kernel_rfl) (by simp [D101, PT.isT])
/-! ## F68 -/
noncomputable def D68 (z3682 : Int) (z3683 : Int) (z3684 : Int) (z3685 : Int) (z3686 : Int) (z3687 : Int) (z3688 : Int) (z3689 : Int) : PT A68 :=
  .auto 5 <|
  .ask E102 (F102_ok (z3682) (z3688) (z3684) (z3689) (z3686)) fun (r : A102) => match r with
  | .a0 z3700 =>
   .tot O101 (F101_ok (z3700)) fun z3704 =>
   .auto 5 <|
   .ask E102 (F102_ok (z3683) (z3688) (z3685) (z3689) (z3687)) fun (r : A102) => match r with
   | .a0 z3705 =>
    .tot O101 (F101_ok (z3705)) fun z3706 =>
    .auto 1 <|
    .ret (A68.a0 (z3704) (z3706))
noncomputable def F68 (z3682 : Int) (z3683 : Int) (z3684 : Int) (z3685 : Int) (z3686 : Int) (z3687 : Int) (z3688 : Int) (z3689 : Int) : Option A68 := (D68 z3682 z3683 z3684 z3685 z3686 z3687 z3688 z3689).ev some
theorem F68_ok (z3682 : Int) (z3683 : Int) (z3684 : Int) (z3685 : Int) (z3686 : Int) (z3687 : Int) (z3688 : Int) (z3689 : Int) : ∀ b, F68 z3682 z3683 z3684 z3685 z3686 z3687 z3688 z3689 = some b → UU 68 ([V.agg [i64 z3682, i64 z3683, i64 z3684, i64 z3685, i64 z3686, i64 z3687], V.agg [i64 z3688, i64 z3689]]) ([]) = some (A68.out b) :=
  fn_ok (E := E68) (L := notIn []) rfl rfl (fun x => by kernel_rfl)
/-! ## F32 -/
noncomputable abbrev B32 : Code := (Try.f32.body).getD .skip
inductive N32_0 where
  | s0 (l3711 : List (List V)) (k3712 : Nat) (z3713 : Int) (z3714 : Int) (z3715 : Int) (z3716 : Int) (z3717 : Int) (z3718 : Int) (z3719 : Int) (l3720 : List (List V))
  | e0 (k3726 : Nat) (l3727 : List (List V))
@[reducible] def N32_0.out : N32_0 → VX × S
  | .s0 l3711 k3712 z3713 z3714 z3715 z3716 z3717 z3718 z3719 l3720 => (VX.normal, { T := U :: V.list 2 l3711 :: V.ptr 0 0 0 :: U :: U :: V.hs 1 0 k3712 :: i64 z3713 :: un 16 [], σ := [Ob.cells true false 6 [[i64 z3714, i64 z3715, i64 z3716, i64 z3717, i64 z3718, i64 z3719]], Ob.cells true true 2 l3720] })
  | .e0 k3726 l3727 => (VX.exit 0, { T := un 5 (V.hs 0 0 k3726 :: un 17 []), σ := [Ob.cells true true 2 l3727] })
def N32_0.ex (g : N32_0 → Prop) : Prop := (∃ (l3711 : List (List V)) (k3712 : Nat) (z3713 : Int) (z3714 : Int) (z3715 : Int) (z3716 : Int) (z3717 : Int) (z3718 : Int) (z3719 : Int) (l3720 : List (List V)), g (.s0 l3711 k3712 z3713 z3714 z3715 z3716 z3717 z3718 z3719 l3720)) ∨ (∃ (k3726 : Nat) (l3727 : List (List V)), g (.e0 k3726 l3727))
theorem N32_0.ok (g : N32_0 → Prop) : N32_0.ex g ↔ ∃ b, g b := ⟨fun h => match h with
  | .inl ⟨_, _, _, _, _, _, _, _, _, _, h⟩ => ⟨_, h⟩
  | .inr (⟨_, _, h⟩) => ⟨_, h⟩, fun ⟨b, h⟩ => match b, h with
  | .s0 _ _ _ _ _ _ _ _ _ _, h => .inl ⟨_, _, _, _, _, _, _, _, _, _, h⟩
  | .e0 _ _, h => .inr (⟨_, _, h⟩)⟩
abbrev E32_0 : Ent (VX × S) := ⟨N32_0, N32_0.out, N32_0.ex, N32_0.ok⟩
noncomputable def D32_0 (l3711 : List (List V)) (k3712 : Nat) (z3713 : Int) (z3714 : Int) (z3715 : Int) (z3716 : Int) (z3717 : Int) (z3718 : Int) (z3719 : Int) (l3720 : List (List V)) : PT N32_0 :=
  .test (z3713 < (↑(List.length l3711) : Int))
   (fun h0 =>
   .auto 1 <|
   .test (0 ≤ z3713)
    (fun h1 =>
    .look RW26 (l3711[Int.toNat z3713]?) fun e3730 =>
    .ask E68 (F68_ok (z3714) (z3715) (z3716) (z3717) (z3718) (z3719) (e3730.c0) (e3730.c1)) fun (r : A68) => match r with
    | .a0 z3731 z3732 =>
     .auto 1 <|
     .test (0 + k3712 ≤ List.length l3720 ∧ (k3712 + 1) * 16 ≤ 140737488355328 ∧ k3712 + 1 ≤ 140737488355328)
      (fun h2 =>
      .ret (N32_0.s0 (l3711) (k3712 + 1) (w64 (z3713 + 1)) (z3714) (z3715) (z3716) (z3717) (z3718) (z3719) (List.take k3712 l3720 ++ [[i64 z3731, i64 z3732]]))
      )
      (fun _ => .fail) -- none
    )
    (fun _ => .fail) -- none
   )
   (fun h0 =>
   .ret (N32_0.e0 (k3712) (l3720))
   )
noncomputable def S32_0 : N32_0 → PT N32_0
  | .s0 l3711 k3712 z3713 z3714 z3715 z3716 z3717 z3718 z3719 l3720 => D32_0 l3711 k3712 z3713 z3714 z3715 z3716 z3717 z3718 z3719 l3720
  | _ => .fail
def N32_0.off : N32_0 → Bool
  | .s0 _ _ _ _ _ _ _ _ _ _ => false
  | _ => true
noncomputable def L32_0 (n : Nat) (b : N32_0) : Option N32_0 := PT.loop (S32_0) N32_0.off n b
theorem L32_0_ok : ∀ (n : Nat) (b : N32_0), N32_0.off b = false → ∀ c, L32_0 n b = some c → loopP Try.prog X CC 32 (0) 18446744073709551616 B32 0 n (E32_0.out b).2 = some (E32_0.out c) :=
  loop_ok (E := E32_0) (step := S32_0) (L := notIn []) (fun b hb => by cases b <;> first | (cases hb; done) | (intro x; kernel_rfl)) (fun b => by cases b <;> rfl)
noncomputable def N32_0.nx (n : Nat) (c : N32_0) : Option N32_0 := match N32_0.off c with
  | true => some c
  | false => L32_0 n c
theorem L32_0_s0 (n : Nat) (l3711 : List (List V)) (k3712 : Nat) (z3713 : Int) (z3714 : Int) (z3715 : Int) (z3716 : Int) (z3717 : Int) (z3718 : Int) (z3719 : Int) (l3720 : List (List V)) : L32_0 (n + 1) (.s0 l3711 k3712 z3713 z3714 z3715 z3716 z3717 z3718 z3719 l3720) = (D32_0 l3711 k3712 z3713 z3714 z3715 z3716 z3717 z3718 z3719 l3720).ev (N32_0.nx n) := rfl
theorem N32_0.nx_s0 (n : Nat) (l3711 : List (List V)) (k3712 : Nat) (z3713 : Int) (z3714 : Int) (z3715 : Int) (z3716 : Int) (z3717 : Int) (z3718 : Int) (z3719 : Int) (l3720 : List (List V)) : N32_0.nx n (.s0 l3711 k3712 z3713 z3714 z3715 z3716 z3717 z3718 z3719 l3720) = L32_0 n (.s0 l3711 k3712 z3713 z3714 z3715 z3716 z3717 z3718 z3719 l3720) := rfl
theorem N32_0.nx_e0 (n : Nat) (k3726 : Nat) (l3727 : List (List V)) : N32_0.nx n (.e0 k3726 l3727) = some (.e0 k3726 l3727) := rfl
noncomputable def D32 (z3667 : Int) (z3668 : Int) (z3669 : Int) (z3670 : Int) (z3671 : Int) (z3672 : Int) (l3673 : List (List V)) : PT A32 :=
  .cut E32_0 (L32_0_ok 18446744073709551616 (.s0 (l3673) (0) (0) (z3667) (z3668) (z3669) (z3670) (z3671) (z3672) ([])) rfl) fun (r : N32_0) => match r with
  | .e0 k3733 l3734 =>
   .ret (A32.a0 (k3733) (l3734))
  | _ => .fail
noncomputable def F32 (z3667 : Int) (z3668 : Int) (z3669 : Int) (z3670 : Int) (z3671 : Int) (z3672 : Int) (l3673 : List (List V)) : Option A32 := (D32 z3667 z3668 z3669 z3670 z3671 z3672 l3673).ev some
theorem F32_ok (z3667 : Int) (z3668 : Int) (z3669 : Int) (z3670 : Int) (z3671 : Int) (z3672 : Int) (l3673 : List (List V)) : ∀ b, F32 z3667 z3668 z3669 z3670 z3671 z3672 l3673 = some b → UU 32 ([V.agg [i64 z3667, i64 z3668, i64 z3669, i64 z3670, i64 z3671, i64 z3672], V.list 2 l3673]) ([]) = some (A32.out b) :=
  fn_ok (E := E32) (L := notIn []) rfl rfl (fun x => by kernel_rfl)
/-! ## F8 -/
noncomputable def D8 (b3344 : Bool) (l3345 : List (List V)) (b3346 : Bool) (l3347 : List (List V)) (z3348 : Int) (z3349 : Int) (z3350 : Int) (z3351 : Int) (z3352 : Int) (z3353 : Int) (z3354 : Int) : PT A8 :=
  .auto 2 <|
  .ask E23 (F23_ok (z3349) (z3350) (z3351) (z3352) (z3353) (z3354) (b3344) (l3345)) fun (r : A23) => match r with
  | .a0 b3437 k3438 l3439 =>
   .auto 2 <|
   .ask E24 (F24_ok (b3344) (l3345)) fun (r : A24) => match r with
   | .a0 b3440 =>
    .auto 1 <|
    .ask E18 (F18_ok (b3344) (l3345)) fun (r : A18) => match r with
    | .a0 b3441 =>
     .testB (b3440 == b3441)
      (fun h0 =>
      .auto 2 <|
      .tot O25 (F25_ok (b3344) (l3345)) fun b3442 =>
      .auto 7 <|
      .testB (b3442 == ((↑(List.length l3345) : Int) == 0))
       (fun h1 =>
       .auto 4 <|
       .tot O26 (F26_ok (b3344) (l3345) (b3346) (l3347)) fun b3443 =>
       .auto 5 <|
       .tot O27 (F27_ok (b3344) (l3345) (b3346) (l3347)) fun b3449 =>
       .auto 2 <|
       .testB (b3443 == b3449)
        (fun h2 =>
        .auto 5 <|
        .ask E29 (F29_ok (b3344) (l3345) (b3346) (l3347) (z3348)) fun (r : A29) => match r with
        | .a0 b3450 k3451 l3452 =>
         .auto 6 <|
         .ask E30 (F30_ok (b3344) (l3345) (b3346) (l3347) (z3348)) fun (r : A30) => match r with
         | .a0 b3641 k3642 l3643 =>
          .auto 1 <|
          .test (0 + k3451 ≤ List.length l3452)
           (fun h3 =>
           .test (0 + k3642 ≤ List.length l3643)
            (fun h4 =>
            .ask E28 (F28_ok (b3450) (List.take k3451 l3452) (b3641) (List.take k3642 l3643)) fun (r : A28) => match r with
            | .a0 b3664 =>
             .auto 1 <|
             .testB (b3664)
              (fun h5 =>
              .auto 4 <|
              .ask E28 (F28_ok (b3344) (l3345) (b3346) (l3347)) fun (r : A28) => match r with
              | .a0 b3665 =>
               .auto 5 <|
               .ask E20 (F20_ok (b3344) (l3345) (b3346) (l3347)) fun (r : A20) => match r with
               | .a0 b3666 =>
                .auto 2 <|
                .testB (b3665 == b3666)
                 (fun h6 =>
                 .auto 7 <|
                 .testB (b3437 == b3344)
                  (fun h7 =>
                  .auto 8 <|
                  .ask E32 (F32_ok (z3349) (z3350) (z3351) (z3352) (z3353) (z3354) (l3345)) fun (r : A32) => match r with
                  | .a0 k3735 l3736 =>
                   .auto 1 <|
                   .test (0 + k3438 ≤ List.length l3439)
                    (fun h8 =>
                    .test (0 + k3735 ≤ List.length l3736)
                     (fun h9 =>
                     .ask E31 (F31_ok (List.take k3438 l3439) (List.take k3735 l3736)) fun (r : A31) => match r with
                     | .a0 b3737 =>
                      .auto 1 <|
                      .ret (A8.a0 (b3737))
                     )
                     (fun _ => .fail) -- none
                    )
                    (fun _ => .fail) -- none
                  )
                  (fun h7 =>
                  .auto 7 <|
                  .ret (A8.a0 (false))
                  )
                 )
                 (fun h6 =>
                 .auto 13 <|
                 .ret (A8.a0 (false))
                 )
              )
              (fun h5 =>
              .auto 21 <|
              .ret (A8.a0 (false))
              )
            )
            (fun _ => .fail) -- none
           )
           (fun _ => .fail) -- none
        )
        (fun h2 =>
        .auto 31 <|
        .ret (A8.a0 (false))
        )
       )
       (fun h1 =>
       .auto 39 <|
       .ret (A8.a0 (false))
       )
      )
      (fun h0 =>
      .auto 47 <|
      .ret (A8.a0 (false))
      )
noncomputable def F8 (b3344 : Bool) (l3345 : List (List V)) (b3346 : Bool) (l3347 : List (List V)) (z3348 : Int) (z3349 : Int) (z3350 : Int) (z3351 : Int) (z3352 : Int) (z3353 : Int) (z3354 : Int) : Option A8 := (D8 b3344 l3345 b3346 l3347 z3348 z3349 z3350 z3351 z3352 z3353 z3354).ev some
theorem F8_ok (b3344 : Bool) (l3345 : List (List V)) (b3346 : Bool) (l3347 : List (List V)) (z3348 : Int) (z3349 : Int) (z3350 : Int) (z3351 : Int) (z3352 : Int) (z3353 : Int) (z3354 : Int) : ∀ b, F8 b3344 l3345 b3346 l3347 z3348 z3349 z3350 z3351 z3352 z3353 z3354 = some b → UU 8 ([V.agg [vb b3344, V.list 2 l3345], V.agg [vb b3346, V.list 2 l3347], i64 z3348, V.agg [i64 z3349, i64 z3350, i64 z3351, i64 z3352, i64 z3353, i64 z3354]]) ([]) = some (A8.out b) :=
  fn_ok (E := E8) (L := notIn []) rfl rfl (fun x => by kernel_rfl)
/-! ## F9 -/
noncomputable def D9 : PT A9 :=
  .auto 1 <|
  .ret (A9.a0 (65536) (0) (0) (65536) (0) (0))
noncomputable def F9 : Option A9 := (D9).ev some
theorem F9_ok : ∀ b, F9 = some b → UU 9 ([]) ([]) = some (A9.out b) :=
  fn_ok (E := E9) (L := notIn []) rfl rfl (fun x => by kernel_rfl)
/-! ## F11 -/
noncomputable abbrev B11 : Code := (Try.f11.body).getD .skip
inductive N11_0 where
  | s0 (z3792 : Int) (z3793 : Int) (b3794 : Bool) (k3795 : Nat) (z3796 : Int) (z3797 : Int) (l3798 : List (List V)) (z3799 : Int) (l3800 : List (List V))
  | e0 (k3837 : Nat) (l3838 : List (List V))
@[reducible] def N11_0.out : N11_0 → VX × S
  | .s0 z3792 z3793 b3794 k3795 z3796 z3797 l3798 z3799 l3800 => (VX.normal, { T := U :: i64 z3792 :: U :: U :: U :: V.ptr 0 0 0 :: i64 z3793 :: vb b3794 :: V.hs 1 0 k3795 :: i64 z3796 :: i64 z3797 :: un 46 [], σ := [Ob.cells true false 2 [[V.list 1 l3798, i64 z3799]], Ob.cells true true 8 l3800] })
  | .e0 k3837 l3838 => (VX.exit 0, { T := un 8 (V.hs 0 0 k3837 :: un 48 []), σ := [Ob.cells true true 8 l3838] })
def N11_0.ex (g : N11_0 → Prop) : Prop := (∃ (z3792 : Int) (z3793 : Int) (b3794 : Bool) (k3795 : Nat) (z3796 : Int) (z3797 : Int) (l3798 : List (List V)) (z3799 : Int) (l3800 : List (List V)), g (.s0 z3792 z3793 b3794 k3795 z3796 z3797 l3798 z3799 l3800)) ∨ (∃ (k3837 : Nat) (l3838 : List (List V)), g (.e0 k3837 l3838))
theorem N11_0.ok (g : N11_0 → Prop) : N11_0.ex g ↔ ∃ b, g b := ⟨fun h => match h with
  | .inl ⟨_, _, _, _, _, _, _, _, _, h⟩ => ⟨_, h⟩
  | .inr (⟨_, _, h⟩) => ⟨_, h⟩, fun ⟨b, h⟩ => match b, h with
  | .s0 _ _ _ _ _ _ _ _ _, h => .inl ⟨_, _, _, _, _, _, _, _, _, h⟩
  | .e0 _ _, h => .inr (⟨_, _, h⟩)⟩
abbrev E11_0 : Ent (VX × S) := ⟨N11_0, N11_0.out, N11_0.ex, N11_0.ok⟩
noncomputable def D11_0 (z3792 : Int) (z3793 : Int) (b3794 : Bool) (k3795 : Nat) (z3796 : Int) (z3797 : Int) (l3798 : List (List V)) (z3799 : Int) (l3800 : List (List V)) : PT N11_0 :=
  .test (z3797 > 0)
   (fun h0 =>
   .ask E13 (F13_ok (z3793) (b3794) (l3798) (z3799)) fun (r : A13) => match r with
   | .a0 b3853 k3854 l3855 z3856 l3857 =>
    .ask E14 (F14_ok (2) (l3855) (z3856)) fun (r : A14) => match r with
    | .a0 z3858 l3859 z3860 =>
     .auto 1 <|
     .testB (w64 (↑(BitVec.toNat (BitVec.ofInt (IntKind.bits IntKind.i64) z3792 &&& BitVec.ofInt (IntKind.bits IntKind.i64) 7)) : Int) == z3797)
      (fun h1 =>
      .ask E13 (F13_ok (w64 (z3793 + 1)) (b3794) (l3859) (z3860)) fun (r : A13) => match r with
      | .a0 b3861 k3862 l3863 z3864 l3865 =>
       .auto 2 <|
       .test (0 + k3862 ≤ List.length l3865)
        (fun h2 =>
        .auto 1 <|
        .test (0 + k3795 ≤ List.length l3800 ∧ (k3795 + 1) * 80 ≤ 140737488355328 ∧ k3795 + 1 ≤ 140737488355328)
         (fun h3 =>
         .ask E14 (F14_ok (5) (l3863) (z3864)) fun (r : A14) => match r with
         | .a0 z3866 l3867 z3868 =>
          .ret (N11_0.s0 (z3792) (z3793) (b3794) (k3795 + 1) (w64 (w64 (z3796 + 1) + z3866)) (w64 (z3797 - 1)) (l3867) (z3868) (List.take k3795 l3800 ++ [[i64 z3796, vb b3861, V.list 2 (List.take k3862 l3865), i64 z3858, i64 0, i64 0, i64 0, i64 0]]))
         )
         (fun _ => .fail) -- none
        )
        (fun _ => .fail) -- none
      )
      (fun h1 =>
      .auto 1 <|
      .test (0 + k3854 ≤ List.length l3857)
       (fun h2 =>
       .auto 1 <|
       .test (0 + k3795 ≤ List.length l3800 ∧ (k3795 + 1) * 80 ≤ 140737488355328 ∧ k3795 + 1 ≤ 140737488355328)
        (fun h3 =>
        .ask E14 (F14_ok (5) (l3859) (z3860)) fun (r : A14) => match r with
        | .a0 z3869 l3870 z3871 =>
         .ret (N11_0.s0 (z3792) (z3793) (b3794) (k3795 + 1) (w64 (w64 (z3796 + 1) + z3869)) (w64 (z3797 - 1)) (l3870) (z3871) (List.take k3795 l3800 ++ [[i64 z3796, vb b3853, V.list 2 (List.take k3854 l3857), i64 z3858, i64 0, i64 0, i64 0, i64 0]]))
        )
        (fun _ => .fail) -- none
       )
       (fun _ => .fail) -- none
      )
   )
   (fun h0 =>
   .ret (N11_0.e0 (k3795) (l3800))
   )
noncomputable def S11_0 : N11_0 → PT N11_0
  | .s0 z3792 z3793 b3794 k3795 z3796 z3797 l3798 z3799 l3800 => D11_0 z3792 z3793 b3794 k3795 z3796 z3797 l3798 z3799 l3800
  | _ => .fail
def N11_0.off : N11_0 → Bool
  | .s0 _ _ _ _ _ _ _ _ _ => false
  | _ => true
noncomputable def L11_0 (n : Nat) (b : N11_0) : Option N11_0 := PT.loop (S11_0) N11_0.off n b
theorem L11_0_ok : ∀ (n : Nat) (b : N11_0), N11_0.off b = false → ∀ c, L11_0 n b = some c → loopP Try.prog X CC 11 (0) 18446744073709551616 B11 0 n (E11_0.out b).2 = some (E11_0.out c) :=
  loop_ok (E := E11_0) (step := S11_0) (L := notIn []) (fun b hb => by cases b <;> first | (cases hb; done) | (intro x; kernel_rfl)) (fun b => by cases b <;> rfl)
noncomputable def N11_0.nx (n : Nat) (c : N11_0) : Option N11_0 := match N11_0.off c with
  | true => some c
  | false => L11_0 n c
theorem L11_0_s0 (n : Nat) (z3792 : Int) (z3793 : Int) (b3794 : Bool) (k3795 : Nat) (z3796 : Int) (z3797 : Int) (l3798 : List (List V)) (z3799 : Int) (l3800 : List (List V)) : L11_0 (n + 1) (.s0 z3792 z3793 b3794 k3795 z3796 z3797 l3798 z3799 l3800) = (D11_0 z3792 z3793 b3794 k3795 z3796 z3797 l3798 z3799 l3800).ev (N11_0.nx n) := rfl
theorem N11_0.nx_s0 (n : Nat) (z3792 : Int) (z3793 : Int) (b3794 : Bool) (k3795 : Nat) (z3796 : Int) (z3797 : Int) (l3798 : List (List V)) (z3799 : Int) (l3800 : List (List V)) : N11_0.nx n (.s0 z3792 z3793 b3794 k3795 z3796 z3797 l3798 z3799 l3800) = L11_0 n (.s0 z3792 z3793 b3794 k3795 z3796 z3797 l3798 z3799 l3800) := rfl
theorem N11_0.nx_e0 (n : Nat) (k3837 : Nat) (l3838 : List (List V)) : N11_0.nx n (.e0 k3837 l3838) = some (.e0 k3837 l3838) := rfl
noncomputable def D11 (l3755 : List (List V)) (z3756 : Int) : PT A11 :=
  .ask E14 (F14_ok (4) (l3755) (0)) fun (r : A14) => match r with
  | .a0 z3841 l3842 z3843 =>
   .ask E14 (F14_ok (2) (l3842) (z3843)) fun (r : A14) => match r with
   | .a0 z3844 l3845 z3846 =>
    .ask E14 (F14_ok (4) (l3845) (z3846)) fun (r : A14) => match r with
    | .a0 z3847 l3848 z3849 =>
     .ask E14 (F14_ok (5) (l3848) (z3849)) fun (r : A14) => match r with
     | .a0 z3850 l3851 z3852 =>
      .cut E11_0 (L11_0_ok 18446744073709551616 (.s0 (z3756) (w64 (1 + z3841)) (z3844 == 0) (0) (z3847) (z3850) (l3851) (z3852) ([])) rfl) fun (r : N11_0) => match r with
      | .e0 k3872 l3873 =>
       .ret (A11.a0 (k3872) (l3873))
      | _ => .fail
noncomputable def F11 (l3755 : List (List V)) (z3756 : Int) : Option A11 := (D11 l3755 z3756).ev some
theorem F11_ok (l3755 : List (List V)) (z3756 : Int) : ∀ b, F11 l3755 z3756 = some b → UU 11 ([V.list 1 l3755, i64 z3756]) ([]) = some (A11.out b) :=
  fn_ok (E := E11) (L := notIn []) rfl rfl (fun x => by kernel_rfl)
/-! ## F104 -/
noncomputable def D104 (z3890 : Int) (z3891 : Int) (z3892 : Int) : PT (Bool) :=
  .test (z3890 ≥ z3891)
   (fun h0 =>
   .auto 3 <|
   .ret (decide (z3890 ≤ z3892))
   )
   (fun h0 =>
   .auto 3 <|
   .ret (false)
   )
@[reducible] def O104 (b3893 : Bool) : V × Store := (vb b3893, [])
noncomputable def F104 (z3890 : Int) (z3891 : Int) (z3892 : Int) : Bool := (D104 z3890 z3891 z3892).evT
theorem F104_ok (z3890 : Int) (z3891 : Int) (z3892 : Int) : UU 104 ([i64 z3890, i64 z3891, i64 z3892]) ([]) = some (O104 (F104 z3890 z3891 z3892)) :=
  fnT_ok (out := O104) (L := notIn []) rfl rfl (fun x => by kernel_rfl) (by simp [D104, PT.isT])
/-! ## F105 -/
noncomputable def D105 (z3896 : Int) (z3897 : Int) (z3898 : Int) (z3899 : Int) : PT (Bool) :=
  .auto 1 <|
  .tot O104 (F104_ok (z3896) (0) (65536)) fun b3900 =>
  .testB (b3900)
   (fun h0 =>
   .auto 3 <|
   .tot O104 (F104_ok (z3898) (0) (65536)) fun b3901 =>
   .auto 1 <|
   .testB (b3901)
    (fun h1 =>
    .auto 3 <|
    .tot O104 (F104_ok (z3897) (-131072) (196608)) fun b3902 =>
    .auto 1 <|
    .testB (b3902)
     (fun h2 =>
     .auto 3 <|
     .tot O104 (F104_ok (z3899) (-131072) (196608)) fun b3903 =>
     .auto 1 <|
     .ret (b3903)
     )
     (fun h2 =>
     .auto 3 <|
     .ret (false)
     )
    )
    (fun h1 =>
    .auto 7 <|
    .ret (false)
    )
   )
   (fun h0 =>
   .auto 11 <|
   .ret (false)
   )
@[reducible] def O105 (b3904 : Bool) : V × Store := (vb b3904, [])
noncomputable def F105 (z3896 : Int) (z3897 : Int) (z3898 : Int) (z3899 : Int) : Bool := (D105 z3896 z3897 z3898 z3899).evT
theorem F105_ok (z3896 : Int) (z3897 : Int) (z3898 : Int) (z3899 : Int) : UU 105 ([V.agg [i64 z3896, i64 z3897, i64 z3898, i64 z3899]]) ([]) = some (O105 (F105 z3896 z3897 z3898 z3899)) :=
  fnT_ok (out := O105) (L := notIn []) rfl rfl (fun x => by kernel_rfl) (by simp [D105, PT.isT])
/-! ## F70 -/
noncomputable def D70 (z3884 : Int) (z3885 : Int) (z3886 : Int) (z3887 : Int) (z3888 : Int) (z3889 : Int) : PT (Bool) :=
  .tot O104 (F104_ok (z3884) (-1073741824) (1073741824)) fun b3894 =>
  .testB (!b3894)
   (fun h0 =>
   .ret (false)
   )
   (fun h0 =>
   .testB (z3885 == 2)
    (fun h1 =>
    .auto 1 <|
    .tot O105 (F105_ok (z3886) (z3887) (z3888) (z3889)) fun b3905 =>
    .ret (b3905)
    )
    (fun h1 =>
    .testB (z3885 == 0)
     (fun h2 =>
     .auto 7 <|
     .ret (z3886 == 0 && (z3887 == 0 && (z3888 == 0 && (z3889 == 0 && true))))
     )
     (fun h2 =>
     .auto 2 <|
     .testB (z3885 == 1)
      (fun h3 =>
      .auto 4 <|
      .ret (z3886 == 0 && (z3887 == 0 && (z3888 == 0 && (z3889 == 0 && true))))
      )
      (fun h3 =>
      .auto 3 <|
      .ret (false)
      )
     )
    )
   )
@[reducible] def O70 (b3895 : Bool) : V × Store := (vb b3895, [])
noncomputable def F70 (z3884 : Int) (z3885 : Int) (z3886 : Int) (z3887 : Int) (z3888 : Int) (z3889 : Int) : Bool := (D70 z3884 z3885 z3886 z3887 z3888 z3889).evT
theorem F70_ok (z3884 : Int) (z3885 : Int) (z3886 : Int) (z3887 : Int) (z3888 : Int) (z3889 : Int) : UU 70 ([i64 z3884, i64 z3885, V.agg [i64 z3886, i64 z3887, i64 z3888, i64 z3889]]) ([]) = some (O70 (F70 z3884 z3885 z3886 z3887 z3888 z3889)) :=
  fnT_ok (out := O70) (L := notIn []) rfl rfl (fun x => by kernel_rfl) (by simp [D70, PT.isT])
/-! ## F34 -/
noncomputable abbrev B34 : Code := (Try.f34.body).getD .skip
inductive N34_0 where
  | s0 (l3913 : List (List V)) (z3914 : Int)
  | e0
  | e1 (l3915 : List (List V))
@[reducible] def N34_0.out : N34_0 → VX × S
  | .s0 l3913 z3914 => (VX.normal, { T := V.list 8 l3913 :: U :: U :: i64 z3914 :: un 76 [], σ := [] })
  | .e0 => (VX.ret, { T := U :: U :: vb false :: un 77 [], σ := [] })
  | .e1 l3915 => (VX.exit 0, { T := V.list 8 l3915 :: un 79 [], σ := [] })
def N34_0.ex (g : N34_0 → Prop) : Prop := (∃ (l3913 : List (List V)) (z3914 : Int), g (.s0 l3913 z3914)) ∨ g .e0 ∨ (∃ (l3915 : List (List V)), g (.e1 l3915))
theorem N34_0.ok (g : N34_0 → Prop) : N34_0.ex g ↔ ∃ b, g b := ⟨fun h => match h with
  | .inl ⟨_, _, h⟩ => ⟨_, h⟩
  | .inr (.inl h) => ⟨_, h⟩
  | .inr (.inr (⟨_, h⟩)) => ⟨_, h⟩, fun ⟨b, h⟩ => match b, h with
  | .s0 _ _, h => .inl ⟨_, _, h⟩
  | .e0, h => .inr (.inl h)
  | .e1 _, h => .inr (.inr (⟨_, h⟩))⟩
abbrev E34_0 : Ent (VX × S) := ⟨N34_0, N34_0.out, N34_0.ex, N34_0.ok⟩
noncomputable def D34_0 (l3913 : List (List V)) (z3914 : Int) : PT N34_0 :=
  .test (z3914 < (↑(List.length l3913) : Int))
   (fun h0 =>
   .test (0 ≤ z3914)
    (fun h1 =>
    .look RW63 (l3913[Int.toNat z3914]?) fun e3918 =>
    .known (decide_eq_true h1) <|
    .look RW63 (l3913[Int.toNat z3914]?) fun e3919 =>
    .known (decide_eq_true h1) <|
    .look RW63 (l3913[Int.toNat z3914]?) fun e3920 =>
    .tot O70 (F70_ok (e3918.c0) (e3919.c3) (e3920.c4) (e3920.c5) (e3920.c6) (e3920.c7)) fun b3921 =>
    .testB (!b3921)
     (fun h2 =>
     .auto 34 <|
     .ret (N34_0.e0)
     )
     (fun h2 =>
     .auto 2 <|
     .test (z3914 > 0)
      (fun h3 =>
      .auto 3 <|
      .test (0 ≤ w64 (z3914 - 1))
       (fun h4 =>
       .look RW63 (l3913[Int.toNat (w64 (z3914 - (1 : Int)))]?) fun e3922 =>
       .auto 5 <|
       .known (decide_eq_true h1) <|
       .look RW63 (l3913[Int.toNat z3914]?) fun e3923 =>
       .auto 6 <|
       .test (e3922.c0 ≥ e3923.c0)
        (fun h5 =>
        .auto 29 <|
        .ret (N34_0.e0)
        )
        (fun h5 =>
        .auto 2 <|
        .known (decide_eq_true h1) <|
        .look RW63 (l3913[Int.toNat z3914]?) fun e3924 =>
        .auto 3 <|
        .ask E18 (F18_ok (e3924.c1) (e3924.c2)) fun (r : A18) => match r with
        | .a0 b3925 =>
         .auto 2 <|
         .testB (!b3925)
          (fun h6 =>
          .auto 21 <|
          .ret (N34_0.e0)
          )
          (fun h6 =>
          .auto 2 <|
          .known (decide_eq_true h1) <|
          .look RW63 (l3913[Int.toNat z3914]?) fun e3926 =>
          .auto 6 <|
          .testB ((↑(List.length e3926.c2) : Int) == 0)
           (fun h7 =>
           .auto 12 <|
           .ret (N34_0.e0)
           )
           (fun h7 =>
           .auto 2 <|
           .known (decide_eq_true h1) <|
           .look RW63 (l3913[Int.toNat z3914]?) fun e3927 =>
           .auto 5 <|
           .look RW63 (l3913[(0 : Nat)]?) fun e3928 =>
           .auto 3 <|
           .tot O27 (F27_ok (e3927.c1) (e3927.c2) (e3928.c1) (e3928.c2)) fun b3929 =>
           .auto 2 <|
           .testB (!b3929)
            (fun h8 =>
            .ret (N34_0.e0)
            )
            (fun h8 =>
            .ret (N34_0.s0 (l3913) (w64 (z3914 + 1)))
            )
           )
          )
        )
       )
       (fun _ => .fail) -- none
      )
      (fun h3 =>
      .auto 17 <|
      .known (decide_eq_true h1) <|
      .look RW63 (l3913[Int.toNat z3914]?) fun e3930 =>
      .auto 3 <|
      .ask E18 (F18_ok (e3930.c1) (e3930.c2)) fun (r : A18) => match r with
      | .a0 b3931 =>
       .auto 2 <|
       .testB (!b3931)
        (fun h4 =>
        .auto 21 <|
        .ret (N34_0.e0)
        )
        (fun h4 =>
        .auto 2 <|
        .known (decide_eq_true h1) <|
        .look RW63 (l3913[Int.toNat z3914]?) fun e3932 =>
        .auto 6 <|
        .testB ((↑(List.length e3932.c2) : Int) == 0)
         (fun h5 =>
         .auto 12 <|
         .ret (N34_0.e0)
         )
         (fun h5 =>
         .auto 2 <|
         .known (decide_eq_true h1) <|
         .look RW63 (l3913[Int.toNat z3914]?) fun e3933 =>
         .auto 5 <|
         .look RW63 (l3913[(0 : Nat)]?) fun e3934 =>
         .auto 3 <|
         .tot O27 (F27_ok (e3933.c1) (e3933.c2) (e3934.c1) (e3934.c2)) fun b3935 =>
         .auto 2 <|
         .testB (!b3935)
          (fun h6 =>
          .ret (N34_0.e0)
          )
          (fun h6 =>
          .ret (N34_0.s0 (l3913) (w64 (z3914 + 1)))
          )
         )
        )
      )
     )
    )
    (fun _ => .fail) -- none
   )
   (fun h0 =>
   .ret (N34_0.e1 (l3913))
   )
noncomputable def S34_0 : N34_0 → PT N34_0
  | .s0 l3913 z3914 => D34_0 l3913 z3914
  | _ => .fail
def N34_0.off : N34_0 → Bool
  | .s0 _ _ => false
  | _ => true
noncomputable def L34_0 (n : Nat) (b : N34_0) : Option N34_0 := PT.loop (S34_0) N34_0.off n b
theorem L34_0_ok : ∀ (n : Nat) (b : N34_0), N34_0.off b = false → ∀ c, L34_0 n b = some c → loopP Try.prog X CC 34 (0) 18446744073709551616 B34 0 n (E34_0.out b).2 = some (E34_0.out c) :=
  loop_ok (E := E34_0) (step := S34_0) (L := notIn []) (fun b hb => by cases b <;> first | (cases hb; done) | (intro x; kernel_rfl)) (fun b => by cases b <;> rfl)
noncomputable def N34_0.nx (n : Nat) (c : N34_0) : Option N34_0 := match N34_0.off c with
  | true => some c
  | false => L34_0 n c
theorem L34_0_s0 (n : Nat) (l3913 : List (List V)) (z3914 : Int) : L34_0 (n + 1) (.s0 l3913 z3914) = (D34_0 l3913 z3914).ev (N34_0.nx n) := rfl
theorem N34_0.nx_s0 (n : Nat) (l3913 : List (List V)) (z3914 : Int) : N34_0.nx n (.s0 l3913 z3914) = L34_0 n (.s0 l3913 z3914) := rfl
theorem N34_0.nx_e0 (n : Nat) : N34_0.nx n (.e0) = some (.e0) := rfl
theorem N34_0.nx_e1 (n : Nat) (l3915 : List (List V)) : N34_0.nx n (.e1 l3915) = some (.e1 l3915) := rfl
noncomputable def D34 (l3879 : List (List V)) : PT A34 :=
  .cut E34_0 (L34_0_ok 18446744073709551616 (.s0 (l3879) (0)) rfl) fun (r : N34_0) => match r with
  | .e0 =>
   .ret (A34.a0 (false))
  | .e1 l3936 =>
   .ret (A34.a0 (decide ((↑(List.length l3936) : Int) ≤ 32)))
  | _ => .fail
noncomputable def F34 (l3879 : List (List V)) : Option A34 := (D34 l3879).ev some
theorem F34_ok (l3879 : List (List V)) : ∀ b, F34 l3879 = some b → UU 34 ([V.list 8 l3879]) ([]) = some (A34.out b) :=
  fn_ok (E := E34) (L := notIn []) rfl rfl (fun x => by kernel_rfl)
/-! ## F74 -/
noncomputable def D74 (z3985 : Int) (z3986 : Int) (z3987 : Int) : PT A74 :=
  .tot O100 (F100_ok (z3985)) fun z3988 =>
  .tot O100 (F100_ok (z3986)) fun z3989 =>
  .tot O100 (F100_ok (z3987)) fun z3990 =>
  .test (z3990 ≤ z3988)
   (fun h0 =>
   .ret (A74.a0 (0))
   )
   (fun h0 =>
   .test (z3990 ≥ z3989)
    (fun h1 =>
    .ret (A74.a0 (65536))
    )
    (fun h1 =>
    .test (w64 (z3989 - z3988) = 0)
     (fun _ => .fail) -- none
     (fun h2 =>
     .ret (A74.a0 (w64 (Int.tdiv (w64 (w64 (z3990 - z3988) * 65536)) (w64 (z3989 - z3988)))))
     )
    )
   )
noncomputable def F74 (z3985 : Int) (z3986 : Int) (z3987 : Int) : Option A74 := (D74 z3985 z3986 z3987).ev some
theorem F74_ok (z3985 : Int) (z3986 : Int) (z3987 : Int) : ∀ b, F74 z3985 z3986 z3987 = some b → UU 74 ([i64 z3985, i64 z3986, i64 z3987]) ([]) = some (A74.out b) :=
  fn_ok (E := E74) (L := notIn []) rfl rfl (fun x => by kernel_rfl)
/-! ## F122 -/
noncomputable def D122 (z4011 : Int) (z4012 : Int) (z4013 : Int) : PT A122 :=
  .tot O119 (F119_ok (z4013) (0) (65536)) fun z4014 =>
  .ask E86 (F86_ok (w64 (65536 - z4014)) (w64 (65536 - z4014))) fun (r : A86) => match r with
  | .a0 z4015 =>
   .ask E86 (F86_ok (z4015) (z4014)) fun (r : A86) => match r with
   | .a0 z4016 =>
    .ask E86 (F86_ok (w64 (65536 - z4014)) (z4014)) fun (r : A86) => match r with
    | .a0 z4017 =>
     .ask E86 (F86_ok (z4017) (z4014)) fun (r : A86) => match r with
     | .a0 z4018 =>
      .ask E86 (F86_ok (z4014) (z4014)) fun (r : A86) => match r with
      | .a0 z4019 =>
       .ask E86 (F86_ok (z4019) (z4014)) fun (r : A86) => match r with
       | .a0 z4020 =>
        .ask E86 (F86_ok (w64 (3 * z4016)) (z4011)) fun (r : A86) => match r with
        | .a0 z4021 =>
         .ask E86 (F86_ok (w64 (3 * z4018)) (z4012)) fun (r : A86) => match r with
         | .a0 z4022 =>
          .tot O99 (F99_ok (z4021) (z4022)) fun z4023 =>
          .tot O99 (F99_ok (z4023) (z4020)) fun z4024 =>
          .ret (A122.a0 (z4024))
noncomputable def F122 (z4011 : Int) (z4012 : Int) (z4013 : Int) : Option A122 := (D122 z4011 z4012 z4013).ev some
theorem F122_ok (z4011 : Int) (z4012 : Int) (z4013 : Int) : ∀ b, F122 z4011 z4012 z4013 = some b → UU 122 ([i64 z4011, i64 z4012, i64 z4013]) ([]) = some (A122.out b) :=
  fn_ok (E := E122) (L := notIn []) rfl rfl (fun x => by kernel_rfl)
/-! ## F107 -/
noncomputable abbrev B107 : Code := (Try.f107.body).getD .skip
inductive N107_0 where
  | s0 (z4034 : Int) (z4035 : Int) (z4036 : Int) (z4037 : Int) (z4038 : Int) (z4039 : Int) (z4040 : Int) (z4041 : Int)
  | e0 (z4043 : Int) (z4044 : Int) (z4045 : Int) (z4046 : Int) (z4047 : Int)
@[reducible] def N107_0.out : N107_0 → VX × S
  | .s0 z4034 z4035 z4036 z4037 z4038 z4039 z4040 z4041 => (VX.normal, { T := U :: i64 z4034 :: V.ptr 0 0 0 :: U :: U :: i64 z4035 :: i64 z4036 :: i64 z4037 :: un 29 [], σ := [Ob.cells true false 4 [[i64 z4038, i64 z4039, i64 z4040, i64 z4041]]] })
  | .e0 z4043 z4044 z4045 z4046 z4047 => (VX.exit 0, { T := U :: U :: V.ptr 0 0 0 :: U :: U :: i64 z4043 :: un 31 [], σ := [Ob.cells true false 4 [[i64 z4044, i64 z4045, i64 z4046, i64 z4047]]] })
def N107_0.ex (g : N107_0 → Prop) : Prop := (∃ (z4034 : Int) (z4035 : Int) (z4036 : Int) (z4037 : Int) (z4038 : Int) (z4039 : Int) (z4040 : Int) (z4041 : Int), g (.s0 z4034 z4035 z4036 z4037 z4038 z4039 z4040 z4041)) ∨ (∃ (z4043 : Int) (z4044 : Int) (z4045 : Int) (z4046 : Int) (z4047 : Int), g (.e0 z4043 z4044 z4045 z4046 z4047))
theorem N107_0.ok (g : N107_0 → Prop) : N107_0.ex g ↔ ∃ b, g b := ⟨fun h => match h with
  | .inl ⟨_, _, _, _, _, _, _, _, h⟩ => ⟨_, h⟩
  | .inr (⟨_, _, _, _, _, h⟩) => ⟨_, h⟩, fun ⟨b, h⟩ => match b, h with
  | .s0 _ _ _ _ _ _ _ _, h => .inl ⟨_, _, _, _, _, _, _, _, h⟩
  | .e0 _ _ _ _ _, h => .inr (⟨_, _, _, _, _, h⟩)⟩
abbrev E107_0 : Ent (VX × S) := ⟨N107_0, N107_0.out, N107_0.ex, N107_0.ok⟩
noncomputable def D107_0 (z4034 : Int) (z4035 : Int) (z4036 : Int) (z4037 : Int) (z4038 : Int) (z4039 : Int) (z4040 : Int) (z4041 : Int) : PT N107_0 :=
  .test (z4037 < 16)
   (fun h0 =>
   .auto 3 <|
   .ask E122 (F122_ok (z4038) (z4040) (w64 (Int.tdiv (w64 (z4035 + z4036)) 2))) fun (r : A122) => match r with
   | .a0 z4054 =>
    .test (z4054 ≤ z4034)
     (fun h1 =>
     .ret (N107_0.s0 (z4034) (w64 (Int.tdiv (w64 (z4035 + z4036)) 2)) (z4036) (w64 (z4037 + 1)) (z4038) (z4039) (z4040) (z4041))
     )
     (fun h1 =>
     .ret (N107_0.s0 (z4034) (z4035) (w64 (Int.tdiv (w64 (z4035 + z4036)) 2)) (w64 (z4037 + 1)) (z4038) (z4039) (z4040) (z4041))
     )
   )
   (fun h0 =>
   .ret (N107_0.e0 (z4035) (z4038) (z4039) (z4040) (z4041))
   )
noncomputable def S107_0 : N107_0 → PT N107_0
  | .s0 z4034 z4035 z4036 z4037 z4038 z4039 z4040 z4041 => D107_0 z4034 z4035 z4036 z4037 z4038 z4039 z4040 z4041
  | _ => .fail
def N107_0.off : N107_0 → Bool
  | .s0 _ _ _ _ _ _ _ _ => false
  | _ => true
noncomputable def L107_0 (n : Nat) (b : N107_0) : Option N107_0 := PT.loop (S107_0) N107_0.off n b
theorem L107_0_ok : ∀ (n : Nat) (b : N107_0), N107_0.off b = false → ∀ c, L107_0 n b = some c → loopP Try.prog X CC 107 (0) 18446744073709551616 B107 0 n (E107_0.out b).2 = some (E107_0.out c) :=
  loop_ok (E := E107_0) (step := S107_0) (L := notIn []) (fun b hb => by cases b <;> first | (cases hb; done) | (intro x; kernel_rfl)) (fun b => by cases b <;> rfl)
noncomputable def N107_0.nx (n : Nat) (c : N107_0) : Option N107_0 := match N107_0.off c with
  | true => some c
  | false => L107_0 n c
theorem L107_0_s0 (n : Nat) (z4034 : Int) (z4035 : Int) (z4036 : Int) (z4037 : Int) (z4038 : Int) (z4039 : Int) (z4040 : Int) (z4041 : Int) : L107_0 (n + 1) (.s0 z4034 z4035 z4036 z4037 z4038 z4039 z4040 z4041) = (D107_0 z4034 z4035 z4036 z4037 z4038 z4039 z4040 z4041).ev (N107_0.nx n) := rfl
theorem N107_0.nx_s0 (n : Nat) (z4034 : Int) (z4035 : Int) (z4036 : Int) (z4037 : Int) (z4038 : Int) (z4039 : Int) (z4040 : Int) (z4041 : Int) : N107_0.nx n (.s0 z4034 z4035 z4036 z4037 z4038 z4039 z4040 z4041) = L107_0 n (.s0 z4034 z4035 z4036 z4037 z4038 z4039 z4040 z4041) := rfl
theorem N107_0.nx_e0 (n : Nat) (z4043 : Int) (z4044 : Int) (z4045 : Int) (z4046 : Int) (z4047 : Int) : N107_0.nx n (.e0 z4043 z4044 z4045 z4046 z4047) = some (.e0 z4043 z4044 z4045 z4046 z4047) := rfl
noncomputable def D107 (z4000 : Int) (z4001 : Int) (z4002 : Int) (z4003 : Int) (z4004 : Int) : PT A107 :=
  .test (z4004 ≤ 0)
   (fun h0 =>
   .ret (A107.a0 (0))
   )
   (fun h0 =>
   .test (z4004 ≥ 65536)
    (fun h1 =>
    .ret (A107.a0 (65536))
    )
    (fun h1 =>
    .cut E107_0 (L107_0_ok 18446744073709551616 (.s0 (z4004) (0) (65536) (0) (z4000) (z4001) (z4002) (z4003)) rfl) fun (r : N107_0) => match r with
    | .e0 z4055 z4056 z4057 z4058 z4059 =>
     .auto 2 <|
     .ask E122 (F122_ok (z4057) (z4059) (z4055)) fun (r : A122) => match r with
     | .a0 z4060 =>
      .ret (A107.a0 (z4060))
    | _ => .fail
    )
   )
noncomputable def F107 (z4000 : Int) (z4001 : Int) (z4002 : Int) (z4003 : Int) (z4004 : Int) : Option A107 := (D107 z4000 z4001 z4002 z4003 z4004).ev some
theorem F107_ok (z4000 : Int) (z4001 : Int) (z4002 : Int) (z4003 : Int) (z4004 : Int) : ∀ b, F107 z4000 z4001 z4002 z4003 z4004 = some b → UU 107 ([V.agg [i64 z4000, i64 z4001, i64 z4002, i64 z4003], i64 z4004]) ([]) = some (A107.out b) :=
  fn_ok (E := E107) (L := notIn []) rfl rfl (fun x => by kernel_rfl)
/-! ## F73 -/
noncomputable def D73 (z3993 : Int) (z3994 : Int) (z3995 : Int) (z3996 : Int) (z3997 : Int) (z3998 : Int) : PT A73 :=
  .testB (z3993 == 0)
   (fun h0 =>
   .test (z3998 ≥ 65536)
    (fun h1 =>
    .ret (A73.a0 (65536))
    )
    (fun h1 =>
    .ret (A73.a0 (0))
    )
   )
   (fun h0 =>
   .testB (z3993 == 1)
    (fun h1 =>
    .ret (A73.a0 (z3998))
    )
    (fun h1 =>
    .testB (z3993 == 2)
     (fun h2 =>
     .auto 1 <|
     .ask E107 (F107_ok (z3994) (z3995) (z3996) (z3997) (z3998)) fun (r : A107) => match r with
     | .a0 z4061 =>
      .ret (A73.a0 (z4061))
     )
     (fun h2 =>
     .ret (A73.a0 (0))
     )
    )
   )
noncomputable def F73 (z3993 : Int) (z3994 : Int) (z3995 : Int) (z3996 : Int) (z3997 : Int) (z3998 : Int) : Option A73 := (D73 z3993 z3994 z3995 z3996 z3997 z3998).ev some
theorem F73_ok (z3993 : Int) (z3994 : Int) (z3995 : Int) (z3996 : Int) (z3997 : Int) (z3998 : Int) : ∀ b, F73 z3993 z3994 z3995 z3996 z3997 z3998 = some b → UU 73 ([i64 z3993, V.agg [i64 z3994, i64 z3995, i64 z3996, i64 z3997], i64 z3998]) ([]) = some (A73.out b) :=
  fn_ok (E := E73) (L := notIn []) rfl rfl (fun x => by kernel_rfl)
/-! ## F36 -/
noncomputable abbrev B36 : Code := (Try.f36.body).getD .skip
inductive N36_0 where
  | s0 (l3949 : List (List V)) (z3950 : Int) (z3951 : Int) (z3952 : Int)
  | e0 (l3963 : List (List V)) (z3964 : Int) (z3965 : Int)
@[reducible] def N36_0.out : N36_0 → VX × S
  | .s0 l3949 z3950 z3951 z3952 => (VX.normal, { T := V.list 8 l3949 :: i64 z3950 :: U :: U :: V.ptr 0 0 0 :: i64 z3951 :: i64 z3952 :: un 81 [], σ := [Ob.cells true false 2 [[vb false, V.hs 1 0 0]], Ob.cells true true 2 []] })
  | .e0 l3963 z3964 z3965 => (VX.exit 0, { T := V.list 8 l3963 :: i64 z3964 :: U :: U :: V.ptr 0 0 0 :: i64 z3965 :: un 82 [], σ := [Ob.cells true false 2 [[vb false, V.hs 1 0 0]], Ob.cells true true 2 []] })
def N36_0.ex (g : N36_0 → Prop) : Prop := (∃ (l3949 : List (List V)) (z3950 : Int) (z3951 : Int) (z3952 : Int), g (.s0 l3949 z3950 z3951 z3952)) ∨ (∃ (l3963 : List (List V)) (z3964 : Int) (z3965 : Int), g (.e0 l3963 z3964 z3965))
theorem N36_0.ok (g : N36_0 → Prop) : N36_0.ex g ↔ ∃ b, g b := ⟨fun h => match h with
  | .inl ⟨_, _, _, _, h⟩ => ⟨_, h⟩
  | .inr (⟨_, _, _, h⟩) => ⟨_, h⟩, fun ⟨b, h⟩ => match b, h with
  | .s0 _ _ _ _, h => .inl ⟨_, _, _, _, h⟩
  | .e0 _ _ _, h => .inr (⟨_, _, _, h⟩)⟩
abbrev E36_0 : Ent (VX × S) := ⟨N36_0, N36_0.out, N36_0.ex, N36_0.ok⟩
noncomputable def D36_0 (l3949 : List (List V)) (z3950 : Int) (z3951 : Int) (z3952 : Int) : PT N36_0 :=
  .test (z3952 < (↑(List.length l3949) : Int))
   (fun h0 =>
   .test (0 ≤ z3952)
    (fun h1 =>
    .look RW63 (l3949[Int.toNat z3952]?) fun e4066 =>
    .test (e4066.c0 ≤ z3950)
     (fun h2 =>
     .ret (N36_0.s0 (l3949) (z3950) (z3952) (w64 (z3952 + 1)))
     )
     (fun h2 =>
     .ret (N36_0.s0 (l3949) (z3950) (z3951) (w64 (z3952 + 1)))
     )
    )
    (fun _ => .fail) -- none
   )
   (fun h0 =>
   .ret (N36_0.e0 (l3949) (z3950) (z3951))
   )
noncomputable def S36_0 : N36_0 → PT N36_0
  | .s0 l3949 z3950 z3951 z3952 => D36_0 l3949 z3950 z3951 z3952
  | _ => .fail
def N36_0.off : N36_0 → Bool
  | .s0 _ _ _ _ => false
  | _ => true
noncomputable def L36_0 (n : Nat) (b : N36_0) : Option N36_0 := PT.loop (S36_0) N36_0.off n b
theorem L36_0_ok : ∀ (n : Nat) (b : N36_0), N36_0.off b = false → ∀ c, L36_0 n b = some c → loopP Try.prog X CC 36 (0) 18446744073709551616 B36 0 n (E36_0.out b).2 = some (E36_0.out c) :=
  loop_ok (E := E36_0) (step := S36_0) (L := notIn []) (fun b hb => by cases b <;> first | (cases hb; done) | (intro x; kernel_rfl)) (fun b => by cases b <;> rfl)
noncomputable def N36_0.nx (n : Nat) (c : N36_0) : Option N36_0 := match N36_0.off c with
  | true => some c
  | false => L36_0 n c
theorem L36_0_s0 (n : Nat) (l3949 : List (List V)) (z3950 : Int) (z3951 : Int) (z3952 : Int) : L36_0 (n + 1) (.s0 l3949 z3950 z3951 z3952) = (D36_0 l3949 z3950 z3951 z3952).ev (N36_0.nx n) := rfl
theorem N36_0.nx_s0 (n : Nat) (l3949 : List (List V)) (z3950 : Int) (z3951 : Int) (z3952 : Int) : N36_0.nx n (.s0 l3949 z3950 z3951 z3952) = L36_0 n (.s0 l3949 z3950 z3951 z3952) := rfl
theorem N36_0.nx_e0 (n : Nat) (l3963 : List (List V)) (z3964 : Int) (z3965 : Int) : N36_0.nx n (.e0 l3963 z3964 z3965) = some (.e0 l3963 z3964 z3965) := rfl
noncomputable def D36 (l3941 : List (List V)) (z3942 : Int) : PT A36 :=
  .testB ((↑(List.length l3941) : Int) == 0)
   (fun h0 =>
   .auto 1 <|
   .ret (A36.a0 (false) (0) ([]))
   )
   (fun h0 =>
   .cut E36_0 (L36_0_ok 18446744073709551616 (.s0 (l3941) (z3942) (-1) (0)) rfl) fun (r : N36_0) => match r with
   | .e0 l4067 z4068 z4069 =>
    .test (z4069 < 0)
     (fun h1 =>
     .auto 1 <|
     .look RW63 (l4067[(0 : Nat)]?) fun e4070 =>
     .auto 1 <|
     .look RW63 (l4067[(0 : Nat)]?) fun e4071 =>
     .ask E30 (F30_ok (e4070.c1) (e4070.c2) (e4071.c1) (e4071.c2) (0)) fun (r : A30) => match r with
     | .a0 b4072 k4073 l4074 =>
      .auto 1 <|
      .ret (A36.a0 (b4072) (k4073) (l4074))
     )
     (fun h1 =>
     .testB (z4069 == w64 ((↑(List.length l4067) : Int) - 1))
      (fun h2 =>
      .test (0 ≤ z4069)
       (fun h3 =>
       .look RW63 (l4067[Int.toNat z4069]?) fun e4075 =>
       .known (decide_eq_true h3) <|
       .look RW63 (l4067[Int.toNat z4069]?) fun e4076 =>
       .ask E30 (F30_ok (e4075.c1) (e4075.c2) (e4076.c1) (e4076.c2) (0)) fun (r : A30) => match r with
       | .a0 b4077 k4078 l4079 =>
        .auto 1 <|
        .ret (A36.a0 (b4077) (k4078) (l4079))
       )
       (fun _ => .fail) -- none
      )
      (fun h2 =>
      .test (0 ≤ z4069)
       (fun h3 =>
       .look RW63 (l4067[Int.toNat z4069]?) fun e4080 =>
       .test (0 ≤ w64 (z4069 + 1))
        (fun h4 =>
        .look RW63 (l4067[Int.toNat (w64 (z4069 + (1 : Int)))]?) fun e4081 =>
        .known (decide_eq_true h3) <|
        .look RW63 (l4067[Int.toNat z4069]?) fun e4082 =>
        .known (decide_eq_true h3) <|
        .look RW63 (l4067[Int.toNat z4069]?) fun e4083 =>
        .known (decide_eq_true h3) <|
        .look RW63 (l4067[Int.toNat z4069]?) fun e4084 =>
        .known (decide_eq_true h4) <|
        .look RW63 (l4067[Int.toNat (w64 (z4069 + (1 : Int)))]?) fun e4085 =>
        .ask E74 (F74_ok (e4084.c0) (e4085.c0) (z4068)) fun (r : A74) => match r with
        | .a0 z4086 =>
         .ask E73 (F73_ok (e4082.c3) (e4083.c4) (e4083.c5) (e4083.c6) (e4083.c7) (z4086)) fun (r : A73) => match r with
         | .a0 z4087 =>
          .ask E30 (F30_ok (e4080.c1) (e4080.c2) (e4081.c1) (e4081.c2) (z4087)) fun (r : A30) => match r with
          | .a0 b4088 k4089 l4090 =>
           .auto 1 <|
           .ret (A36.a0 (b4088) (k4089) (l4090))
        )
        (fun _ => .fail) -- none
       )
       (fun _ => .fail) -- none
      )
     )
   | _ => .fail
   )
noncomputable def F36 (l3941 : List (List V)) (z3942 : Int) : Option A36 := (D36 l3941 z3942).ev some
theorem F36_ok (l3941 : List (List V)) (z3942 : Int) : ∀ b, F36 l3941 z3942 = some b → UU 36 ([V.list 8 l3941, i64 z3942]) ([]) = some (A36.out b) :=
  fn_ok (E := E36) (L := notIn []) rfl rfl (fun x => by kernel_rfl)
/-! ## F10 -/
noncomputable def D10 (l3876 : List (List V)) (z3877 : Int) : PT A10 :=
  .ask E33 (F33_ok (l3876)) fun (r : A33) => match r with
  | .a0 b3878 =>
   .ask E34 (F34_ok (l3876)) fun (r : A34) => match r with
   | .a0 b3937 =>
    .testB (b3878 == b3937)
     (fun h0 =>
     .auto 2 <|
     .ask E35 (F35_ok (l3876) (z3877)) fun (r : A35) => match r with
     | .a0 b3938 k3939 l3940 =>
      .auto 3 <|
      .ask E36 (F36_ok (l3876) (z3877)) fun (r : A36) => match r with
      | .a0 b4091 k4092 l4093 =>
       .auto 1 <|
       .test (0 + k3939 ≤ List.length l3940)
        (fun h1 =>
        .test (0 + k4092 ≤ List.length l4093)
         (fun h2 =>
         .ask E20 (F20_ok (b3938) (List.take k3939 l3940) (b4091) (List.take k4092 l4093)) fun (r : A20) => match r with
         | .a0 b4094 =>
          .auto 1 <|
          .ret (A10.a0 (b4094))
         )
         (fun _ => .fail) -- none
        )
        (fun _ => .fail) -- none
     )
     (fun h0 =>
     .auto 7 <|
     .ret (A10.a0 (false))
     )
noncomputable def F10 (l3876 : List (List V)) (z3877 : Int) : Option A10 := (D10 l3876 z3877).ev some
theorem F10_ok (l3876 : List (List V)) (z3877 : Int) : ∀ b, F10 l3876 z3877 = some b → UU 10 ([V.list 8 l3876, i64 z3877]) ([]) = some (A10.out b) :=
  fn_ok (E := E10) (L := notIn []) rfl rfl (fun x => by kernel_rfl)
/-! ## F12 -/
noncomputable def D12 : PT A12 :=
  .auto 5 <|
  .ask E24 (F24_ok (false) ([[i64 0, i64 0], [i64 0, i64 0], [i64 0, i64 0], [i64 0, i64 0]])) fun (r : A24) => match r with
  | .a0 b4100 =>
   .testB (b4100)
    (fun h0 =>
    .auto 4 <|
    .ask E24 (F24_ok (false) ([[i64 0, i64 0], [i64 0, i64 0], [i64 0, i64 0], [i64 0, i64 0], [i64 0, i64 0]])) fun (r : A24) => match r with
    | .a0 b4101 =>
     .auto 2 <|
     .testB (!b4101)
      (fun h1 =>
      .auto 1 <|
      .tot O25 (F25_ok (false) ([])) fun b4102 =>
      .auto 1 <|
      .testB (b4102)
       (fun h2 =>
       .auto 6 <|
       .tot O26 (F26_ok (false) ([[i64 0, i64 0], [i64 0, i64 0], [i64 0, i64 0], [i64 0, i64 0]]) (false) ([[i64 8, i64 0], [i64 8, i64 0], [i64 8, i64 0], [i64 8, i64 0]])) fun b4103 =>
       .auto 1 <|
       .testB (b4103)
        (fun h3 =>
        .auto 6 <|
        .ask E29 (F29_ok (false) ([[i64 0, i64 0], [i64 0, i64 0], [i64 0, i64 0], [i64 0, i64 0]]) (false) ([[i64 8, i64 0], [i64 8, i64 0], [i64 8, i64 0], [i64 8, i64 0]]) (0)) fun (r : A29) => match r with
        | .a0 b4104 k4105 l4106 =>
         .auto 3 <|
         .test (0 + k4105 ≤ List.length l4106)
          (fun h4 =>
          .auto 1 <|
          .ask E28 (F28_ok (b4104) (List.take k4105 l4106) (false) ([[i64 0, i64 0], [i64 0, i64 0], [i64 0, i64 0], [i64 0, i64 0]])) fun (r : A28) => match r with
          | .a0 b4107 =>
           .auto 1 <|
           .testB (b4107)
            (fun h5 =>
            .auto 6 <|
            .ask E29 (F29_ok (false) ([[i64 0, i64 0], [i64 0, i64 0], [i64 0, i64 0], [i64 0, i64 0]]) (false) ([[i64 8, i64 0], [i64 8, i64 0], [i64 8, i64 0], [i64 8, i64 0]]) (65536)) fun (r : A29) => match r with
            | .a0 b4108 k4109 l4110 =>
             .auto 3 <|
             .test (0 + k4109 ≤ List.length l4110)
              (fun h6 =>
              .auto 1 <|
              .ask E28 (F28_ok (b4108) (List.take k4109 l4110) (false) ([[i64 8, i64 0], [i64 8, i64 0], [i64 8, i64 0], [i64 8, i64 0]])) fun (r : A28) => match r with
              | .a0 b4111 =>
               .auto 1 <|
               .ret (A12.a0 (b4111))
              )
              (fun _ => .fail) -- none
            )
            (fun h5 =>
            .auto 5 <|
            .ret (A12.a0 (false))
            )
          )
          (fun _ => .fail) -- none
        )
        (fun h3 =>
        .auto 11 <|
        .ret (A12.a0 (false))
        )
       )
       (fun h2 =>
       .auto 15 <|
       .ret (A12.a0 (false))
       )
      )
      (fun h1 =>
      .auto 18 <|
      .ret (A12.a0 (false))
      )
    )
    (fun h0 =>
    .auto 23 <|
    .ret (A12.a0 (false))
    )
noncomputable def F12 : Option A12 := (D12).ev some
theorem F12_ok : ∀ b, F12 = some b → UU 12 ([]) ([]) = some (A12.out b) :=
  fn_ok (E := E12) (L := notIn []) rfl rfl (fun x => by kernel_rfl)
/-! ## F4 -/
noncomputable abbrev B4 : Code := (Try.f4.body).getD .skip
inductive N4_c39 where
  | e0 (l3308 : List (List V)) (l3309 : List (List V)) (z3310 : Int) (z3311 : Int) (z3312 : Int) (z3313 : Int) (z3314 : Int) (z3315 : Int) (z3316 : Int) (z3317 : Int) (b3318 : Bool) (l3319 : List (List V)) (b3320 : Bool) (k3321 : Nat) (b3322 : Bool) (k3323 : Nat) (l3324 : List (List V)) (l3325 : List (List V))
@[reducible] def N4_c39.out : N4_c39 → VX × S
  | .e0 l3308 l3309 z3310 z3311 z3312 z3313 z3314 z3315 z3316 z3317 b3318 l3319 b3320 k3321 b3322 k3323 l3324 l3325 => (VX.normal, { T := V.list 1 l3308 :: V.list 1 l3309 :: i64 z3310 :: U :: U :: i64 z3311 :: U :: U :: U :: V.ptr 0 0 0 :: V.ptr 1 0 0 :: un 4 (V.ptr 2 0 0 :: V.ptr 3 0 0 :: un 73 []), σ := [Ob.cells true false 6 [[i64 z3312, i64 z3313, i64 z3314, i64 z3315, i64 z3316, i64 z3317]], Ob.cells true false 2 [[vb b3318, V.list 2 l3319]], Ob.cells true false 2 [[vb b3320, V.hs 4 0 k3321]], Ob.cells true false 2 [[vb b3322, V.hs 5 0 k3323]], Ob.cells true true 2 l3324, Ob.cells true true 2 l3325] })
def N4_c39.ex (g : N4_c39 → Prop) : Prop := (∃ (l3308 : List (List V)) (l3309 : List (List V)) (z3310 : Int) (z3311 : Int) (z3312 : Int) (z3313 : Int) (z3314 : Int) (z3315 : Int) (z3316 : Int) (z3317 : Int) (b3318 : Bool) (l3319 : List (List V)) (b3320 : Bool) (k3321 : Nat) (b3322 : Bool) (k3323 : Nat) (l3324 : List (List V)) (l3325 : List (List V)), g (.e0 l3308 l3309 z3310 z3311 z3312 z3313 z3314 z3315 z3316 z3317 b3318 l3319 b3320 k3321 b3322 k3323 l3324 l3325))
theorem N4_c39.ok (g : N4_c39 → Prop) : N4_c39.ex g ↔ ∃ b, g b := ⟨fun h => match h with
  | ⟨_, _, _, _, _, _, _, _, _, _, _, _, _, _, _, _, _, _, h⟩ => ⟨_, h⟩, fun ⟨b, h⟩ => match b, h with
  | .e0 _ _ _ _ _ _ _ _ _ _ _ _ _ _ _ _ _ _, h => ⟨_, _, _, _, _, _, _, _, _, _, _, _, _, _, _, _, _, _, h⟩⟩
abbrev E4_c39 : Ent (VX × S) := ⟨N4_c39, N4_c39.out, N4_c39.ex, N4_c39.ok⟩
noncomputable def D4_c39 (l3289 : List (List V)) (l3290 : List (List V)) (z3291 : Int) (z3292 : Int) (b3293 : Bool) (z3294 : Int) (z3295 : Int) (z3296 : Int) (z3297 : Int) (z3298 : Int) (z3299 : Int) (b3300 : Bool) (l3301 : List (List V)) (b3302 : Bool) (k3303 : Nat) (b3304 : Bool) (k3305 : Nat) (l3306 : List (List V)) (l3307 : List (List V)) : PT N4_c39 :=
  .testB (b3293)
   (fun h0 =>
   .auto 1 <|
   .test ((0 : Int) ≤ (0 : Int) ∧ (0 : Int) ≤ (20 : Int) ∧ (20 : Int) ≤ (↑(List.length l3301) : Int))
    (fun h1 =>
    .auto 1 <|
    .ret (N4_c39.e0 (l3289) (l3290) (z3291) (z3292) (z3294) (z3295) (z3296) (z3297) (z3298) (z3299) (b3300) (List.take 20 l3301) (b3302) (k3303) (b3304) (k3305) (l3306) (l3307))
    )
    (fun _ => .fail) -- none
   )
   (fun h0 =>
   .ret (N4_c39.e0 (l3289) (l3290) (z3291) (z3292) (z3294) (z3295) (z3296) (z3297) (z3298) (z3299) (b3300) (l3301) (b3302) (k3303) (b3304) (k3305) (l3306) (l3307))
   )
noncomputable def J4_c39 (l3289 : List (List V)) (l3290 : List (List V)) (z3291 : Int) (z3292 : Int) (b3293 : Bool) (z3294 : Int) (z3295 : Int) (z3296 : Int) (z3297 : Int) (z3298 : Int) (z3299 : Int) (b3300 : Bool) (l3301 : List (List V)) (b3302 : Bool) (k3303 : Nat) (b3304 : Bool) (k3305 : Nat) (l3306 : List (List V)) (l3307 : List (List V)) : Option N4_c39 := (D4_c39 l3289 l3290 z3291 z3292 b3293 z3294 z3295 z3296 z3297 z3298 z3299 b3300 l3301 b3302 k3303 b3304 k3305 l3306 l3307).ev some
theorem J4_c39_ok (l3289 : List (List V)) (l3290 : List (List V)) (z3291 : Int) (z3292 : Int) (b3293 : Bool) (z3294 : Int) (z3295 : Int) (z3296 : Int) (z3297 : Int) (z3298 : Int) (z3299 : Int) (b3300 : Bool) (l3301 : List (List V)) (b3302 : Bool) (k3303 : Nat) (b3304 : Bool) (k3305 : Nat) (l3306 : List (List V)) (l3307 : List (List V)) : ∀ b, J4_c39 l3289 l3290 z3291 z3292 b3293 z3294 z3295 z3296 z3297 z3298 z3299 b3300 l3301 b3302 k3303 b3304 k3305 l3306 l3307 = some b → condP Try.prog X CC 4 (0) 18446744073709551616 B4 39 ({ T := V.list 1 l3289 :: V.list 1 l3290 :: i64 z3291 :: U :: U :: i64 z3292 :: U :: U :: U :: V.ptr 0 0 0 :: V.ptr 1 0 0 :: un 4 (V.ptr 2 0 0 :: V.ptr 3 0 0 :: un 22 (vb b3293 :: un 50 [])), σ := [Ob.cells true false 6 [[i64 z3294, i64 z3295, i64 z3296, i64 z3297, i64 z3298, i64 z3299]], Ob.cells true false 2 [[vb b3300, V.list 2 l3301]], Ob.cells true false 2 [[vb b3302, V.hs 4 0 k3303]], Ob.cells true false 2 [[vb b3304, V.hs 5 0 k3305]], Ob.cells true true 2 l3306, Ob.cells true true 2 l3307] }) = some (E4_c39.out b) :=
  cond_ok (E := E4_c39) (L := notIn []) (fun x => by kernel_rfl)
noncomputable def D4 (l3258 : List (List V)) (l3259 : List (List V)) (z3260 : Int) (z3261 : Int) (z3262 : Int) (z3263 : Int) (z3264 : Int) (z3265 : Int) (z3266 : Int) (b3267 : Bool) (l3268 : List (List V)) (z3269 : Int) : PT A4 :=
  .ask E14 (F14_ok (5) (l3258) (0)) fun (r : A14) => match r with
  | .a0 z4115 l4116 z4117 =>
   .ask E13 (F13_ok (w64 (1 + z4115)) (true) (l4116) (z4117)) fun (r : A13) => match r with
   | .a0 b4118 k4119 l4120 z4121 l4122 =>
    .ask E14 (F14_ok (5) (l3259) (0)) fun (r : A14) => match r with
    | .a0 z4123 l4124 z4125 =>
     .ask E14 (F14_ok (4) (l4124) (z4125)) fun (r : A14) => match r with
     | .a0 z4126 l4127 z4128 =>
      .ask E13 (F13_ok (w64 (1 + z4123)) (decide (z4126 > 0)) (l4127) (z4128)) fun (r : A13) => match r with
      | .a0 b4129 k4130 l4131 z4132 l4133 =>
       .auto 3 <|
       .cut E4_c39 (J4_c39_ok (l3258) (l3259) (z3260) (z3269) (decide ((↑(List.length l3268) : Int) > 20)) (z3261) (z3262) (z3263) (z3264) (z3265) (z3266) (b3267) (l3268) (b4118) (k4119) (b4129) (k4130) (l4122) (l4133)) fun (r : N4_c39) => match r with
       | .e0 l4134 l4135 z4136 z4137 z4138 z4139 z4140 z4141 z4142 z4143 b4144 l4145 b4146 k4147 b4148 k4149 l4150 l4151 =>
        .auto 3 <|
        .test (0 + k4147 ≤ List.length l4150)
         (fun h0 =>
         .test (0 + k4149 ≤ List.length l4151)
          (fun h1 =>
          .ask E8 (F8_ok (b4146) (List.take k4147 l4150) (b4148) (List.take k4149 l4151) (z4136) (z4138) (z4139) (z4140) (z4141) (z4142) (z4143)) fun (r : A8) => match r with
          | .a0 b4152 =>
           .testB (b4152)
            (fun h2 =>
            .auto 6 <|
            .ask E9 (F9_ok) fun (r : A9) => match r with
            | .a0 z4153 z4154 z4155 z4156 z4157 z4158 =>
             .auto 1 <|
             .known (decide_eq_true h0) <|
             .known (decide_eq_true h1) <|
             .ask E8 (F8_ok (b4146) (List.take k4147 l4150) (b4148) (List.take k4149 l4151) (w64 (↑(BitVec.toNat (BitVec.ofInt (IntKind.bits IntKind.i64) z4136 &&& BitVec.ofInt (IntKind.bits IntKind.i64) 65535)) : Int)) (z4153) (z4154) (z4155) (z4156) (z4157) (z4158)) fun (r : A8) => match r with
             | .a0 b4159 =>
              .auto 1 <|
              .testB (b4159)
               (fun h3 =>
               .auto 7 <|
               .known (decide_eq_true h0) <|
               .ask E8 (F8_ok (b4144) (l4145) (b4146) (List.take k4147 l4150) (z4136) (z4138) (z4139) (z4140) (z4141) (z4142) (z4143)) fun (r : A8) => match r with
               | .a0 b4160 =>
                .auto 1 <|
                .testB (b4160)
                 (fun h4 =>
                 .auto 7 <|
                 .known (decide_eq_true h0) <|
                 .known (decide_eq_true h0) <|
                 .ask E8 (F8_ok (b4146) (List.take k4147 l4150) (b4146) (List.take k4147 l4150) (z4136) (z4138) (z4139) (z4140) (z4141) (z4142) (z4143)) fun (r : A8) => match r with
                 | .a0 b4161 =>
                  .auto 1 <|
                  .testB (b4161)
                   (fun h5 =>
                   .auto 2 <|
                   .ask E11 (F11_ok (l4134) (z4137)) fun (r : A11) => match r with
                   | .a0 k4162 l4163 =>
                    .auto 4 <|
                    .test (0 + k4162 ≤ List.length l4163)
                     (fun h6 =>
                     .ask E10 (F10_ok (List.take k4162 l4163) (w64 (w64 (↑(BitVec.toNat (BitVec.ofInt (IntKind.bits IntKind.i64) z4136 &&& BitVec.ofInt (IntKind.bits IntKind.i64) 31)) : Int) - 2))) fun (r : A10) => match r with
                     | .a0 b4164 =>
                      .auto 1 <|
                      .testB (b4164)
                       (fun h7 =>
                       .auto 1 <|
                       .ask E11 (F11_ok (l4135) (0)) fun (r : A11) => match r with
                       | .a0 k4165 l4166 =>
                        .auto 3 <|
                        .test (0 + k4165 ≤ List.length l4166)
                         (fun h8 =>
                         .ask E10 (F10_ok (List.take k4165 l4166) (w64 (↑(BitVec.toNat (BitVec.ofInt (IntKind.bits IntKind.i64) z4136 &&& BitVec.ofInt (IntKind.bits IntKind.i64) 15)) : Int))) fun (r : A10) => match r with
                         | .a0 b4167 =>
                          .auto 1 <|
                          .testB (b4167)
                           (fun h9 =>
                           .ask E12 (F12_ok) fun (r : A12) => match r with
                           | .a0 b4168 =>
                            .auto 1 <|
                            .ret (A4.a0 (b4168))
                           )
                           (fun _ => .fail) -- none
                         )
                         (fun _ => .fail) -- none
                       )
                       (fun _ => .fail) -- none
                     )
                     (fun _ => .fail) -- none
                   )
                   (fun _ => .fail) -- none
                 )
                 (fun _ => .fail) -- none
               )
               (fun _ => .fail) -- none
            )
            (fun _ => .fail) -- none
          )
          (fun _ => .fail) -- none
         )
         (fun _ => .fail) -- none
noncomputable def F4 (l3258 : List (List V)) (l3259 : List (List V)) (z3260 : Int) (z3261 : Int) (z3262 : Int) (z3263 : Int) (z3264 : Int) (z3265 : Int) (z3266 : Int) (b3267 : Bool) (l3268 : List (List V)) (z3269 : Int) : Option A4 := (D4 l3258 l3259 z3260 z3261 z3262 z3263 z3264 z3265 z3266 b3267 l3268 z3269).ev some
theorem F4_ok (l3258 : List (List V)) (l3259 : List (List V)) (z3260 : Int) (z3261 : Int) (z3262 : Int) (z3263 : Int) (z3264 : Int) (z3265 : Int) (z3266 : Int) (b3267 : Bool) (l3268 : List (List V)) (z3269 : Int) : ∀ b, F4 l3258 l3259 z3260 z3261 z3262 z3263 z3264 z3265 z3266 b3267 l3268 z3269 = some b → UU 4 ([V.list 1 l3258, V.list 1 l3259, i64 z3260, V.agg [i64 z3261, i64 z3262, i64 z3263, i64 z3264, i64 z3265, i64 z3266], V.agg [vb b3267, V.list 2 l3268], i64 z3269]) ([]) = some (A4.out b) :=
  fn_ok (E := E4) (L := notIn []) rfl rfl (fun x => by kernel_rfl)
/-! ## F3 -/
noncomputable abbrev B3 : Code := (Try.f3.body).getD .skip
inductive N3_10 where
  | s0 (z4359 : Int) (k4360 : Nat) (l4361 : List (List V))
  | s1 (z4365 : Int) (k4366 : Nat) (z4367 : Int) (l4368 : List (List V))
  | e0
  | e1 (z4372 : Int)
@[reducible] def N3_10.out : N3_10 → VX × S
  | .s0 z4359 k4360 l4361 => (VX.normal, { T := un 7 (i64 z4359 :: V.hs 0 0 k4360 :: U :: i64 (-1) :: un 90 []), σ := [Ob.cells true true 1 l4361] })
  | .s1 z4365 k4366 z4367 l4368 => (VX.normal, { T := un 7 (i64 z4365 :: V.hs 0 0 k4366 :: U :: i64 z4367 :: un 90 []), σ := [Ob.cells false true 1 l4368] })
  | .e0 => (VX.ret, { T := vb false :: un 100 [], σ := [] })
  | .e1 z4372 => (VX.exit 10, { T := un 7 (i64 z4372 :: un 93 []), σ := [] })
def N3_10.ex (g : N3_10 → Prop) : Prop := (∃ (z4359 : Int) (k4360 : Nat) (l4361 : List (List V)), g (.s0 z4359 k4360 l4361)) ∨ (∃ (z4365 : Int) (k4366 : Nat) (z4367 : Int) (l4368 : List (List V)), g (.s1 z4365 k4366 z4367 l4368)) ∨ g .e0 ∨ (∃ (z4372 : Int), g (.e1 z4372))
theorem N3_10.ok (g : N3_10 → Prop) : N3_10.ex g ↔ ∃ b, g b := ⟨fun h => match h with
  | .inl ⟨_, _, _, h⟩ => ⟨_, h⟩
  | .inr (.inl ⟨_, _, _, _, h⟩) => ⟨_, h⟩
  | .inr (.inr (.inl h)) => ⟨_, h⟩
  | .inr (.inr (.inr (⟨_, h⟩))) => ⟨_, h⟩, fun ⟨b, h⟩ => match b, h with
  | .s0 _ _ _, h => .inl ⟨_, _, _, h⟩
  | .s1 _ _ _ _, h => .inr (.inl ⟨_, _, _, _, h⟩)
  | .e0, h => .inr (.inr (.inl h))
  | .e1 _, h => .inr (.inr (.inr (⟨_, h⟩)))⟩
abbrev E3_10 : Ent (VX × S) := ⟨N3_10, N3_10.out, N3_10.ex, N3_10.ok⟩
noncomputable def D3_10 (z4359 : Int) (k4360 : Nat) (l4361 : List (List V)) : PT N3_10 :=
  .auto 1 <|
  .test (0 + k4360 ≤ List.length l4361)
   (fun h0 =>
   .ask E11 (F11_ok (List.take k4360 l4361) (z4359)) fun (r : A11) => match r with
   | .a0 k4402 l4403 =>
    .test (0 + k4402 ≤ List.length l4403)
     (fun h1 =>
     .ask E10 (F10_ok (List.take k4402 l4403) (-1)) fun (r : A10) => match r with
     | .a0 b4404 =>
      .testB (!b4404)
       (fun h2 =>
       .ret (N3_10.e0)
       )
       (fun h2 =>
       .ret (N3_10.s1 (z4359) (k4360) (0) (l4361))
       )
     )
     (fun _ => .fail) -- none
   )
   (fun _ => .fail) -- none
noncomputable def D3_10s1 (z4365 : Int) (k4366 : Nat) (z4367 : Int) (l4368 : List (List V)) : PT N3_10 :=
  .test (z4367 < 20)
   (fun h0 =>
   .test (0 + k4366 ≤ List.length l4368)
    (fun h1 =>
    .ask E11 (F11_ok (List.take k4366 l4368) (z4365)) fun (r : A11) => match r with
    | .a0 k4405 l4406 =>
     .test (0 + k4405 ≤ List.length l4406)
      (fun h2 =>
      .ask E10 (F10_ok (List.take k4405 l4406) (z4367)) fun (r : A10) => match r with
      | .a0 b4407 =>
       .testB (!b4407)
        (fun h3 =>
        .ret (N3_10.e0)
        )
        (fun h3 =>
        .ret (N3_10.s1 (z4365) (k4366) (w64 (z4367 + 1)) (l4368))
        )
      )
      (fun _ => .fail) -- none
    )
    (fun _ => .fail) -- none
   )
   (fun h0 =>
   .ret (N3_10.e1 (z4365))
   )
noncomputable def S3_10 : N3_10 → PT N3_10
  | .s0 z4359 k4360 l4361 => D3_10 z4359 k4360 l4361
  | .s1 z4365 k4366 z4367 l4368 => D3_10s1 z4365 k4366 z4367 l4368
  | _ => .fail
def N3_10.off : N3_10 → Bool
  | .s0 _ _ _ => false
  | .s1 _ _ _ _ => false
  | _ => true
noncomputable def L3_10 (n : Nat) (b : N3_10) : Option N3_10 := PT.loop (S3_10) N3_10.off n b
theorem L3_10_ok : ∀ (n : Nat) (b : N3_10), N3_10.off b = false → ∀ c, L3_10 n b = some c → loopP Try.prog X CC 3 (0) 18446744073709551616 B3 10 n (E3_10.out b).2 = some (E3_10.out c) :=
  loop_ok (E := E3_10) (step := S3_10) (L := notIn []) (fun b hb => by cases b <;> first | (cases hb; done) | (intro x; kernel_rfl)) (fun b => by cases b <;> rfl)
noncomputable def N3_10.nx (n : Nat) (c : N3_10) : Option N3_10 := match N3_10.off c with
  | true => some c
  | false => L3_10 n c
theorem L3_10_s0 (n : Nat) (z4359 : Int) (k4360 : Nat) (l4361 : List (List V)) : L3_10 (n + 1) (.s0 z4359 k4360 l4361) = (D3_10 z4359 k4360 l4361).ev (N3_10.nx n) := rfl
theorem N3_10.nx_s0 (n : Nat) (z4359 : Int) (k4360 : Nat) (l4361 : List (List V)) : N3_10.nx n (.s0 z4359 k4360 l4361) = L3_10 n (.s0 z4359 k4360 l4361) := rfl
theorem L3_10_s1 (n : Nat) (z4365 : Int) (k4366 : Nat) (z4367 : Int) (l4368 : List (List V)) : L3_10 (n + 1) (.s1 z4365 k4366 z4367 l4368) = (D3_10s1 z4365 k4366 z4367 l4368).ev (N3_10.nx n) := rfl
theorem N3_10.nx_s1 (n : Nat) (z4365 : Int) (k4366 : Nat) (z4367 : Int) (l4368 : List (List V)) : N3_10.nx n (.s1 z4365 k4366 z4367 l4368) = L3_10 n (.s1 z4365 k4366 z4367 l4368) := rfl
theorem N3_10.nx_e0 (n : Nat) : N3_10.nx n (.e0) = some (.e0) := rfl
theorem N3_10.nx_e1 (n : Nat) (z4372 : Int) : N3_10.nx n (.e1 z4372) = some (.e1 z4372) := rfl
inductive N3_8 where
  | s0 (z4349 : Int) (k4350 : Nat) (z4351 : Int) (l4352 : List (List V))
  | e0 (z4353 : Int) (k4354 : Nat) (l4355 : List (List V))
@[reducible] def N3_8.out : N3_8 → VX × S
  | .s0 z4349 k4350 z4351 l4352 => (VX.normal, { T := un 7 (i64 z4349 :: V.hs 0 0 k4350 :: i64 z4351 :: un 91 []), σ := [Ob.cells true true 1 l4352] })
  | .e0 z4353 k4354 l4355 => (VX.exit 8, { T := un 7 (i64 z4353 :: V.hs 0 0 k4354 :: un 92 []), σ := [Ob.cells true true 1 l4355] })
def N3_8.ex (g : N3_8 → Prop) : Prop := (∃ (z4349 : Int) (k4350 : Nat) (z4351 : Int) (l4352 : List (List V)), g (.s0 z4349 k4350 z4351 l4352)) ∨ (∃ (z4353 : Int) (k4354 : Nat) (l4355 : List (List V)), g (.e0 z4353 k4354 l4355))
theorem N3_8.ok (g : N3_8 → Prop) : N3_8.ex g ↔ ∃ b, g b := ⟨fun h => match h with
  | .inl ⟨_, _, _, _, h⟩ => ⟨_, h⟩
  | .inr (⟨_, _, _, h⟩) => ⟨_, h⟩, fun ⟨b, h⟩ => match b, h with
  | .s0 _ _ _ _, h => .inl ⟨_, _, _, _, h⟩
  | .e0 _ _ _, h => .inr (⟨_, _, _, h⟩)⟩
abbrev E3_8 : Ent (VX × S) := ⟨N3_8, N3_8.out, N3_8.ex, N3_8.ok⟩
noncomputable def D3_8 (z4349 : Int) (k4350 : Nat) (z4351 : Int) (l4352 : List (List V)) : PT N3_8 :=
  .test (z4351 < 60)
   (fun h0 =>
   .auto 2 <|
   .test (0 + k4350 ≤ List.length l4352 ∧ (k4350 + 1) * 8 ≤ 140737488355328 ∧ k4350 + 1 ≤ 140737488355328)
    (fun h1 =>
    .ret (N3_8.s0 (z4349) (k4350 + 1) (w64 (z4351 + 1)) (List.take k4350 l4352 ++ [[i64 (Int.tmod (w64 (w64 (w64 (z4351 * z4351) * 7) + w64 (z4349 * 13))) 97)]]))
    )
    (fun _ => .fail) -- none
   )
   (fun h0 =>
   .ret (N3_8.e0 (z4349) (k4350) (l4352))
   )
noncomputable def S3_8 : N3_8 → PT N3_8
  | .s0 z4349 k4350 z4351 l4352 => D3_8 z4349 k4350 z4351 l4352
  | _ => .fail
def N3_8.off : N3_8 → Bool
  | .s0 _ _ _ _ => false
  | _ => true
noncomputable def L3_8 (n : Nat) (b : N3_8) : Option N3_8 := PT.loop (S3_8) N3_8.off n b
theorem L3_8_ok : ∀ (n : Nat) (b : N3_8), N3_8.off b = false → ∀ c, L3_8 n b = some c → loopP Try.prog X CC 3 (0) 18446744073709551616 B3 8 n (E3_8.out b).2 = some (E3_8.out c) :=
  loop_ok (E := E3_8) (step := S3_8) (L := notIn []) (fun b hb => by cases b <;> first | (cases hb; done) | (intro x; kernel_rfl)) (fun b => by cases b <;> rfl)
noncomputable def N3_8.nx (n : Nat) (c : N3_8) : Option N3_8 := match N3_8.off c with
  | true => some c
  | false => L3_8 n c
theorem L3_8_s0 (n : Nat) (z4349 : Int) (k4350 : Nat) (z4351 : Int) (l4352 : List (List V)) : L3_8 (n + 1) (.s0 z4349 k4350 z4351 l4352) = (D3_8 z4349 k4350 z4351 l4352).ev (N3_8.nx n) := rfl
theorem N3_8.nx_s0 (n : Nat) (z4349 : Int) (k4350 : Nat) (z4351 : Int) (l4352 : List (List V)) : N3_8.nx n (.s0 z4349 k4350 z4351 l4352) = L3_8 n (.s0 z4349 k4350 z4351 l4352) := rfl
theorem N3_8.nx_e0 (n : Nat) (z4353 : Int) (k4354 : Nat) (l4355 : List (List V)) : N3_8.nx n (.e0 z4353 k4354 l4355) = some (.e0 z4353 k4354 l4355) := rfl
inductive N3_6 where
  | s0 (z4325 : Int)
  | e0
  | e1
@[reducible] def N3_6.out : N3_6 → VX × S
  | .s0 z4325 => (VX.normal, { T := un 7 (i64 z4325 :: un 93 []), σ := [] })
  | .e0 => (VX.ret, { T := vb false :: un 100 [], σ := [] })
  | .e1 => (VX.exit 6, { T := un 101 [], σ := [] })
def N3_6.ex (g : N3_6 → Prop) : Prop := (∃ (z4325 : Int), g (.s0 z4325)) ∨ g .e0 ∨ g .e1
theorem N3_6.ok (g : N3_6 → Prop) : N3_6.ex g ↔ ∃ b, g b := ⟨fun h => match h with
  | .inl ⟨_, h⟩ => ⟨_, h⟩
  | .inr (.inl h) => ⟨_, h⟩
  | .inr (.inr (h)) => ⟨_, h⟩, fun ⟨b, h⟩ => match b, h with
  | .s0 _, h => .inl ⟨_, h⟩
  | .e0, h => .inr (.inl h)
  | .e1, h => .inr (.inr (h))⟩
abbrev E3_6 : Ent (VX × S) := ⟨N3_6, N3_6.out, N3_6.ex, N3_6.ok⟩
noncomputable def D3_6 (z4325 : Int) : PT N3_6 :=
  .test (z4325 < 30)
   (fun h0 =>
   .cut E3_8 (L3_8_ok 18446744073709551616 (.s0 (z4325) (0) (0) ([])) rfl) fun (r : N3_8) => match r with
   | .e0 z4399 k4400 l4401 =>
    .cut E3_10 (L3_10_ok 18446744073709551616 (.s0 (z4399) (k4400) (l4401)) rfl) fun (r : N3_10) => match r with
    | .e0 =>
     .ret (N3_6.e0)
    | .e1 z4408 =>
     .ret (N3_6.s0 (w64 (z4408 + 1)))
    | _ => .fail
   | _ => .fail
   )
   (fun h0 =>
   .ret (N3_6.e1)
   )
noncomputable def S3_6 : N3_6 → PT N3_6
  | .s0 z4325 => D3_6 z4325
  | _ => .fail
def N3_6.off : N3_6 → Bool
  | .s0 _ => false
  | _ => true
noncomputable def L3_6 (n : Nat) (b : N3_6) : Option N3_6 := PT.loop (S3_6) N3_6.off n b
theorem L3_6_ok : ∀ (n : Nat) (b : N3_6), N3_6.off b = false → ∀ c, L3_6 n b = some c → loopP Try.prog X CC 3 (0) 18446744073709551616 B3 6 n (E3_6.out b).2 = some (E3_6.out c) :=
  loop_ok (E := E3_6) (step := S3_6) (L := notIn []) (fun b hb => by cases b <;> first | (cases hb; done) | (intro x; kernel_rfl)) (fun b => by cases b <;> rfl)
noncomputable def N3_6.nx (n : Nat) (c : N3_6) : Option N3_6 := match N3_6.off c with
  | true => some c
  | false => L3_6 n c
theorem L3_6_s0 (n : Nat) (z4325 : Int) : L3_6 (n + 1) (.s0 z4325) = (D3_6 z4325).ev (N3_6.nx n) := rfl
theorem N3_6.nx_s0 (n : Nat) (z4325 : Int) : N3_6.nx n (.s0 z4325) = L3_6 n (.s0 z4325) := rfl
theorem N3_6.nx_e0 (n : Nat) : N3_6.nx n (.e0) = some (.e0) := rfl
theorem N3_6.nx_e1 (n : Nat) : N3_6.nx n (.e1) = some (.e1) := rfl
inductive N3_c49 where
  | e0 (z4225 : Int) (z4226 : Int) (z4227 : Int) (k4228 : Nat) (b4229 : Bool) (k4230 : Nat) (l4231 : List (List V)) (l4232 : List (List V))
@[reducible] def N3_c49.out : N3_c49 → VX × S
  | .e0 z4225 z4226 z4227 k4228 b4229 k4230 l4231 l4232 => (VX.normal, { T := U :: i64 z4225 :: V.ptr 0 0 0 :: U :: U :: i64 z4226 :: V.ptr 1 0 0 :: un 27 (V.hs 2 0 5 :: i64 5 :: i64 z4227 :: un 64 []), σ := [Ob.cells true false 2 [[vb false, V.hs 3 0 k4228]], Ob.cells true false 2 [[vb b4229, V.hs 4 0 k4230]], Ob.cells true true 1 [[i64 67108864], [i64 67108865], [i64 (-67108864)], [i64 (-67108865)], [i64 4611686018427387904]], Ob.cells true true 2 l4231, Ob.cells true true 2 l4232] })
def N3_c49.ex (g : N3_c49 → Prop) : Prop := (∃ (z4225 : Int) (z4226 : Int) (z4227 : Int) (k4228 : Nat) (b4229 : Bool) (k4230 : Nat) (l4231 : List (List V)) (l4232 : List (List V)), g (.e0 z4225 z4226 z4227 k4228 b4229 k4230 l4231 l4232))
theorem N3_c49.ok (g : N3_c49 → Prop) : N3_c49.ex g ↔ ∃ b, g b := ⟨fun h => match h with
  | ⟨_, _, _, _, _, _, _, _, h⟩ => ⟨_, h⟩, fun ⟨b, h⟩ => match b, h with
  | .e0 _ _ _ _ _ _ _ _, h => ⟨_, _, _, _, _, _, _, _, h⟩⟩
abbrev E3_c49 : Ent (VX × S) := ⟨N3_c49, N3_c49.out, N3_c49.ex, N3_c49.ok⟩
noncomputable def D3_c49 (z4215 : Int) (z4216 : Int) (z4217 : Int) (b4218 : Bool) (k4219 : Nat) (b4220 : Bool) (k4221 : Nat) (l4222 : List (List V)) (l4223 : List (List V)) : PT N3_c49 :=
  .testB (b4218)
   (fun h0 =>
   .auto 2 <|
   .test (0 ≤ w64 (Int.tdiv z4215 2) ∧ w64 (Int.tdiv z4215 2) < (↑k4221 : Int))
    (fun h1 =>
    .look RW26 (l4223[(0 : Nat) + Int.toNat (w64 (Int.tdiv z4215 (2 : Int)))]?) fun e4381 =>
    .ret (N3_c49.e0 (z4215) (z4216) (z4217) (k4219) (b4220) (k4221) (l4222) (List.set l4223 (0 + Int.toNat (w64 (Int.tdiv z4215 2))) [i64 e4381.c0, i64 z4216]))
    )
    (fun _ => .fail) -- none
   )
   (fun h0 =>
   .ret (N3_c49.e0 (z4215) (z4216) (z4217) (k4219) (b4220) (k4221) (l4222) (l4223))
   )
noncomputable def J3_c49 (z4215 : Int) (z4216 : Int) (z4217 : Int) (b4218 : Bool) (k4219 : Nat) (b4220 : Bool) (k4221 : Nat) (l4222 : List (List V)) (l4223 : List (List V)) : Option N3_c49 := (D3_c49 z4215 z4216 z4217 b4218 k4219 b4220 k4221 l4222 l4223).ev some
theorem J3_c49_ok (z4215 : Int) (z4216 : Int) (z4217 : Int) (b4218 : Bool) (k4219 : Nat) (b4220 : Bool) (k4221 : Nat) (l4222 : List (List V)) (l4223 : List (List V)) : ∀ b, J3_c49 z4215 z4216 z4217 b4218 k4219 b4220 k4221 l4222 l4223 = some b → condP Try.prog X CC 3 (0) 18446744073709551616 B3 49 ({ T := U :: i64 z4215 :: V.ptr 0 0 0 :: U :: U :: i64 z4216 :: V.ptr 1 0 0 :: un 27 (V.hs 2 0 5 :: i64 5 :: i64 z4217 :: un 12 (vb b4218 :: un 51 [])), σ := [Ob.cells true false 2 [[vb false, V.hs 3 0 k4219]], Ob.cells true false 2 [[vb b4220, V.hs 4 0 k4221]], Ob.cells true true 1 [[i64 67108864], [i64 67108865], [i64 (-67108864)], [i64 (-67108865)], [i64 4611686018427387904]], Ob.cells true true 2 l4222, Ob.cells true true 2 l4223] }) = some (E3_c49.out b) :=
  cond_ok (E := E3_c49) (L := notIn []) (fun x => by kernel_rfl)
inductive N3_4 where
  | s0 (z4210 : Int) (z4211 : Int) (k4212 : Nat) (l4213 : List (List V))
  | e0
  | e1 (z4249 : Int)
@[reducible] def N3_4.out : N3_4 → VX × S
  | .s0 z4210 z4211 k4212 l4213 => (VX.normal, { T := U :: i64 z4210 :: V.ptr 0 0 0 :: un 31 (V.hs 1 0 5 :: i64 5 :: i64 z4211 :: un 64 []), σ := [Ob.cells true false 2 [[vb false, V.hs 2 0 k4212]], Ob.cells true true 1 [[i64 67108864], [i64 67108865], [i64 (-67108864)], [i64 (-67108865)], [i64 4611686018427387904]], Ob.cells true true 2 l4213] })
  | .e0 => (VX.ret, { T := vb false :: un 100 [], σ := [] })
  | .e1 z4249 => (VX.exit 4, { T := U :: i64 z4249 :: un 99 [], σ := [] })
def N3_4.ex (g : N3_4 → Prop) : Prop := (∃ (z4210 : Int) (z4211 : Int) (k4212 : Nat) (l4213 : List (List V)), g (.s0 z4210 z4211 k4212 l4213)) ∨ g .e0 ∨ (∃ (z4249 : Int), g (.e1 z4249))
theorem N3_4.ok (g : N3_4 → Prop) : N3_4.ex g ↔ ∃ b, g b := ⟨fun h => match h with
  | .inl ⟨_, _, _, _, h⟩ => ⟨_, h⟩
  | .inr (.inl h) => ⟨_, h⟩
  | .inr (.inr (⟨_, h⟩)) => ⟨_, h⟩, fun ⟨b, h⟩ => match b, h with
  | .s0 _ _ _ _, h => .inl ⟨_, _, _, _, h⟩
  | .e0, h => .inr (.inl h)
  | .e1 _, h => .inr (.inr (⟨_, h⟩))⟩
abbrev E3_4 : Ent (VX × S) := ⟨N3_4, N3_4.out, N3_4.ex, N3_4.ok⟩
noncomputable def D3_4 (z4210 : Int) (z4211 : Int) (k4212 : Nat) (l4213 : List (List V)) : PT N3_4 :=
  .test (z4211 < 5)
   (fun h0 =>
   .test (0 ≤ z4211 ∧ z4211 < 5)
    (fun h1 =>
    .look RW2 ([[i64 (67108864 : Int)], [i64 (67108865 : Int)], [i64 (-67108864 : Int)], [i64 (-67108865 : Int)], [i64 (4611686018427387904 : Int)]][(0 : Nat) + Int.toNat z4211]?) fun e4380 =>
    .auto 2 <|
    .test (0 + k4212 ≤ List.length l4213)
     (fun h2 =>
     .test ((0 : Nat) ≤ (0 : Nat) ∧ ((0 : Nat) + List.length (List.take k4212 l4213)) * (16 : Nat) ≤ (140737488355328 : Nat) ∧ (0 : Nat) + List.length (List.take k4212 l4213) ≤ (140737488355328 : Nat))
      (fun h3 =>
      .auto 1 <|
      .cut E3_c49 (J3_c49_ok (z4210) (e4380.c0) (z4211) (decide (z4210 > 0)) (k4212) (Int.tmod z4210 2 == 0) (0 + List.length (List.take k4212 l4213)) (l4213) ([] ++ List.take k4212 l4213)) fun (r : N3_c49) => match r with
      | .e0 z4382 z4383 z4384 k4385 b4386 k4387 l4388 l4389 =>
       .auto 2 <|
       .ask E9 (F9_ok) fun (r : A9) => match r with
       | .a0 z4390 z4391 z4392 z4393 z4394 z4395 =>
        .test (0 + k4387 ≤ List.length l4389)
         (fun h4 =>
         .test (0 + k4385 ≤ List.length l4388)
          (fun h5 =>
          .ask E8 (F8_ok (b4386) (List.take k4387 l4389) (false) (List.take k4385 l4388) (z4383) (z4390) (z4391) (z4392) (z4393) (z4394) (z4395)) fun (r : A8) => match r with
          | .a0 b4396 =>
           .testB (!b4396)
            (fun h6 =>
            .auto 6 <|
            .ret (N3_4.e0)
            )
            (fun h6 =>
            .auto 5 <|
            .known (decide_eq_true h5) <|
            .known (decide_eq_true h4) <|
            .ask E8 (F8_ok (false) (List.take k4385 l4388) (b4386) (List.take k4387 l4389) (21845) (327680) (9) (0) (0) (0) (0)) fun (r : A8) => match r with
            | .a0 b4397 =>
             .auto 2 <|
             .testB (!b4397)
              (fun h7 =>
              .ret (N3_4.e0)
              )
              (fun h7 =>
              .ret (N3_4.s0 (z4382) (w64 (z4384 + 1)) (k4385) (l4388))
              )
            )
          )
          (fun _ => .fail) -- none
         )
         (fun _ => .fail) -- none
      )
      (fun _ => .fail) -- none
     )
     (fun _ => .fail) -- none
    )
    (fun _ => .fail) -- none
   )
   (fun h0 =>
   .ret (N3_4.e1 (z4210))
   )
noncomputable def S3_4 : N3_4 → PT N3_4
  | .s0 z4210 z4211 k4212 l4213 => D3_4 z4210 z4211 k4212 l4213
  | _ => .fail
def N3_4.off : N3_4 → Bool
  | .s0 _ _ _ _ => false
  | _ => true
noncomputable def L3_4 (n : Nat) (b : N3_4) : Option N3_4 := PT.loop (S3_4) N3_4.off n b
theorem L3_4_ok : ∀ (n : Nat) (b : N3_4), N3_4.off b = false → ∀ c, L3_4 n b = some c → loopP Try.prog X CC 3 (0) 18446744073709551616 B3 4 n (E3_4.out b).2 = some (E3_4.out c) :=
  loop_ok (E := E3_4) (step := S3_4) (L := notIn []) (fun b hb => by cases b <;> first | (cases hb; done) | (intro x; kernel_rfl)) (fun b => by cases b <;> rfl)
noncomputable def N3_4.nx (n : Nat) (c : N3_4) : Option N3_4 := match N3_4.off c with
  | true => some c
  | false => L3_4 n c
theorem L3_4_s0 (n : Nat) (z4210 : Int) (z4211 : Int) (k4212 : Nat) (l4213 : List (List V)) : L3_4 (n + 1) (.s0 z4210 z4211 k4212 l4213) = (D3_4 z4210 z4211 k4212 l4213).ev (N3_4.nx n) := rfl
theorem N3_4.nx_s0 (n : Nat) (z4210 : Int) (z4211 : Int) (k4212 : Nat) (l4213 : List (List V)) : N3_4.nx n (.s0 z4210 z4211 k4212 l4213) = L3_4 n (.s0 z4210 z4211 k4212 l4213) := rfl
theorem N3_4.nx_e0 (n : Nat) : N3_4.nx n (.e0) = some (.e0) := rfl
theorem N3_4.nx_e1 (n : Nat) (z4249 : Int) : N3_4.nx n (.e1 z4249) = some (.e1 z4249) := rfl
inductive N3_2 where
  | s0 (z4199 : Int) (z4200 : Int) (z4201 : Int) (k4202 : Nat) (l4203 : List (List V))
  | e0 (z4204 : Int) (k4205 : Nat) (l4206 : List (List V))
@[reducible] def N3_2.out : N3_2 → VX × S
  | .s0 z4199 z4200 z4201 k4202 l4203 => (VX.normal, { T := U :: i64 z4199 :: V.ptr 0 0 0 :: un 17 (i64 z4200 :: i64 z4201 :: un 79 []), σ := [Ob.cells true false 2 [[vb false, V.hs 1 0 k4202]], Ob.cells true true 2 l4203] })
  | .e0 z4204 k4205 l4206 => (VX.exit 2, { T := U :: i64 z4204 :: V.ptr 0 0 0 :: un 98 [], σ := [Ob.cells true false 2 [[vb false, V.hs 1 0 k4205]], Ob.cells true true 2 l4206] })
def N3_2.ex (g : N3_2 → Prop) : Prop := (∃ (z4199 : Int) (z4200 : Int) (z4201 : Int) (k4202 : Nat) (l4203 : List (List V)), g (.s0 z4199 z4200 z4201 k4202 l4203)) ∨ (∃ (z4204 : Int) (k4205 : Nat) (l4206 : List (List V)), g (.e0 z4204 k4205 l4206))
theorem N3_2.ok (g : N3_2 → Prop) : N3_2.ex g ↔ ∃ b, g b := ⟨fun h => match h with
  | .inl ⟨_, _, _, _, _, h⟩ => ⟨_, h⟩
  | .inr (⟨_, _, _, h⟩) => ⟨_, h⟩, fun ⟨b, h⟩ => match b, h with
  | .s0 _ _ _ _ _, h => .inl ⟨_, _, _, _, _, h⟩
  | .e0 _ _ _, h => .inr (⟨_, _, _, h⟩)⟩
abbrev E3_2 : Ent (VX × S) := ⟨N3_2, N3_2.out, N3_2.ex, N3_2.ok⟩
noncomputable def D3_2 (z4199 : Int) (z4200 : Int) (z4201 : Int) (k4202 : Nat) (l4203 : List (List V)) : PT N3_2 :=
  .test (z4201 < z4200)
   (fun h0 =>
   .auto 1 <|
   .test (0 ≤ z4201 ∧ z4201 < (↑k4202 : Int))
    (fun h1 =>
    .look RW26 (l4203[(0 : Nat) + Int.toNat z4201]?) fun e4376 =>
    .ret (N3_2.s0 (z4199) (z4200) (w64 (z4201 + 1)) (k4202) (List.set l4203 (0 + Int.toNat z4201) [i64 (w64 (z4201 * 1000)), i64 (w64 (0 - z4201))]))
    )
    (fun _ => .fail) -- none
   )
   (fun h0 =>
   .ret (N3_2.e0 (z4199) (k4202) (l4203))
   )
noncomputable def S3_2 : N3_2 → PT N3_2
  | .s0 z4199 z4200 z4201 k4202 l4203 => D3_2 z4199 z4200 z4201 k4202 l4203
  | _ => .fail
def N3_2.off : N3_2 → Bool
  | .s0 _ _ _ _ _ => false
  | _ => true
noncomputable def L3_2 (n : Nat) (b : N3_2) : Option N3_2 := PT.loop (S3_2) N3_2.off n b
theorem L3_2_ok : ∀ (n : Nat) (b : N3_2), N3_2.off b = false → ∀ c, L3_2 n b = some c → loopP Try.prog X CC 3 (0) 18446744073709551616 B3 2 n (E3_2.out b).2 = some (E3_2.out c) :=
  loop_ok (E := E3_2) (step := S3_2) (L := notIn []) (fun b hb => by cases b <;> first | (cases hb; done) | (intro x; kernel_rfl)) (fun b => by cases b <;> rfl)
noncomputable def N3_2.nx (n : Nat) (c : N3_2) : Option N3_2 := match N3_2.off c with
  | true => some c
  | false => L3_2 n c
theorem L3_2_s0 (n : Nat) (z4199 : Int) (z4200 : Int) (z4201 : Int) (k4202 : Nat) (l4203 : List (List V)) : L3_2 (n + 1) (.s0 z4199 z4200 z4201 k4202 l4203) = (D3_2 z4199 z4200 z4201 k4202 l4203).ev (N3_2.nx n) := rfl
theorem N3_2.nx_s0 (n : Nat) (z4199 : Int) (z4200 : Int) (z4201 : Int) (k4202 : Nat) (l4203 : List (List V)) : N3_2.nx n (.s0 z4199 z4200 z4201 k4202 l4203) = L3_2 n (.s0 z4199 z4200 z4201 k4202 l4203) := rfl
theorem N3_2.nx_e0 (n : Nat) (z4204 : Int) (k4205 : Nat) (l4206 : List (List V)) : N3_2.nx n (.e0 z4204 k4205 l4206) = some (.e0 z4204 k4205 l4206) := rfl
inductive N3_0 where
  | s0 (z4193 : Int)
  | e0
  | e1
@[reducible] def N3_0.out : N3_0 → VX × S
  | .s0 z4193 => (VX.normal, { T := U :: i64 z4193 :: un 99 [], σ := [] })
  | .e0 => (VX.ret, { T := vb false :: un 100 [], σ := [] })
  | .e1 => (VX.exit 0, { T := un 101 [], σ := [] })
def N3_0.ex (g : N3_0 → Prop) : Prop := (∃ (z4193 : Int), g (.s0 z4193)) ∨ g .e0 ∨ g .e1
theorem N3_0.ok (g : N3_0 → Prop) : N3_0.ex g ↔ ∃ b, g b := ⟨fun h => match h with
  | .inl ⟨_, h⟩ => ⟨_, h⟩
  | .inr (.inl h) => ⟨_, h⟩
  | .inr (.inr (h)) => ⟨_, h⟩, fun ⟨b, h⟩ => match b, h with
  | .s0 _, h => .inl ⟨_, h⟩
  | .e0, h => .inr (.inl h)
  | .e1, h => .inr (.inr (h))⟩
abbrev E3_0 : Ent (VX × S) := ⟨N3_0, N3_0.out, N3_0.ex, N3_0.ok⟩
noncomputable def D3_0 (z4193 : Int) : PT N3_0 :=
  .test (z4193 < 101)
   (fun h0 =>
   .test (0 ≤ z4193 ∧ z4193 ≤ z4193 ∧ z4193 ≤ 140737488355328 ∧ z4193 * 16 ≤ 140737488355328)
    (fun h1 =>
    .auto 2 <|
    .cut E3_2 (L3_2_ok 18446744073709551616 (.s0 (z4193) ((↑(Int.toNat z4193) : Int)) (0) (Int.toNat z4193) (List.replicate (Int.toNat z4193) [i64 0, i64 0])) rfl) fun (r : N3_2) => match r with
    | .e0 z4377 k4378 l4379 =>
     .cut E3_4 (L3_4_ok 18446744073709551616 (.s0 (z4377) (0) (k4378) (l4379)) rfl) fun (r : N3_4) => match r with
     | .e0 =>
      .ret (N3_0.e0)
     | .e1 z4398 =>
      .ret (N3_0.s0 (w64 (z4398 + 1)))
     | _ => .fail
    | _ => .fail
    )
    (fun _ => .fail) -- none
   )
   (fun h0 =>
   .ret (N3_0.e1)
   )
noncomputable def S3_0 : N3_0 → PT N3_0
  | .s0 z4193 => D3_0 z4193
  | _ => .fail
def N3_0.off : N3_0 → Bool
  | .s0 _ => false
  | _ => true
noncomputable def L3_0 (n : Nat) (b : N3_0) : Option N3_0 := PT.loop (S3_0) N3_0.off n b
theorem L3_0_ok : ∀ (n : Nat) (b : N3_0), N3_0.off b = false → ∀ c, L3_0 n b = some c → loopP Try.prog X CC 3 (0) 18446744073709551616 B3 0 n (E3_0.out b).2 = some (E3_0.out c) :=
  loop_ok (E := E3_0) (step := S3_0) (L := notIn []) (fun b hb => by cases b <;> first | (cases hb; done) | (intro x; kernel_rfl)) (fun b => by cases b <;> rfl)
noncomputable def N3_0.nx (n : Nat) (c : N3_0) : Option N3_0 := match N3_0.off c with
  | true => some c
  | false => L3_0 n c
theorem L3_0_s0 (n : Nat) (z4193 : Int) : L3_0 (n + 1) (.s0 z4193) = (D3_0 z4193).ev (N3_0.nx n) := rfl
theorem N3_0.nx_s0 (n : Nat) (z4193 : Int) : N3_0.nx n (.s0 z4193) = L3_0 n (.s0 z4193) := rfl
theorem N3_0.nx_e0 (n : Nat) : N3_0.nx n (.e0) = some (.e0) := rfl
theorem N3_0.nx_e1 (n : Nat) : N3_0.nx n (.e1) = some (.e1) := rfl
noncomputable def D3 : PT A3 :=
  .cut E3_0 (L3_0_ok 18446744073709551616 (.s0 (0)) rfl) fun (r : N3_0) => match r with
  | .e1 =>
   .cut E3_6 (L3_6_ok 18446744073709551616 (.s0 (0)) rfl) fun (r : N3_6) => match r with
   | .e1 =>
    .ask E12 (F12_ok) fun (r : A12) => match r with
    | .a0 b4409 =>
     .ret (A3.a0 (b4409))
   | _ => .fail
  | _ => .fail
noncomputable def F3 : Option A3 := (D3).ev some
theorem F3_ok : ∀ b, F3 = some b → UU 3 ([]) ([]) = some (A3.out b) :=
  fn_ok (E := E3) (L := notIn []) rfl rfl (fun x => by kernel_rfl)
/-! ## F85 -/
noncomputable abbrev B85 : Code := (Try.f85.body).getD .skip
inductive N85_0 where
  | s0 (l4424 : List (List V)) (z4425 : Int) (k4426 : Nat) (l4427 : List (List V))
  | e0 (k4436 : Nat) (l4437 : List (List V))
@[reducible] def N85_0.out : N85_0 → VX × S
  | .s0 l4424 z4425 k4426 l4427 => (VX.normal, { T := V.list 2 l4424 :: U :: V.ptr 0 0 0 :: V.ptr 1 0 0 :: i64 z4425 :: un 34 [], σ := [Ob.cells true false 2 [[vb false, V.hs 2 0 0]], Ob.cells true false 2 [[vb true, V.hs 3 0 k4426]], Ob.cells true true 2 [], Ob.cells true true 2 l4427] })
  | .e0 k4436 l4437 => (VX.exit 0, { T := U :: U :: V.ptr 0 0 0 :: V.ptr 1 0 0 :: un 35 [], σ := [Ob.cells true false 2 [[vb false, V.hs 2 0 0]], Ob.cells true false 2 [[vb true, V.hs 3 0 k4436]], Ob.cells true true 2 [], Ob.cells true true 2 l4437] })
def N85_0.ex (g : N85_0 → Prop) : Prop := (∃ (l4424 : List (List V)) (z4425 : Int) (k4426 : Nat) (l4427 : List (List V)), g (.s0 l4424 z4425 k4426 l4427)) ∨ (∃ (k4436 : Nat) (l4437 : List (List V)), g (.e0 k4436 l4437))
theorem N85_0.ok (g : N85_0 → Prop) : N85_0.ex g ↔ ∃ b, g b := ⟨fun h => match h with
  | .inl ⟨_, _, _, _, h⟩ => ⟨_, h⟩
  | .inr (⟨_, _, h⟩) => ⟨_, h⟩, fun ⟨b, h⟩ => match b, h with
  | .s0 _ _ _ _, h => .inl ⟨_, _, _, _, h⟩
  | .e0 _ _, h => .inr (⟨_, _, h⟩)⟩
abbrev E85_0 : Ent (VX × S) := ⟨N85_0, N85_0.out, N85_0.ex, N85_0.ok⟩
noncomputable def D85_0 (l4424 : List (List V)) (z4425 : Int) (k4426 : Nat) (l4427 : List (List V)) : PT N85_0 :=
  .test (z4425 < (↑(List.length l4424) : Int))
   (fun h0 =>
   .test (0 ≤ z4425)
    (fun h1 =>
    .look RW26 (l4424[Int.toNat z4425]?) fun e4441 =>
    .test ((↑(List.length l4424) : Int) = 0)
     (fun _ => .fail) -- none
     (fun h2 =>
     .test (0 ≤ Int.tmod (w64 (z4425 + 1)) (↑(List.length l4424) : Int))
      (fun h3 =>
      .look RW26 (l4424[Int.toNat (Int.tmod (w64 (z4425 + (1 : Int))) (↑(List.length l4424) : Int))]?) fun e4442 =>
      .auto 7 <|
      .test (0 + k4426 ≤ List.length l4427 ∧ (k4426 + 3) * 16 ≤ 140737488355328 ∧ k4426 + 3 ≤ 140737488355328)
       (fun h4 =>
       .auto 1 <|
       .ret (N85_0.s0 (l4424) (w64 (z4425 + 1)) (k4426 + 3) (List.take k4426 l4427 ++ [[i64 e4441.c0, i64 e4441.c1], [i64 e4442.c0, i64 e4442.c1], [i64 e4442.c0, i64 e4442.c1]]))
       )
       (fun _ => .fail) -- none
      )
      (fun _ => .fail) -- none
     )
    )
    (fun _ => .fail) -- none
   )
   (fun h0 =>
   .ret (N85_0.e0 (k4426) (l4427))
   )
noncomputable def S85_0 : N85_0 → PT N85_0
  | .s0 l4424 z4425 k4426 l4427 => D85_0 l4424 z4425 k4426 l4427
  | _ => .fail
def N85_0.off : N85_0 → Bool
  | .s0 _ _ _ _ => false
  | _ => true
noncomputable def L85_0 (n : Nat) (b : N85_0) : Option N85_0 := PT.loop (S85_0) N85_0.off n b
theorem L85_0_ok : ∀ (n : Nat) (b : N85_0), N85_0.off b = false → ∀ c, L85_0 n b = some c → loopP Try.prog X CC 85 (0) 18446744073709551616 B85 0 n (E85_0.out b).2 = some (E85_0.out c) :=
  loop_ok (E := E85_0) (step := S85_0) (L := notIn []) (fun b hb => by cases b <;> first | (cases hb; done) | (intro x; kernel_rfl)) (fun b => by cases b <;> rfl)
noncomputable def N85_0.nx (n : Nat) (c : N85_0) : Option N85_0 := match N85_0.off c with
  | true => some c
  | false => L85_0 n c
theorem L85_0_s0 (n : Nat) (l4424 : List (List V)) (z4425 : Int) (k4426 : Nat) (l4427 : List (List V)) : L85_0 (n + 1) (.s0 l4424 z4425 k4426 l4427) = (D85_0 l4424 z4425 k4426 l4427).ev (N85_0.nx n) := rfl
theorem N85_0.nx_s0 (n : Nat) (l4424 : List (List V)) (z4425 : Int) (k4426 : Nat) (l4427 : List (List V)) : N85_0.nx n (.s0 l4424 z4425 k4426 l4427) = L85_0 n (.s0 l4424 z4425 k4426 l4427) := rfl
theorem N85_0.nx_e0 (n : Nat) (k4436 : Nat) (l4437 : List (List V)) : N85_0.nx n (.e0 k4436 l4437) = some (.e0 k4436 l4437) := rfl
noncomputable def D85 (l4418 : List (List V)) : PT A85 :=
  .auto 1 <|
  .look RW26 (l4418[(0 : Nat)]?) fun e4440 =>
  .auto 1 <|
  .cut E85_0 (L85_0_ok 18446744073709551616 (.s0 (l4418) (0) (1) ([[i64 e4440.c0, i64 e4440.c1]])) rfl) fun (r : N85_0) => match r with
  | .e0 k4443 l4444 =>
   .auto 2 <|
   .ret (A85.a0 (true) (k4443) (l4444))
  | _ => .fail
noncomputable def F85 (l4418 : List (List V)) : Option A85 := (D85 l4418).ev some
theorem F85_ok (l4418 : List (List V)) : ∀ b, F85 l4418 = some b → UU 85 ([V.list 2 l4418]) ([]) = some (A85.out b) :=
  fn_ok (E := E85) (L := notIn []) rfl rfl (fun x => by kernel_rfl)
/-! ## F54 -/
noncomputable def D54 (z4416 : Int) (z4417 : Int) : PT A54 :=
  .auto 3 <|
  .ask E85 (F85_ok ([[i64 (w64 (0 - Int.fdiv z4416 2)), i64 (w64 (0 - Int.fdiv z4417 2))], [i64 (w64 (z4416 + w64 (0 - Int.fdiv z4416 2))), i64 (w64 (0 - Int.fdiv z4417 2))], [i64 (w64 (z4416 + w64 (0 - Int.fdiv z4416 2))), i64 (w64 (z4417 + w64 (0 - Int.fdiv z4417 2)))], [i64 (w64 (0 - Int.fdiv z4416 2)), i64 (w64 (z4417 + w64 (0 - Int.fdiv z4417 2)))]])) fun (r : A85) => match r with
  | .a0 b4445 k4446 l4447 =>
   .auto 1 <|
   .ret (A54.a0 (b4445) (k4446) (l4447))
noncomputable def F54 (z4416 : Int) (z4417 : Int) : Option A54 := (D54 z4416 z4417).ev some
theorem F54_ok (z4416 : Int) (z4417 : Int) : ∀ b, F54 z4416 z4417 = some b → UU 54 ([i64 z4416, i64 z4417]) ([]) = some (A54.out b) :=
  fn_ok (E := E54) (L := notIn []) rfl rfl (fun x => by kernel_rfl)
end Go.Proofs.Ytifalphladcdcaa.H
