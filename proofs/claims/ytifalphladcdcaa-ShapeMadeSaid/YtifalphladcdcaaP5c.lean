/- What the functions compute, and that they do so over the machine of plain values (printed by this session's program wip/vm/Walk.lean). No condition beyond those stated. -/
import Derived.Test.YtifalphladcdcaaWk
import Derived.Test.YtifalphladcdcaaP5b
set_option linter.unusedVariables false
set_option linter.unusedSimpArgs false
namespace Go.Proofs.Ytifalphladcdcaa.H
open Go Go.VM
set_option maxRecDepth 100000
/-! ## F97 -/
noncomputable abbrev B97 : Code := (Try.f97.body).getD .skip
inductive N97_0 where
  | s0 (l2747 : List (List V)) (z2748 : Int) (z2749 : Int)
  | e0 (z2753 : Int)
  | e1
@[reducible] def N97_0.out : N97_0 → VX × S
  | .s0 l2747 z2748 z2749 => (VX.normal, { T := V.list 2 l2747 :: V.fn 62 [] :: un 5 (i64 z2748 :: i64 z2749 :: un 10 []), σ := [] })
  | .e0 z2753 => (VX.ret, { T := un 4 (i64 z2753 :: un 14 []), σ := [] })
  | .e1 => (VX.exit 0, { T := un 19 [], σ := [] })
def N97_0.ex (g : N97_0 → Prop) : Prop := (∃ (l2747 : List (List V)) (z2748 : Int) (z2749 : Int), g (.s0 l2747 z2748 z2749)) ∨ (∃ (z2753 : Int), g (.e0 z2753)) ∨ g .e1
theorem N97_0.ok (g : N97_0 → Prop) : N97_0.ex g ↔ ∃ b, g b := ⟨fun h => match h with
  | .inl ⟨_, _, _, h⟩ => ⟨_, h⟩
  | .inr (.inl ⟨_, h⟩) => ⟨_, h⟩
  | .inr (.inr (h)) => ⟨_, h⟩, fun ⟨b, h⟩ => match b, h with
  | .s0 _ _ _, h => .inl ⟨_, _, _, h⟩
  | .e0 _, h => .inr (.inl ⟨_, h⟩)
  | .e1, h => .inr (.inr (h))⟩
abbrev E97_0 : Ent (VX × S) := ⟨N97_0, N97_0.out, N97_0.ex, N97_0.ok⟩
noncomputable def D97_0 (l2747 : List (List V)) (z2748 : Int) (z2749 : Int) : PT N97_0 :=
  .test (z2749 < z2748)
   (fun h0 =>
   .test (0 ≤ z2749)
    (fun h1 =>
    .look RW26 (l2747[Int.toNat z2749]?) fun e2755 =>
    .tot O62 (F62_ok (e2755.c0) (e2755.c1)) fun b2756 =>
    .testB (b2756)
     (fun h2 =>
     .ret (N97_0.e0 (z2749))
     )
     (fun h2 =>
     .ret (N97_0.s0 (l2747) (z2748) (w64 (z2749 + 1)))
     )
    )
    (fun _ => .fail) -- none
   )
   (fun h0 =>
   .ret (N97_0.e1)
   )
noncomputable def S97_0 : N97_0 → PT N97_0
  | .s0 l2747 z2748 z2749 => D97_0 l2747 z2748 z2749
  | _ => .fail
def N97_0.off : N97_0 → Bool
  | .s0 _ _ _ => false
  | _ => true
noncomputable def L97_0 (n : Nat) (b : N97_0) : Option N97_0 := PT.loop (S97_0) N97_0.off n b
theorem L97_0_ok : ∀ (n : Nat) (b : N97_0), N97_0.off b = false → ∀ c, L97_0 n b = some c → loopP Try.prog X CC 97 (0) 18446744073709551616 B97 0 n (E97_0.out b).2 = some (E97_0.out c) :=
  loop_ok (E := E97_0) (step := S97_0) (L := notIn []) (fun b hb => by cases b <;> first | (cases hb; done) | (intro x; kernel_rfl)) (fun b => by cases b <;> rfl)
noncomputable def N97_0.nx (n : Nat) (c : N97_0) : Option N97_0 := match N97_0.off c with
  | true => some c
  | false => L97_0 n c
theorem L97_0_s0 (n : Nat) (l2747 : List (List V)) (z2748 : Int) (z2749 : Int) : L97_0 (n + 1) (.s0 l2747 z2748 z2749) = (D97_0 l2747 z2748 z2749).ev (N97_0.nx n) := rfl
theorem N97_0.nx_s0 (n : Nat) (l2747 : List (List V)) (z2748 : Int) (z2749 : Int) : N97_0.nx n (.s0 l2747 z2748 z2749) = L97_0 n (.s0 l2747 z2748 z2749) := rfl
theorem N97_0.nx_e0 (n : Nat) (z2753 : Int) : N97_0.nx n (.e0 z2753) = some (.e0 z2753) := rfl
theorem N97_0.nx_e1 (n : Nat) : N97_0.nx n (.e1) = some (.e1) := rfl
noncomputable def D97 (l2735 : List (List V)) : PT A97 :=
  .cut E97_0 (L97_0_ok 18446744073709551616 (.s0 (l2735) ((↑(List.length l2735) : Int)) (0)) rfl) fun (r : N97_0) => match r with
  | .e0 z2757 =>
   .ret (A97.a0 (z2757))
  | .e1 =>
   .ret (A97.a0 (-1))
  | _ => .fail
noncomputable def F97 (l2735 : List (List V)) : Option A97 := (D97 l2735).ev some
theorem F97_ok (l2735 : List (List V)) : ∀ b, F97 l2735 = some b → UU 97 ([V.list 2 l2735, V.fn 62 []]) ([]) = some (A97.out b) :=
  fn_ok (E := E97) (L := notIn []) rfl rfl (fun x => by kernel_rfl)
/-! ## F61 -/
noncomputable def D61 (l2734 : List (List V)) : PT A61 :=
  .ask E97 (F97_ok (l2734)) fun (r : A97) => match r with
  | .a0 z2758 =>
   .ret (A61.a0 (decide (z2758 ≥ 0)))
noncomputable def F61 (l2734 : List (List V)) : Option A61 := (D61 l2734).ev some
theorem F61_ok (l2734 : List (List V)) : ∀ b, F61 l2734 = some b → UU 61 ([V.list 2 l2734, V.fn 62 []]) ([]) = some (A61.out b) :=
  fn_ok (E := E61) (L := notIn []) rfl rfl (fun x => by kernel_rfl)
/-! ## F24 -/
noncomputable def D24 (b2731 : Bool) (l2732 : List (List V)) : PT A24 :=
  .auto 1 <|
  .testB ((↑(List.length l2732) : Int) == 0)
   (fun h0 =>
   .auto 1 <|
   .ret (A24.a0 (!b2731))
   )
   (fun h0 =>
   .test ((↑(List.length l2732) : Int) ≥ 4)
    (fun h1 =>
    .auto 2 <|
    .test ((↑(List.length l2732) : Int) ≤ 97)
     (fun h2 =>
     .auto 4 <|
     .testB (Int.tmod (↑(List.length l2732) : Int) 3 == 1)
      (fun h3 =>
      .auto 3 <|
      .ask E61 (F61_ok (l2732)) fun (r : A61) => match r with
      | .a0 b2760 =>
       .auto 2 <|
       .ret (A24.a0 (!b2760))
      )
      (fun h3 =>
      .auto 4 <|
      .ret (A24.a0 (false))
      )
     )
     (fun h2 =>
     .auto 8 <|
     .ret (A24.a0 (false))
     )
    )
    (fun h1 =>
    .auto 11 <|
    .ret (A24.a0 (false))
    )
   )
noncomputable def F24 (b2731 : Bool) (l2732 : List (List V)) : Option A24 := (D24 b2731 l2732).ev some
theorem F24_ok (b2731 : Bool) (l2732 : List (List V)) : ∀ b, F24 b2731 l2732 = some b → UU 24 ([V.agg [vb b2731, V.list 2 l2732]]) ([]) = some (A24.out b) :=
  fn_ok (E := E24) (L := notIn []) rfl rfl (fun x => by kernel_rfl)
/-! ## F33 -/
noncomputable abbrev B33 : Code := (Try.f33.body).getD .skip
inductive N33_0 where
  | s0 (l2764 : List (List V)) (z2765 : Int) (z2766 : Int) (z2767 : Int)
  | e0
  | e1 (l2768 : List (List V))
@[reducible] def N33_0.out : N33_0 → VX × S
  | .s0 l2764 z2765 z2766 z2767 => (VX.normal, { T := V.list 8 l2764 :: U :: U :: i64 z2765 :: U :: U :: V.list 8 l2764 :: i64 z2766 :: i64 z2767 :: un 41 [], σ := [] })
  | .e0 => (VX.ret, { T := U :: U :: vb false :: un 47 [], σ := [] })
  | .e1 l2768 => (VX.exit 0, { T := V.list 8 l2768 :: un 49 [], σ := [] })
def N33_0.ex (g : N33_0 → Prop) : Prop := (∃ (l2764 : List (List V)) (z2765 : Int) (z2766 : Int) (z2767 : Int), g (.s0 l2764 z2765 z2766 z2767)) ∨ g .e0 ∨ (∃ (l2768 : List (List V)), g (.e1 l2768))
theorem N33_0.ok (g : N33_0 → Prop) : N33_0.ex g ↔ ∃ b, g b := ⟨fun h => match h with
  | .inl ⟨_, _, _, _, h⟩ => ⟨_, h⟩
  | .inr (.inl h) => ⟨_, h⟩
  | .inr (.inr (⟨_, h⟩)) => ⟨_, h⟩, fun ⟨b, h⟩ => match b, h with
  | .s0 _ _ _ _, h => .inl ⟨_, _, _, _, h⟩
  | .e0, h => .inr (.inl h)
  | .e1 _, h => .inr (.inr (⟨_, h⟩))⟩
abbrev E33_0 : Ent (VX × S) := ⟨N33_0, N33_0.out, N33_0.ex, N33_0.ok⟩
noncomputable def D33_0 (l2764 : List (List V)) (z2765 : Int) (z2766 : Int) (z2767 : Int) : PT N33_0 :=
  .test (z2767 < z2766)
   (fun h0 =>
   .test (0 ≤ z2767)
    (fun h1 =>
    .look RW63 (l2764[Int.toNat z2767]?) fun e2771 =>
    .auto 4 <|
    .ask E69 (F69_ok (z2767) (z2765) (e2771.c0) (e2771.c3) (e2771.c4) (e2771.c5) (e2771.c6) (e2771.c7)) fun (r : A69) => match r with
    | .a0 b2772 =>
     .testB (!b2772)
      (fun h2 =>
      .auto 18 <|
      .ret (N33_0.e0)
      )
      (fun h2 =>
      .auto 3 <|
      .tot O25 (F25_ok (e2771.c1) (e2771.c2)) fun b2773 =>
      .auto 1 <|
      .testB (b2773)
       (fun h3 =>
       .auto 14 <|
       .ret (N33_0.e0)
       )
       (fun h3 =>
       .auto 3 <|
       .ask E24 (F24_ok (e2771.c1) (e2771.c2)) fun (r : A24) => match r with
       | .a0 b2774 =>
        .auto 2 <|
        .testB (!b2774)
         (fun h4 =>
         .auto 9 <|
         .ret (N33_0.e0)
         )
         (fun h4 =>
         .auto 5 <|
         .look RW63 (l2764[(0 : Nat)]?) fun e2775 =>
         .auto 3 <|
         .tot O26 (F26_ok (e2771.c1) (e2771.c2) (e2775.c1) (e2775.c2)) fun b2776 =>
         .auto 2 <|
         .testB (!b2776)
          (fun h5 =>
          .ret (N33_0.e0)
          )
          (fun h5 =>
          .auto 1 <|
          .ret (N33_0.s0 (l2764) (e2771.c0) (z2766) (w64 (z2767 + 1)))
          )
         )
       )
      )
    )
    (fun _ => .fail) -- none
   )
   (fun h0 =>
   .ret (N33_0.e1 (l2764))
   )
noncomputable def S33_0 : N33_0 → PT N33_0
  | .s0 l2764 z2765 z2766 z2767 => D33_0 l2764 z2765 z2766 z2767
  | _ => .fail
def N33_0.off : N33_0 → Bool
  | .s0 _ _ _ _ => false
  | _ => true
noncomputable def L33_0 (n : Nat) (b : N33_0) : Option N33_0 := PT.loop (S33_0) N33_0.off n b
theorem L33_0_ok : ∀ (n : Nat) (b : N33_0), N33_0.off b = false → ∀ c, L33_0 n b = some c → loopP Try.prog X CC 33 (0) 18446744073709551616 B33 0 n (E33_0.out b).2 = some (E33_0.out c) :=
  loop_ok (E := E33_0) (step := S33_0) (L := notIn []) (fun b hb => by cases b <;> first | (cases hb; done) | (intro x; kernel_rfl)) (fun b => by cases b <;> rfl)
noncomputable def N33_0.nx (n : Nat) (c : N33_0) : Option N33_0 := match N33_0.off c with
  | true => some c
  | false => L33_0 n c
theorem L33_0_s0 (n : Nat) (l2764 : List (List V)) (z2765 : Int) (z2766 : Int) (z2767 : Int) : L33_0 (n + 1) (.s0 l2764 z2765 z2766 z2767) = (D33_0 l2764 z2765 z2766 z2767).ev (N33_0.nx n) := rfl
theorem N33_0.nx_s0 (n : Nat) (l2764 : List (List V)) (z2765 : Int) (z2766 : Int) (z2767 : Int) : N33_0.nx n (.s0 l2764 z2765 z2766 z2767) = L33_0 n (.s0 l2764 z2765 z2766 z2767) := rfl
theorem N33_0.nx_e0 (n : Nat) : N33_0.nx n (.e0) = some (.e0) := rfl
theorem N33_0.nx_e1 (n : Nat) (l2768 : List (List V)) : N33_0.nx n (.e1 l2768) = some (.e1 l2768) := rfl
noncomputable def D33 (l2667 : List (List V)) : PT A33 :=
  .cut E33_0 (L33_0_ok 18446744073709551616 (.s0 (l2667) (0) ((↑(List.length l2667) : Int)) (0)) rfl) fun (r : N33_0) => match r with
  | .e0 =>
   .ret (A33.a0 (false))
  | .e1 l2777 =>
   .ret (A33.a0 (decide ((↑(List.length l2777) : Int) ≤ 32)))
  | _ => .fail
noncomputable def F33 (l2667 : List (List V)) : Option A33 := (D33 l2667).ev some
theorem F33_ok (l2667 : List (List V)) : ∀ b, F33 l2667 = some b → UU 33 ([V.list 8 l2667]) ([]) = some (A33.out b) :=
  fn_ok (E := E33) (L := notIn []) rfl rfl (fun x => by kernel_rfl)
/-! ## F51 -/
noncomputable abbrev B51 : Code := (Try.f51.body).getD .skip
inductive N51_0 where
  | s0 (l2853 : List (List V)) (z2854 : Int) (z2855 : Int) (z2856 : Int)
  | e0
  | e1 (l2857 : List (List V))
@[reducible] def N51_0.out : N51_0 → VX × S
  | .s0 l2853 z2854 z2855 z2856 => (VX.normal, { T := V.list 7 l2853 :: U :: U :: i64 z2854 :: U :: U :: V.list 7 l2853 :: i64 z2855 :: i64 z2856 :: un 30 [], σ := [] })
  | .e0 => (VX.ret, { T := U :: U :: vb false :: un 36 [], σ := [] })
  | .e1 l2857 => (VX.exit 0, { T := V.list 7 l2857 :: un 38 [], σ := [] })
def N51_0.ex (g : N51_0 → Prop) : Prop := (∃ (l2853 : List (List V)) (z2854 : Int) (z2855 : Int) (z2856 : Int), g (.s0 l2853 z2854 z2855 z2856)) ∨ g .e0 ∨ (∃ (l2857 : List (List V)), g (.e1 l2857))
theorem N51_0.ok (g : N51_0 → Prop) : N51_0.ex g ↔ ∃ b, g b := ⟨fun h => match h with
  | .inl ⟨_, _, _, _, h⟩ => ⟨_, h⟩
  | .inr (.inl h) => ⟨_, h⟩
  | .inr (.inr (⟨_, h⟩)) => ⟨_, h⟩, fun ⟨b, h⟩ => match b, h with
  | .s0 _ _ _ _, h => .inl ⟨_, _, _, _, h⟩
  | .e0, h => .inr (.inl h)
  | .e1 _, h => .inr (.inr (⟨_, h⟩))⟩
abbrev E51_0 : Ent (VX × S) := ⟨N51_0, N51_0.out, N51_0.ex, N51_0.ok⟩
noncomputable def D51_0 (l2853 : List (List V)) (z2854 : Int) (z2855 : Int) (z2856 : Int) : PT N51_0 :=
  .test (z2856 < z2855)
   (fun h0 =>
   .test (0 ≤ z2856)
    (fun h1 =>
    .look RW61 (l2853[Int.toNat z2856]?) fun e2860 =>
    .auto 4 <|
    .ask E69 (F69_ok (z2856) (z2854) (e2860.c0) (e2860.c2) (e2860.c3) (e2860.c4) (e2860.c5) (e2860.c6)) fun (r : A69) => match r with
    | .a0 b2861 =>
     .testB (!b2861)
      (fun h2 =>
      .auto 8 <|
      .ret (N51_0.e0)
      )
      (fun h2 =>
      .auto 4 <|
      .test (e2860.c1 < -67108864)
       (fun h3 =>
       .auto 4 <|
       .ret (N51_0.e0)
       )
       (fun h3 =>
       .auto 4 <|
       .test (e2860.c1 > 67108864)
        (fun h4 =>
        .ret (N51_0.e0)
        )
        (fun h4 =>
        .auto 1 <|
        .ret (N51_0.s0 (l2853) (e2860.c0) (z2855) (w64 (z2856 + 1)))
        )
       )
      )
    )
    (fun _ => .fail) -- none
   )
   (fun h0 =>
   .ret (N51_0.e1 (l2853))
   )
noncomputable def S51_0 : N51_0 → PT N51_0
  | .s0 l2853 z2854 z2855 z2856 => D51_0 l2853 z2854 z2855 z2856
  | _ => .fail
def N51_0.off : N51_0 → Bool
  | .s0 _ _ _ _ => false
  | _ => true
noncomputable def L51_0 (n : Nat) (b : N51_0) : Option N51_0 := PT.loop (S51_0) N51_0.off n b
theorem L51_0_ok : ∀ (n : Nat) (b : N51_0), N51_0.off b = false → ∀ c, L51_0 n b = some c → loopP Try.prog X CC 51 (0) 18446744073709551616 B51 0 n (E51_0.out b).2 = some (E51_0.out c) :=
  loop_ok (E := E51_0) (step := S51_0) (L := notIn []) (fun b hb => by cases b <;> first | (cases hb; done) | (intro x; kernel_rfl)) (fun b => by cases b <;> rfl)
noncomputable def N51_0.nx (n : Nat) (c : N51_0) : Option N51_0 := match N51_0.off c with
  | true => some c
  | false => L51_0 n c
theorem L51_0_s0 (n : Nat) (l2853 : List (List V)) (z2854 : Int) (z2855 : Int) (z2856 : Int) : L51_0 (n + 1) (.s0 l2853 z2854 z2855 z2856) = (D51_0 l2853 z2854 z2855 z2856).ev (N51_0.nx n) := rfl
theorem N51_0.nx_s0 (n : Nat) (l2853 : List (List V)) (z2854 : Int) (z2855 : Int) (z2856 : Int) : N51_0.nx n (.s0 l2853 z2854 z2855 z2856) = L51_0 n (.s0 l2853 z2854 z2855 z2856) := rfl
theorem N51_0.nx_e0 (n : Nat) : N51_0.nx n (.e0) = some (.e0) := rfl
theorem N51_0.nx_e1 (n : Nat) (l2857 : List (List V)) : N51_0.nx n (.e1 l2857) = some (.e1 l2857) := rfl
noncomputable def D51 (l2848 : List (List V)) : PT A51 :=
  .cut E51_0 (L51_0_ok 18446744073709551616 (.s0 (l2848) (0) ((↑(List.length l2848) : Int)) (0)) rfl) fun (r : N51_0) => match r with
  | .e0 =>
   .ret (A51.a0 (false))
  | .e1 l2862 =>
   .ret (A51.a0 (decide ((↑(List.length l2862) : Int) ≤ 32)))
  | _ => .fail
noncomputable def F51 (l2848 : List (List V)) : Option A51 := (D51 l2848).ev some
theorem F51_ok (l2848 : List (List V)) : ∀ b, F51 l2848 = some b → UU 51 ([V.list 7 l2848]) ([]) = some (A51.out b) :=
  fn_ok (E := E51) (L := notIn []) rfl rfl (fun x => by kernel_rfl)
/-! ## F48 -/
noncomputable abbrev B48 : Code := (Try.f48.body).getD .skip
inductive N48_r7 where
  | e0 (b2779 : Bool)
@[reducible] def N48_r7.out : N48_r7 → VX × S
  | .e0 b2779 => (VX.normal, { T := U :: U :: vb b2779 :: un 64 [], σ := [] })
def N48_r7.ex (g : N48_r7 → Prop) : Prop := (∃ (b2779 : Bool), g (.e0 b2779))
theorem N48_r7.ok (g : N48_r7 → Prop) : N48_r7.ex g ↔ ∃ b, g b := ⟨fun h => match h with
  | ⟨_, h⟩ => ⟨_, h⟩, fun ⟨b, h⟩ => match b, h with
  | .e0 _, h => ⟨_, h⟩⟩
abbrev E48_r7 : Ent (VX × S) := ⟨N48_r7, N48_r7.out, N48_r7.ex, N48_r7.ok⟩
noncomputable def D48_r7 (z2635 : Int) (z2636 : Int) (l2637 : List (List V)) (l2638 : List (List V)) (l2639 : List (List V)) (b2640 : Bool) (z2641 : Int) (z2642 : Int) (z2643 : Int) (z2644 : Int) (z2645 : Int) (z2646 : Int) (z2647 : Int) (z2648 : Int) (z2649 : Int) (z2650 : Int) (z2651 : Int) (z2652 : Int) (z2653 : Int) (z2654 : Int) (z2655 : Int) (l2656 : List (List V)) (b2657 : Bool) (l2658 : List (List V)) (z2659 : Int) (z2660 : Int) (z2661 : Int) (z2662 : Int) (z2663 : Int) (l2664 : List (List V)) (l2665 : List (List V)) (l2666 : List (List V)) : PT N48_r7 :=
  .auto 1 <|
  .testB ((↑(List.length l2637) : Int) == 0)
   (fun h0 =>
   .auto 5 <|
   .testB ((↑(List.length l2638) : Int) == 0)
    (fun h1 =>
    .auto 3 <|
    .ask E33 (F33_ok (l2639)) fun (r : A33) => match r with
    | .a0 b2964 =>
     .auto 1 <|
     .ret (N48_r7.e0 (b2964))
    )
    (fun h1 =>
    .auto 3 <|
    .ret (N48_r7.e0 (false))
    )
   )
   (fun h0 =>
   .auto 8 <|
   .ret (N48_r7.e0 (false))
   )
noncomputable def J48_r7 (z2635 : Int) (z2636 : Int) (l2637 : List (List V)) (l2638 : List (List V)) (l2639 : List (List V)) (b2640 : Bool) (z2641 : Int) (z2642 : Int) (z2643 : Int) (z2644 : Int) (z2645 : Int) (z2646 : Int) (z2647 : Int) (z2648 : Int) (z2649 : Int) (z2650 : Int) (z2651 : Int) (z2652 : Int) (z2653 : Int) (z2654 : Int) (z2655 : Int) (l2656 : List (List V)) (b2657 : Bool) (l2658 : List (List V)) (z2659 : Int) (z2660 : Int) (z2661 : Int) (z2662 : Int) (z2663 : Int) (l2664 : List (List V)) (l2665 : List (List V)) (l2666 : List (List V)) : Option N48_r7 := (D48_r7 z2635 z2636 l2637 l2638 l2639 b2640 z2641 z2642 z2643 z2644 z2645 z2646 z2647 z2648 z2649 z2650 z2651 z2652 z2653 z2654 z2655 l2656 b2657 l2658 z2659 z2660 z2661 z2662 z2663 l2664 l2665 l2666).ev some
theorem J48_r7_ok (z2635 : Int) (z2636 : Int) (l2637 : List (List V)) (l2638 : List (List V)) (l2639 : List (List V)) (b2640 : Bool) (z2641 : Int) (z2642 : Int) (z2643 : Int) (z2644 : Int) (z2645 : Int) (z2646 : Int) (z2647 : Int) (z2648 : Int) (z2649 : Int) (z2650 : Int) (z2651 : Int) (z2652 : Int) (z2653 : Int) (z2654 : Int) (z2655 : Int) (l2656 : List (List V)) (b2657 : Bool) (l2658 : List (List V)) (z2659 : Int) (z2660 : Int) (z2661 : Int) (z2662 : Int) (z2663 : Int) (l2664 : List (List V)) (l2665 : List (List V)) (l2666 : List (List V)) : ∀ b, J48_r7 z2635 z2636 l2637 l2638 l2639 b2640 z2641 z2642 z2643 z2644 z2645 z2646 z2647 z2648 z2649 z2650 z2651 z2652 z2653 z2654 z2655 l2656 b2657 l2658 z2659 z2660 z2661 z2662 z2663 l2664 l2665 l2666 = some b → regP Try.prog X CC 48 (0) B48 7 ({ T := U :: V.ptr 0 0 0 :: un 65 [], σ := [Ob.cells true false 32 [[i64 z2635, i64 z2636, V.list 7 l2637, V.list 7 l2638, V.list 8 l2639, vb b2640, i64 z2641, i64 z2642, u8 z2643, u8 z2644, u8 z2645, u8 z2646, u8 z2647, u8 z2648, u8 z2649, u8 z2650, i64 z2651, i64 z2652, i64 z2653, i64 z2654, i64 z2655, V.list 10 l2656, vb b2657, V.list 7 l2658, u8 z2659, u8 z2660, u8 z2661, u8 z2662, i64 z2663, V.list 1 l2664, V.list 7 l2665, V.list 7 l2666]]] }) = some (E48_r7.out b) :=
  reg_ok (E := E48_r7) (fun x => by kernel_rfl)
inductive N48_r4 where
  | e0 (b2569 : Bool) (z2570 : Int) (z2571 : Int) (l2572 : List (List V)) (l2573 : List (List V)) (l2574 : List (List V)) (b2575 : Bool) (z2576 : Int) (z2577 : Int) (z2578 : Int) (z2579 : Int) (z2580 : Int) (z2581 : Int) (z2582 : Int) (z2583 : Int) (z2584 : Int) (z2585 : Int) (z2586 : Int) (z2587 : Int) (z2588 : Int) (z2589 : Int) (z2590 : Int) (l2591 : List (List V)) (b2592 : Bool) (l2593 : List (List V)) (z2594 : Int) (z2595 : Int) (z2596 : Int) (z2597 : Int) (z2598 : Int) (l2599 : List (List V)) (l2600 : List (List V)) (l2601 : List (List V))
@[reducible] def N48_r4.out : N48_r4 → VX × S
  | .e0 b2569 z2570 z2571 l2572 l2573 l2574 b2575 z2576 z2577 z2578 z2579 z2580 z2581 z2582 z2583 z2584 z2585 z2586 z2587 z2588 z2589 z2590 l2591 b2592 l2593 z2594 z2595 z2596 z2597 z2598 l2599 l2600 l2601 => (VX.normal, { T := U :: V.ptr 0 0 0 :: un 10 (vb b2569 :: un 54 []), σ := [Ob.cells true false 32 [[i64 z2570, i64 z2571, V.list 7 l2572, V.list 7 l2573, V.list 8 l2574, vb b2575, i64 z2576, i64 z2577, u8 z2578, u8 z2579, u8 z2580, u8 z2581, u8 z2582, u8 z2583, u8 z2584, u8 z2585, i64 z2586, i64 z2587, i64 z2588, i64 z2589, i64 z2590, V.list 10 l2591, vb b2592, V.list 7 l2593, u8 z2594, u8 z2595, u8 z2596, u8 z2597, i64 z2598, V.list 1 l2599, V.list 7 l2600, V.list 7 l2601]]] })
def N48_r4.ex (g : N48_r4 → Prop) : Prop := (∃ (b2569 : Bool) (z2570 : Int) (z2571 : Int) (l2572 : List (List V)) (l2573 : List (List V)) (l2574 : List (List V)) (b2575 : Bool) (z2576 : Int) (z2577 : Int) (z2578 : Int) (z2579 : Int) (z2580 : Int) (z2581 : Int) (z2582 : Int) (z2583 : Int) (z2584 : Int) (z2585 : Int) (z2586 : Int) (z2587 : Int) (z2588 : Int) (z2589 : Int) (z2590 : Int) (l2591 : List (List V)) (b2592 : Bool) (l2593 : List (List V)) (z2594 : Int) (z2595 : Int) (z2596 : Int) (z2597 : Int) (z2598 : Int) (l2599 : List (List V)) (l2600 : List (List V)) (l2601 : List (List V)), g (.e0 b2569 z2570 z2571 l2572 l2573 l2574 b2575 z2576 z2577 z2578 z2579 z2580 z2581 z2582 z2583 z2584 z2585 z2586 z2587 z2588 z2589 z2590 l2591 b2592 l2593 z2594 z2595 z2596 z2597 z2598 l2599 l2600 l2601))
theorem N48_r4.ok (g : N48_r4 → Prop) : N48_r4.ex g ↔ ∃ b, g b := ⟨fun h => match h with
  | ⟨_, _, _, _, _, _, _, _, _, _, _, _, _, _, _, _, _, _, _, _, _, _, _, _, _, _, _, _, _, _, _, _, _, h⟩ => ⟨_, h⟩, fun ⟨b, h⟩ => match b, h with
  | .e0 _ _ _ _ _ _ _ _ _ _ _ _ _ _ _ _ _ _ _ _ _ _ _ _ _ _ _ _ _ _ _ _ _, h => ⟨_, _, _, _, _, _, _, _, _, _, _, _, _, _, _, _, _, _, _, _, _, _, _, _, _, _, _, _, _, _, _, _, _, h⟩⟩
abbrev E48_r4 : Ent (VX × S) := ⟨N48_r4, N48_r4.out, N48_r4.ex, N48_r4.ok⟩
noncomputable def D48_r4 (z2537 : Int) (z2538 : Int) (l2539 : List (List V)) (l2540 : List (List V)) (l2541 : List (List V)) (b2542 : Bool) (z2543 : Int) (z2544 : Int) (z2545 : Int) (z2546 : Int) (z2547 : Int) (z2548 : Int) (z2549 : Int) (z2550 : Int) (z2551 : Int) (z2552 : Int) (z2553 : Int) (z2554 : Int) (z2555 : Int) (z2556 : Int) (z2557 : Int) (l2558 : List (List V)) (b2559 : Bool) (l2560 : List (List V)) (z2561 : Int) (z2562 : Int) (z2563 : Int) (z2564 : Int) (z2565 : Int) (l2566 : List (List V)) (l2567 : List (List V)) (l2568 : List (List V)) : PT N48_r4 :=
  .auto 1 <|
  .testB (z2537 != 2)
   (fun h0 =>
   .auto 4 <|
   .ret (N48_r4.e0 (z2538 != 0) (z2537) (z2538) (l2539) (l2540) (l2541) (b2542) (z2543) (z2544) (z2545) (z2546) (z2547) (z2548) (z2549) (z2550) (z2551) (z2552) (z2553) (z2554) (z2555) (z2556) (z2557) (l2558) (b2559) (l2560) (z2561) (z2562) (z2563) (z2564) (z2565) (l2566) (l2567) (l2568))
   )
   (fun h0 =>
   .auto 3 <|
   .ret (N48_r4.e0 (false) (z2537) (z2538) (l2539) (l2540) (l2541) (b2542) (z2543) (z2544) (z2545) (z2546) (z2547) (z2548) (z2549) (z2550) (z2551) (z2552) (z2553) (z2554) (z2555) (z2556) (z2557) (l2558) (b2559) (l2560) (z2561) (z2562) (z2563) (z2564) (z2565) (l2566) (l2567) (l2568))
   )
noncomputable def J48_r4 (z2537 : Int) (z2538 : Int) (l2539 : List (List V)) (l2540 : List (List V)) (l2541 : List (List V)) (b2542 : Bool) (z2543 : Int) (z2544 : Int) (z2545 : Int) (z2546 : Int) (z2547 : Int) (z2548 : Int) (z2549 : Int) (z2550 : Int) (z2551 : Int) (z2552 : Int) (z2553 : Int) (z2554 : Int) (z2555 : Int) (z2556 : Int) (z2557 : Int) (l2558 : List (List V)) (b2559 : Bool) (l2560 : List (List V)) (z2561 : Int) (z2562 : Int) (z2563 : Int) (z2564 : Int) (z2565 : Int) (l2566 : List (List V)) (l2567 : List (List V)) (l2568 : List (List V)) : Option N48_r4 := (D48_r4 z2537 z2538 l2539 l2540 l2541 b2542 z2543 z2544 z2545 z2546 z2547 z2548 z2549 z2550 z2551 z2552 z2553 z2554 z2555 z2556 z2557 l2558 b2559 l2560 z2561 z2562 z2563 z2564 z2565 l2566 l2567 l2568).ev some
theorem J48_r4_ok (z2537 : Int) (z2538 : Int) (l2539 : List (List V)) (l2540 : List (List V)) (l2541 : List (List V)) (b2542 : Bool) (z2543 : Int) (z2544 : Int) (z2545 : Int) (z2546 : Int) (z2547 : Int) (z2548 : Int) (z2549 : Int) (z2550 : Int) (z2551 : Int) (z2552 : Int) (z2553 : Int) (z2554 : Int) (z2555 : Int) (z2556 : Int) (z2557 : Int) (l2558 : List (List V)) (b2559 : Bool) (l2560 : List (List V)) (z2561 : Int) (z2562 : Int) (z2563 : Int) (z2564 : Int) (z2565 : Int) (l2566 : List (List V)) (l2567 : List (List V)) (l2568 : List (List V)) : ∀ b, J48_r4 z2537 z2538 l2539 l2540 l2541 b2542 z2543 z2544 z2545 z2546 z2547 z2548 z2549 z2550 z2551 z2552 z2553 z2554 z2555 z2556 z2557 l2558 b2559 l2560 z2561 z2562 z2563 z2564 z2565 l2566 l2567 l2568 = some b → regP Try.prog X CC 48 (0) B48 4 ({ T := U :: V.ptr 0 0 0 :: un 65 [], σ := [Ob.cells true false 32 [[i64 z2537, i64 z2538, V.list 7 l2539, V.list 7 l2540, V.list 8 l2541, vb b2542, i64 z2543, i64 z2544, u8 z2545, u8 z2546, u8 z2547, u8 z2548, u8 z2549, u8 z2550, u8 z2551, u8 z2552, i64 z2553, i64 z2554, i64 z2555, i64 z2556, i64 z2557, V.list 10 l2558, vb b2559, V.list 7 l2560, u8 z2561, u8 z2562, u8 z2563, u8 z2564, i64 z2565, V.list 1 l2566, V.list 7 l2567, V.list 7 l2568]]] }) = some (E48_r4.out b) :=
  reg_ok (E := E48_r4) (fun x => by kernel_rfl)
inductive N48_r3 where
  | e0 (b2471 : Bool) (z2472 : Int) (z2473 : Int) (l2474 : List (List V)) (l2475 : List (List V)) (l2476 : List (List V)) (b2477 : Bool) (z2478 : Int) (z2479 : Int) (z2480 : Int) (z2481 : Int) (z2482 : Int) (z2483 : Int) (z2484 : Int) (z2485 : Int) (z2486 : Int) (z2487 : Int) (z2488 : Int) (z2489 : Int) (z2490 : Int) (z2491 : Int) (z2492 : Int) (l2493 : List (List V)) (b2494 : Bool) (l2495 : List (List V)) (z2496 : Int) (z2497 : Int) (z2498 : Int) (z2499 : Int) (z2500 : Int) (l2501 : List (List V)) (l2502 : List (List V)) (l2503 : List (List V))
@[reducible] def N48_r3.out : N48_r3 → VX × S
  | .e0 b2471 z2472 z2473 l2474 l2475 l2476 b2477 z2478 z2479 z2480 z2481 z2482 z2483 z2484 z2485 z2486 z2487 z2488 z2489 z2490 z2491 z2492 l2493 b2494 l2495 z2496 z2497 z2498 z2499 z2500 l2501 l2502 l2503 => (VX.normal, { T := U :: V.ptr 0 0 0 :: un 10 (vb b2471 :: un 54 []), σ := [Ob.cells true false 32 [[i64 z2472, i64 z2473, V.list 7 l2474, V.list 7 l2475, V.list 8 l2476, vb b2477, i64 z2478, i64 z2479, u8 z2480, u8 z2481, u8 z2482, u8 z2483, u8 z2484, u8 z2485, u8 z2486, u8 z2487, i64 z2488, i64 z2489, i64 z2490, i64 z2491, i64 z2492, V.list 10 l2493, vb b2494, V.list 7 l2495, u8 z2496, u8 z2497, u8 z2498, u8 z2499, i64 z2500, V.list 1 l2501, V.list 7 l2502, V.list 7 l2503]]] })
def N48_r3.ex (g : N48_r3 → Prop) : Prop := (∃ (b2471 : Bool) (z2472 : Int) (z2473 : Int) (l2474 : List (List V)) (l2475 : List (List V)) (l2476 : List (List V)) (b2477 : Bool) (z2478 : Int) (z2479 : Int) (z2480 : Int) (z2481 : Int) (z2482 : Int) (z2483 : Int) (z2484 : Int) (z2485 : Int) (z2486 : Int) (z2487 : Int) (z2488 : Int) (z2489 : Int) (z2490 : Int) (z2491 : Int) (z2492 : Int) (l2493 : List (List V)) (b2494 : Bool) (l2495 : List (List V)) (z2496 : Int) (z2497 : Int) (z2498 : Int) (z2499 : Int) (z2500 : Int) (l2501 : List (List V)) (l2502 : List (List V)) (l2503 : List (List V)), g (.e0 b2471 z2472 z2473 l2474 l2475 l2476 b2477 z2478 z2479 z2480 z2481 z2482 z2483 z2484 z2485 z2486 z2487 z2488 z2489 z2490 z2491 z2492 l2493 b2494 l2495 z2496 z2497 z2498 z2499 z2500 l2501 l2502 l2503))
theorem N48_r3.ok (g : N48_r3 → Prop) : N48_r3.ex g ↔ ∃ b, g b := ⟨fun h => match h with
  | ⟨_, _, _, _, _, _, _, _, _, _, _, _, _, _, _, _, _, _, _, _, _, _, _, _, _, _, _, _, _, _, _, _, _, h⟩ => ⟨_, h⟩, fun ⟨b, h⟩ => match b, h with
  | .e0 _ _ _ _ _ _ _ _ _ _ _ _ _ _ _ _ _ _ _ _ _ _ _ _ _ _ _ _ _ _ _ _ _, h => ⟨_, _, _, _, _, _, _, _, _, _, _, _, _, _, _, _, _, _, _, _, _, _, _, _, _, _, _, _, _, _, _, _, _, h⟩⟩
abbrev E48_r3 : Ent (VX × S) := ⟨N48_r3, N48_r3.out, N48_r3.ex, N48_r3.ok⟩
noncomputable def D48_r3 (z2407 : Int) (z2408 : Int) (l2409 : List (List V)) (l2410 : List (List V)) (l2411 : List (List V)) (b2412 : Bool) (z2413 : Int) (z2414 : Int) (z2415 : Int) (z2416 : Int) (z2417 : Int) (z2418 : Int) (z2419 : Int) (z2420 : Int) (z2421 : Int) (z2422 : Int) (z2423 : Int) (z2424 : Int) (z2425 : Int) (z2426 : Int) (z2427 : Int) (l2428 : List (List V)) (b2429 : Bool) (l2430 : List (List V)) (z2431 : Int) (z2432 : Int) (z2433 : Int) (z2434 : Int) (z2435 : Int) (l2436 : List (List V)) (l2437 : List (List V)) (l2438 : List (List V)) : PT N48_r3 :=
  .auto 1 <|
  .testB (z2407 == 2)
   (fun h0 =>
   .auto 4 <|
   .test (z2408 < 2)
    (fun h1 =>
    .auto 5 <|
    .ret (N48_r3.e0 (true) (z2407) (z2408) (l2409) (l2410) (l2411) (b2412) (z2413) (z2414) (z2415) (z2416) (z2417) (z2418) (z2419) (z2420) (z2421) (z2422) (z2423) (z2424) (z2425) (z2426) (z2427) (l2428) (b2429) (l2430) (z2431) (z2432) (z2433) (z2434) (z2435) (l2436) (l2437) (l2438))
    )
    (fun h1 =>
    .auto 6 <|
    .ret (N48_r3.e0 (decide (z2408 > 16)) (z2407) (z2408) (l2409) (l2410) (l2411) (b2412) (z2413) (z2414) (z2415) (z2416) (z2417) (z2418) (z2419) (z2420) (z2421) (z2422) (z2423) (z2424) (z2425) (z2426) (z2427) (l2428) (b2429) (l2430) (z2431) (z2432) (z2433) (z2434) (z2435) (l2436) (l2437) (l2438))
    )
   )
   (fun h0 =>
   .auto 5 <|
   .ret (N48_r3.e0 (false) (z2407) (z2408) (l2409) (l2410) (l2411) (b2412) (z2413) (z2414) (z2415) (z2416) (z2417) (z2418) (z2419) (z2420) (z2421) (z2422) (z2423) (z2424) (z2425) (z2426) (z2427) (l2428) (b2429) (l2430) (z2431) (z2432) (z2433) (z2434) (z2435) (l2436) (l2437) (l2438))
   )
noncomputable def J48_r3 (z2407 : Int) (z2408 : Int) (l2409 : List (List V)) (l2410 : List (List V)) (l2411 : List (List V)) (b2412 : Bool) (z2413 : Int) (z2414 : Int) (z2415 : Int) (z2416 : Int) (z2417 : Int) (z2418 : Int) (z2419 : Int) (z2420 : Int) (z2421 : Int) (z2422 : Int) (z2423 : Int) (z2424 : Int) (z2425 : Int) (z2426 : Int) (z2427 : Int) (l2428 : List (List V)) (b2429 : Bool) (l2430 : List (List V)) (z2431 : Int) (z2432 : Int) (z2433 : Int) (z2434 : Int) (z2435 : Int) (l2436 : List (List V)) (l2437 : List (List V)) (l2438 : List (List V)) : Option N48_r3 := (D48_r3 z2407 z2408 l2409 l2410 l2411 b2412 z2413 z2414 z2415 z2416 z2417 z2418 z2419 z2420 z2421 z2422 z2423 z2424 z2425 z2426 z2427 l2428 b2429 l2430 z2431 z2432 z2433 z2434 z2435 l2436 l2437 l2438).ev some
theorem J48_r3_ok (z2407 : Int) (z2408 : Int) (l2409 : List (List V)) (l2410 : List (List V)) (l2411 : List (List V)) (b2412 : Bool) (z2413 : Int) (z2414 : Int) (z2415 : Int) (z2416 : Int) (z2417 : Int) (z2418 : Int) (z2419 : Int) (z2420 : Int) (z2421 : Int) (z2422 : Int) (z2423 : Int) (z2424 : Int) (z2425 : Int) (z2426 : Int) (z2427 : Int) (l2428 : List (List V)) (b2429 : Bool) (l2430 : List (List V)) (z2431 : Int) (z2432 : Int) (z2433 : Int) (z2434 : Int) (z2435 : Int) (l2436 : List (List V)) (l2437 : List (List V)) (l2438 : List (List V)) : ∀ b, J48_r3 z2407 z2408 l2409 l2410 l2411 b2412 z2413 z2414 z2415 z2416 z2417 z2418 z2419 z2420 z2421 z2422 z2423 z2424 z2425 z2426 z2427 l2428 b2429 l2430 z2431 z2432 z2433 z2434 z2435 l2436 l2437 l2438 = some b → regP Try.prog X CC 48 (0) B48 3 ({ T := U :: V.ptr 0 0 0 :: un 65 [], σ := [Ob.cells true false 32 [[i64 z2407, i64 z2408, V.list 7 l2409, V.list 7 l2410, V.list 8 l2411, vb b2412, i64 z2413, i64 z2414, u8 z2415, u8 z2416, u8 z2417, u8 z2418, u8 z2419, u8 z2420, u8 z2421, u8 z2422, i64 z2423, i64 z2424, i64 z2425, i64 z2426, i64 z2427, V.list 10 l2428, vb b2429, V.list 7 l2430, u8 z2431, u8 z2432, u8 z2433, u8 z2434, i64 z2435, V.list 1 l2436, V.list 7 l2437, V.list 7 l2438]]] }) = some (E48_r3.out b) :=
  reg_ok (E := E48_r3) (fun x => by kernel_rfl)
inductive N48_c3 where
  | e0 (b2781 : Bool)
  | e1 (z2782 : Int) (z2783 : Int) (l2784 : List (List V)) (l2785 : List (List V)) (l2786 : List (List V)) (b2787 : Bool) (z2788 : Int) (z2789 : Int) (z2790 : Int) (z2791 : Int) (z2792 : Int) (z2793 : Int) (z2794 : Int) (z2795 : Int) (z2796 : Int) (z2797 : Int) (z2798 : Int) (z2799 : Int) (z2800 : Int) (z2801 : Int) (z2802 : Int) (l2803 : List (List V)) (b2804 : Bool) (l2805 : List (List V)) (z2806 : Int) (z2807 : Int) (z2808 : Int) (z2809 : Int) (z2810 : Int) (l2811 : List (List V)) (l2812 : List (List V)) (l2813 : List (List V))
@[reducible] def N48_c3.out : N48_c3 → VX × S
  | .e0 b2781 => (VX.ret, { T := U :: U :: vb b2781 :: un 64 [], σ := [] })
  | .e1 z2782 z2783 l2784 l2785 l2786 b2787 z2788 z2789 z2790 z2791 z2792 z2793 z2794 z2795 z2796 z2797 z2798 z2799 z2800 z2801 z2802 l2803 b2804 l2805 z2806 z2807 z2808 z2809 z2810 l2811 l2812 l2813 => (VX.normal, { T := U :: V.ptr 0 0 0 :: un 65 [], σ := [Ob.cells true false 32 [[i64 z2782, i64 z2783, V.list 7 l2784, V.list 7 l2785, V.list 8 l2786, vb b2787, i64 z2788, i64 z2789, u8 z2790, u8 z2791, u8 z2792, u8 z2793, u8 z2794, u8 z2795, u8 z2796, u8 z2797, i64 z2798, i64 z2799, i64 z2800, i64 z2801, i64 z2802, V.list 10 l2803, vb b2804, V.list 7 l2805, u8 z2806, u8 z2807, u8 z2808, u8 z2809, i64 z2810, V.list 1 l2811, V.list 7 l2812, V.list 7 l2813]]] })
def N48_c3.ex (g : N48_c3 → Prop) : Prop := (∃ (b2781 : Bool), g (.e0 b2781)) ∨ (∃ (z2782 : Int) (z2783 : Int) (l2784 : List (List V)) (l2785 : List (List V)) (l2786 : List (List V)) (b2787 : Bool) (z2788 : Int) (z2789 : Int) (z2790 : Int) (z2791 : Int) (z2792 : Int) (z2793 : Int) (z2794 : Int) (z2795 : Int) (z2796 : Int) (z2797 : Int) (z2798 : Int) (z2799 : Int) (z2800 : Int) (z2801 : Int) (z2802 : Int) (l2803 : List (List V)) (b2804 : Bool) (l2805 : List (List V)) (z2806 : Int) (z2807 : Int) (z2808 : Int) (z2809 : Int) (z2810 : Int) (l2811 : List (List V)) (l2812 : List (List V)) (l2813 : List (List V)), g (.e1 z2782 z2783 l2784 l2785 l2786 b2787 z2788 z2789 z2790 z2791 z2792 z2793 z2794 z2795 z2796 z2797 z2798 z2799 z2800 z2801 z2802 l2803 b2804 l2805 z2806 z2807 z2808 z2809 z2810 l2811 l2812 l2813))
theorem N48_c3.ok (g : N48_c3 → Prop) : N48_c3.ex g ↔ ∃ b, g b := ⟨fun h => match h with
  | .inl ⟨_, h⟩ => ⟨_, h⟩
  | .inr (⟨_, _, _, _, _, _, _, _, _, _, _, _, _, _, _, _, _, _, _, _, _, _, _, _, _, _, _, _, _, _, _, _, h⟩) => ⟨_, h⟩, fun ⟨b, h⟩ => match b, h with
  | .e0 _, h => .inl ⟨_, h⟩
  | .e1 _ _ _ _ _ _ _ _ _ _ _ _ _ _ _ _ _ _ _ _ _ _ _ _ _ _ _ _ _ _ _ _, h => .inr (⟨_, _, _, _, _, _, _, _, _, _, _, _, _, _, _, _, _, _, _, _, _, _, _, _, _, _, _, _, _, _, _, _, h⟩)⟩
abbrev E48_c3 : Ent (VX × S) := ⟨N48_c3, N48_c3.out, N48_c3.ex, N48_c3.ok⟩
noncomputable def D48_c3 (b2374 : Bool) (z2375 : Int) (z2376 : Int) (l2377 : List (List V)) (l2378 : List (List V)) (l2379 : List (List V)) (b2380 : Bool) (z2381 : Int) (z2382 : Int) (z2383 : Int) (z2384 : Int) (z2385 : Int) (z2386 : Int) (z2387 : Int) (z2388 : Int) (z2389 : Int) (z2390 : Int) (z2391 : Int) (z2392 : Int) (z2393 : Int) (z2394 : Int) (z2395 : Int) (l2396 : List (List V)) (b2397 : Bool) (l2398 : List (List V)) (z2399 : Int) (z2400 : Int) (z2401 : Int) (z2402 : Int) (z2403 : Int) (l2404 : List (List V)) (l2405 : List (List V)) (l2406 : List (List V)) : PT N48_c3 :=
  .testB (b2374)
   (fun h0 =>
   .ret (N48_c3.e0 (false))
   )
   (fun h0 =>
   .cut E48_r3 (J48_r3_ok (z2375) (z2376) (l2377) (l2378) (l2379) (b2380) (z2381) (z2382) (z2383) (z2384) (z2385) (z2386) (z2387) (z2388) (z2389) (z2390) (z2391) (z2392) (z2393) (z2394) (z2395) (l2396) (b2397) (l2398) (z2399) (z2400) (z2401) (z2402) (z2403) (l2404) (l2405) (l2406)) fun (r : N48_r3) => match r with
   | .e0 b2898 z2899 z2900 l2901 l2902 l2903 b2904 z2905 z2906 z2907 z2908 z2909 z2910 z2911 z2912 z2913 z2914 z2915 z2916 z2917 z2918 z2919 l2920 b2921 l2922 z2923 z2924 z2925 z2926 z2927 l2928 l2929 l2930 =>
    .testB (b2898)
     (fun h1 =>
     .known h1 <|
     .ret (N48_c3.e0 (false))
     )
     (fun h1 =>
     .cut E48_r4 (J48_r4_ok (z2899) (z2900) (l2901) (l2902) (l2903) (b2904) (z2905) (z2906) (z2907) (z2908) (z2909) (z2910) (z2911) (z2912) (z2913) (z2914) (z2915) (z2916) (z2917) (z2918) (z2919) (l2920) (b2921) (l2922) (z2923) (z2924) (z2925) (z2926) (z2927) (l2928) (l2929) (l2930)) fun (r : N48_r4) => match r with
     | .e0 b2931 z2932 z2933 l2934 l2935 l2936 b2937 z2938 z2939 z2940 z2941 z2942 z2943 z2944 z2945 z2946 z2947 z2948 z2949 z2950 z2951 z2952 l2953 b2954 l2955 z2956 z2957 z2958 z2959 z2960 l2961 l2962 l2963 =>
      .testB (b2931)
       (fun h2 =>
       .ret (N48_c3.e0 (false))
       )
       (fun h2 =>
       .auto 1 <|
       .testB (z2932 == 3)
        (fun h3 =>
        .cut E48_r7 (J48_r7_ok (z2932) (z2933) (l2934) (l2935) (l2936) (b2937) (z2938) (z2939) (z2940) (z2941) (z2942) (z2943) (z2944) (z2945) (z2946) (z2947) (z2948) (z2949) (z2950) (z2951) (z2952) (l2953) (b2954) (l2955) (z2956) (z2957) (z2958) (z2959) (z2960) (l2961) (l2962) (l2963)) fun (r : N48_r7) => match r with
        | .e0 b2965 =>
         .ret (N48_c3.e0 (b2965))
        )
        (fun h3 =>
        .ret (N48_c3.e1 (z2932) (z2933) (l2934) (l2935) (l2936) (b2937) (z2938) (z2939) (z2940) (z2941) (z2942) (z2943) (z2944) (z2945) (z2946) (z2947) (z2948) (z2949) (z2950) (z2951) (z2952) (l2953) (b2954) (l2955) (z2956) (z2957) (z2958) (z2959) (z2960) (l2961) (l2962) (l2963))
        )
       )
     )
   )
noncomputable def J48_c3 (b2374 : Bool) (z2375 : Int) (z2376 : Int) (l2377 : List (List V)) (l2378 : List (List V)) (l2379 : List (List V)) (b2380 : Bool) (z2381 : Int) (z2382 : Int) (z2383 : Int) (z2384 : Int) (z2385 : Int) (z2386 : Int) (z2387 : Int) (z2388 : Int) (z2389 : Int) (z2390 : Int) (z2391 : Int) (z2392 : Int) (z2393 : Int) (z2394 : Int) (z2395 : Int) (l2396 : List (List V)) (b2397 : Bool) (l2398 : List (List V)) (z2399 : Int) (z2400 : Int) (z2401 : Int) (z2402 : Int) (z2403 : Int) (l2404 : List (List V)) (l2405 : List (List V)) (l2406 : List (List V)) : Option N48_c3 := (D48_c3 b2374 z2375 z2376 l2377 l2378 l2379 b2380 z2381 z2382 z2383 z2384 z2385 z2386 z2387 z2388 z2389 z2390 z2391 z2392 z2393 z2394 z2395 l2396 b2397 l2398 z2399 z2400 z2401 z2402 z2403 l2404 l2405 l2406).ev some
theorem J48_c3_ok (b2374 : Bool) (z2375 : Int) (z2376 : Int) (l2377 : List (List V)) (l2378 : List (List V)) (l2379 : List (List V)) (b2380 : Bool) (z2381 : Int) (z2382 : Int) (z2383 : Int) (z2384 : Int) (z2385 : Int) (z2386 : Int) (z2387 : Int) (z2388 : Int) (z2389 : Int) (z2390 : Int) (z2391 : Int) (z2392 : Int) (z2393 : Int) (z2394 : Int) (z2395 : Int) (l2396 : List (List V)) (b2397 : Bool) (l2398 : List (List V)) (z2399 : Int) (z2400 : Int) (z2401 : Int) (z2402 : Int) (z2403 : Int) (l2404 : List (List V)) (l2405 : List (List V)) (l2406 : List (List V)) : ∀ b, J48_c3 b2374 z2375 z2376 l2377 l2378 l2379 b2380 z2381 z2382 z2383 z2384 z2385 z2386 z2387 z2388 z2389 z2390 z2391 z2392 z2393 z2394 z2395 l2396 b2397 l2398 z2399 z2400 z2401 z2402 z2403 l2404 l2405 l2406 = some b → condP Try.prog X CC 48 (0) 18446744073709551616 B48 3 ({ T := U :: V.ptr 0 0 0 :: U :: vb b2374 :: un 63 [], σ := [Ob.cells true false 32 [[i64 z2375, i64 z2376, V.list 7 l2377, V.list 7 l2378, V.list 8 l2379, vb b2380, i64 z2381, i64 z2382, u8 z2383, u8 z2384, u8 z2385, u8 z2386, u8 z2387, u8 z2388, u8 z2389, u8 z2390, i64 z2391, i64 z2392, i64 z2393, i64 z2394, i64 z2395, V.list 10 l2396, vb b2397, V.list 7 l2398, u8 z2399, u8 z2400, u8 z2401, u8 z2402, i64 z2403, V.list 1 l2404, V.list 7 l2405, V.list 7 l2406]]] }) = some (E48_c3.out b) :=
  cond_ok (E := E48_c3) (L := notIn []) (fun x => by kernel_rfl)
inductive N48_r1 where
  | e0 (b2308 : Bool) (z2309 : Int) (z2310 : Int) (l2311 : List (List V)) (l2312 : List (List V)) (l2313 : List (List V)) (b2314 : Bool) (z2315 : Int) (z2316 : Int) (z2317 : Int) (z2318 : Int) (z2319 : Int) (z2320 : Int) (z2321 : Int) (z2322 : Int) (z2323 : Int) (z2324 : Int) (z2325 : Int) (z2326 : Int) (z2327 : Int) (z2328 : Int) (z2329 : Int) (l2330 : List (List V)) (b2331 : Bool) (l2332 : List (List V)) (z2333 : Int) (z2334 : Int) (z2335 : Int) (z2336 : Int) (z2337 : Int) (l2338 : List (List V)) (l2339 : List (List V)) (l2340 : List (List V))
@[reducible] def N48_r1.out : N48_r1 → VX × S
  | .e0 b2308 z2309 z2310 l2311 l2312 l2313 b2314 z2315 z2316 z2317 z2318 z2319 z2320 z2321 z2322 z2323 z2324 z2325 z2326 z2327 z2328 z2329 l2330 b2331 l2332 z2333 z2334 z2335 z2336 z2337 l2338 l2339 l2340 => (VX.normal, { T := U :: V.ptr 0 0 0 :: U :: vb b2308 :: un 63 [], σ := [Ob.cells true false 32 [[i64 z2309, i64 z2310, V.list 7 l2311, V.list 7 l2312, V.list 8 l2313, vb b2314, i64 z2315, i64 z2316, u8 z2317, u8 z2318, u8 z2319, u8 z2320, u8 z2321, u8 z2322, u8 z2323, u8 z2324, i64 z2325, i64 z2326, i64 z2327, i64 z2328, i64 z2329, V.list 10 l2330, vb b2331, V.list 7 l2332, u8 z2333, u8 z2334, u8 z2335, u8 z2336, i64 z2337, V.list 1 l2338, V.list 7 l2339, V.list 7 l2340]]] })
def N48_r1.ex (g : N48_r1 → Prop) : Prop := (∃ (b2308 : Bool) (z2309 : Int) (z2310 : Int) (l2311 : List (List V)) (l2312 : List (List V)) (l2313 : List (List V)) (b2314 : Bool) (z2315 : Int) (z2316 : Int) (z2317 : Int) (z2318 : Int) (z2319 : Int) (z2320 : Int) (z2321 : Int) (z2322 : Int) (z2323 : Int) (z2324 : Int) (z2325 : Int) (z2326 : Int) (z2327 : Int) (z2328 : Int) (z2329 : Int) (l2330 : List (List V)) (b2331 : Bool) (l2332 : List (List V)) (z2333 : Int) (z2334 : Int) (z2335 : Int) (z2336 : Int) (z2337 : Int) (l2338 : List (List V)) (l2339 : List (List V)) (l2340 : List (List V)), g (.e0 b2308 z2309 z2310 l2311 l2312 l2313 b2314 z2315 z2316 z2317 z2318 z2319 z2320 z2321 z2322 z2323 z2324 z2325 z2326 z2327 z2328 z2329 l2330 b2331 l2332 z2333 z2334 z2335 z2336 z2337 l2338 l2339 l2340))
theorem N48_r1.ok (g : N48_r1 → Prop) : N48_r1.ex g ↔ ∃ b, g b := ⟨fun h => match h with
  | ⟨_, _, _, _, _, _, _, _, _, _, _, _, _, _, _, _, _, _, _, _, _, _, _, _, _, _, _, _, _, _, _, _, _, h⟩ => ⟨_, h⟩, fun ⟨b, h⟩ => match b, h with
  | .e0 _ _ _ _ _ _ _ _ _ _ _ _ _ _ _ _ _ _ _ _ _ _ _ _ _ _ _ _ _ _ _ _ _, h => ⟨_, _, _, _, _, _, _, _, _, _, _, _, _, _, _, _, _, _, _, _, _, _, _, _, _, _, _, _, _, _, _, _, _, h⟩⟩
abbrev E48_r1 : Ent (VX × S) := ⟨N48_r1, N48_r1.out, N48_r1.ex, N48_r1.ok⟩
noncomputable def D48_r1 (z2244 : Int) (z2245 : Int) (l2246 : List (List V)) (l2247 : List (List V)) (l2248 : List (List V)) (b2249 : Bool) (z2250 : Int) (z2251 : Int) (z2252 : Int) (z2253 : Int) (z2254 : Int) (z2255 : Int) (z2256 : Int) (z2257 : Int) (z2258 : Int) (z2259 : Int) (z2260 : Int) (z2261 : Int) (z2262 : Int) (z2263 : Int) (z2264 : Int) (l2265 : List (List V)) (b2266 : Bool) (l2267 : List (List V)) (z2268 : Int) (z2269 : Int) (z2270 : Int) (z2271 : Int) (z2272 : Int) (l2273 : List (List V)) (l2274 : List (List V)) (l2275 : List (List V)) : PT N48_r1 :=
  .auto 1 <|
  .test (z2244 < 0)
   (fun h0 =>
   .auto 3 <|
   .ret (N48_r1.e0 (true) (z2244) (z2245) (l2246) (l2247) (l2248) (b2249) (z2250) (z2251) (z2252) (z2253) (z2254) (z2255) (z2256) (z2257) (z2258) (z2259) (z2260) (z2261) (z2262) (z2263) (z2264) (l2265) (b2266) (l2267) (z2268) (z2269) (z2270) (z2271) (z2272) (l2273) (l2274) (l2275))
   )
   (fun h0 =>
   .auto 4 <|
   .ret (N48_r1.e0 (decide (z2244 > 3)) (z2244) (z2245) (l2246) (l2247) (l2248) (b2249) (z2250) (z2251) (z2252) (z2253) (z2254) (z2255) (z2256) (z2257) (z2258) (z2259) (z2260) (z2261) (z2262) (z2263) (z2264) (l2265) (b2266) (l2267) (z2268) (z2269) (z2270) (z2271) (z2272) (l2273) (l2274) (l2275))
   )
noncomputable def J48_r1 (z2244 : Int) (z2245 : Int) (l2246 : List (List V)) (l2247 : List (List V)) (l2248 : List (List V)) (b2249 : Bool) (z2250 : Int) (z2251 : Int) (z2252 : Int) (z2253 : Int) (z2254 : Int) (z2255 : Int) (z2256 : Int) (z2257 : Int) (z2258 : Int) (z2259 : Int) (z2260 : Int) (z2261 : Int) (z2262 : Int) (z2263 : Int) (z2264 : Int) (l2265 : List (List V)) (b2266 : Bool) (l2267 : List (List V)) (z2268 : Int) (z2269 : Int) (z2270 : Int) (z2271 : Int) (z2272 : Int) (l2273 : List (List V)) (l2274 : List (List V)) (l2275 : List (List V)) : Option N48_r1 := (D48_r1 z2244 z2245 l2246 l2247 l2248 b2249 z2250 z2251 z2252 z2253 z2254 z2255 z2256 z2257 z2258 z2259 z2260 z2261 z2262 z2263 z2264 l2265 b2266 l2267 z2268 z2269 z2270 z2271 z2272 l2273 l2274 l2275).ev some
theorem J48_r1_ok (z2244 : Int) (z2245 : Int) (l2246 : List (List V)) (l2247 : List (List V)) (l2248 : List (List V)) (b2249 : Bool) (z2250 : Int) (z2251 : Int) (z2252 : Int) (z2253 : Int) (z2254 : Int) (z2255 : Int) (z2256 : Int) (z2257 : Int) (z2258 : Int) (z2259 : Int) (z2260 : Int) (z2261 : Int) (z2262 : Int) (z2263 : Int) (z2264 : Int) (l2265 : List (List V)) (b2266 : Bool) (l2267 : List (List V)) (z2268 : Int) (z2269 : Int) (z2270 : Int) (z2271 : Int) (z2272 : Int) (l2273 : List (List V)) (l2274 : List (List V)) (l2275 : List (List V)) : ∀ b, J48_r1 z2244 z2245 l2246 l2247 l2248 b2249 z2250 z2251 z2252 z2253 z2254 z2255 z2256 z2257 z2258 z2259 z2260 z2261 z2262 z2263 z2264 l2265 b2266 l2267 z2268 z2269 z2270 z2271 z2272 l2273 l2274 l2275 = some b → regP Try.prog X CC 48 (0) B48 1 ({ T := U :: V.ptr 0 0 0 :: un 65 [], σ := [Ob.cells true false 32 [[i64 z2244, i64 z2245, V.list 7 l2246, V.list 7 l2247, V.list 8 l2248, vb b2249, i64 z2250, i64 z2251, u8 z2252, u8 z2253, u8 z2254, u8 z2255, u8 z2256, u8 z2257, u8 z2258, u8 z2259, i64 z2260, i64 z2261, i64 z2262, i64 z2263, i64 z2264, V.list 10 l2265, vb b2266, V.list 7 l2267, u8 z2268, u8 z2269, u8 z2270, u8 z2271, i64 z2272, V.list 1 l2273, V.list 7 l2274, V.list 7 l2275]]] }) = some (E48_r1.out b) :=
  reg_ok (E := E48_r1) (fun x => by kernel_rfl)
noncomputable def D48 (z2212 : Int) (z2213 : Int) (l2214 : List (List V)) (l2215 : List (List V)) (l2216 : List (List V)) (b2217 : Bool) (z2218 : Int) (z2219 : Int) (z2220 : Int) (z2221 : Int) (z2222 : Int) (z2223 : Int) (z2224 : Int) (z2225 : Int) (z2226 : Int) (z2227 : Int) (z2228 : Int) (z2229 : Int) (z2230 : Int) (z2231 : Int) (z2232 : Int) (l2233 : List (List V)) (b2234 : Bool) (l2235 : List (List V)) (z2236 : Int) (z2237 : Int) (z2238 : Int) (z2239 : Int) (z2240 : Int) (l2241 : List (List V)) (l2242 : List (List V)) (l2243 : List (List V)) : PT A48 :=
  .cut E48_r1 (J48_r1_ok (z2212) (z2213) (l2214) (l2215) (l2216) (b2217) (z2218) (z2219) (z2220) (z2221) (z2222) (z2223) (z2224) (z2225) (z2226) (z2227) (z2228) (z2229) (z2230) (z2231) (z2232) (l2233) (b2234) (l2235) (z2236) (z2237) (z2238) (z2239) (z2240) (l2241) (l2242) (l2243)) fun (r : N48_r1) => match r with
  | .e0 b2865 z2866 z2867 l2868 l2869 l2870 b2871 z2872 z2873 z2874 z2875 z2876 z2877 z2878 z2879 z2880 z2881 z2882 z2883 z2884 z2885 z2886 l2887 b2888 l2889 z2890 z2891 z2892 z2893 z2894 l2895 l2896 l2897 =>
   .cut E48_c3 (J48_c3_ok (b2865) (z2866) (z2867) (l2868) (l2869) (l2870) (b2871) (z2872) (z2873) (z2874) (z2875) (z2876) (z2877) (z2878) (z2879) (z2880) (z2881) (z2882) (z2883) (z2884) (z2885) (z2886) (l2887) (b2888) (l2889) (z2890) (z2891) (z2892) (z2893) (z2894) (l2895) (l2896) (l2897)) fun (r : N48_c3) => match r with
   | .e0 b2966 =>
    .ret (A48.a0 (b2966))
   | .e1 z2967 z2968 l2969 l2970 l2971 b2972 z2973 z2974 z2975 z2976 z2977 z2978 z2979 z2980 z2981 z2982 z2983 z2984 z2985 z2986 z2987 l2988 b2989 l2990 z2991 z2992 z2993 z2994 z2995 l2996 l2997 l2998 =>
    .auto 1 <|
    .testB ((↑(List.length l2971) : Int) == 0)
     (fun h0 =>
     .auto 3 <|
     .ask E51 (F51_ok (l2969)) fun (r : A51) => match r with
     | .a0 b2999 =>
      .auto 1 <|
      .testB (b2999)
       (fun h1 =>
       .auto 3 <|
       .ask E51 (F51_ok (l2970)) fun (r : A51) => match r with
       | .a0 b3000 =>
        .auto 1 <|
        .ret (A48.a0 (b3000))
       )
       (fun h1 =>
       .auto 3 <|
       .ret (A48.a0 (false))
       )
     )
     (fun h0 =>
     .auto 7 <|
     .ret (A48.a0 (false))
     )
noncomputable def F48 (z2212 : Int) (z2213 : Int) (l2214 : List (List V)) (l2215 : List (List V)) (l2216 : List (List V)) (b2217 : Bool) (z2218 : Int) (z2219 : Int) (z2220 : Int) (z2221 : Int) (z2222 : Int) (z2223 : Int) (z2224 : Int) (z2225 : Int) (z2226 : Int) (z2227 : Int) (z2228 : Int) (z2229 : Int) (z2230 : Int) (z2231 : Int) (z2232 : Int) (l2233 : List (List V)) (b2234 : Bool) (l2235 : List (List V)) (z2236 : Int) (z2237 : Int) (z2238 : Int) (z2239 : Int) (z2240 : Int) (l2241 : List (List V)) (l2242 : List (List V)) (l2243 : List (List V)) : Option A48 := (D48 z2212 z2213 l2214 l2215 l2216 b2217 z2218 z2219 z2220 z2221 z2222 z2223 z2224 z2225 z2226 z2227 z2228 z2229 z2230 z2231 z2232 l2233 b2234 l2235 z2236 z2237 z2238 z2239 z2240 l2241 l2242 l2243).ev some
theorem F48_ok (z2212 : Int) (z2213 : Int) (l2214 : List (List V)) (l2215 : List (List V)) (l2216 : List (List V)) (b2217 : Bool) (z2218 : Int) (z2219 : Int) (z2220 : Int) (z2221 : Int) (z2222 : Int) (z2223 : Int) (z2224 : Int) (z2225 : Int) (z2226 : Int) (z2227 : Int) (z2228 : Int) (z2229 : Int) (z2230 : Int) (z2231 : Int) (z2232 : Int) (l2233 : List (List V)) (b2234 : Bool) (l2235 : List (List V)) (z2236 : Int) (z2237 : Int) (z2238 : Int) (z2239 : Int) (z2240 : Int) (l2241 : List (List V)) (l2242 : List (List V)) (l2243 : List (List V)) : ∀ b, F48 z2212 z2213 l2214 l2215 l2216 b2217 z2218 z2219 z2220 z2221 z2222 z2223 z2224 z2225 z2226 z2227 z2228 z2229 z2230 z2231 z2232 l2233 b2234 l2235 z2236 z2237 z2238 z2239 z2240 l2241 l2242 l2243 = some b → UU 48 ([V.agg [i64 z2212, i64 z2213, V.list 7 l2214, V.list 7 l2215, V.list 8 l2216, vb b2217, i64 z2218, i64 z2219, u8 z2220, u8 z2221, u8 z2222, u8 z2223, u8 z2224, u8 z2225, u8 z2226, u8 z2227, i64 z2228, i64 z2229, i64 z2230, i64 z2231, i64 z2232, V.list 10 l2233, vb b2234, V.list 7 l2235, u8 z2236, u8 z2237, u8 z2238, u8 z2239, i64 z2240, V.list 1 l2241, V.list 7 l2242, V.list 7 l2243]]) ([]) = some (A48.out b) :=
  fn_ok (E := E48) (L := notIn []) rfl rfl (fun x => by kernel_rfl)
/-! ## F82 -/
noncomputable def D82 (z3030 : Int) : PT (Bool) :=
  .test (z3030 ≥ -67108864)
   (fun h0 =>
   .auto 2 <|
   .ret (decide (z3030 ≤ 67108864))
   )
   (fun h0 =>
   .auto 2 <|
   .ret (false)
   )
@[reducible] def O82 (b3031 : Bool) : V × Store := (vb b3031, [])
noncomputable def F82 (z3030 : Int) : Bool := (D82 z3030).evT
theorem F82_ok (z3030 : Int) : UU 82 ([i64 z3030]) ([]) = some (O82 (F82 z3030)) :=
  fnT_ok (out := O82) (L := notIn []) rfl rfl (fun x => by kernel_rfl) (by simp [D82, PT.isT])
/-! ## F49 -/
noncomputable abbrev B49 : Code := (Try.f49.body).getD .skip
inductive N49_r1 where
  | e0 (b3036 : Bool) (z3037 : Int) (z3038 : Int) (z3039 : Int) (z3040 : Int) (z3041 : Int) (z3042 : Int) (z3043 : Int) (z3044 : Int) (z3045 : Int) (z3046 : Int) (z3047 : Int) (z3048 : Int) (z3049 : Int) (z3050 : Int)
@[reducible] def N49_r1.out : N49_r1 → VX × S
  | .e0 b3036 z3037 z3038 z3039 z3040 z3041 z3042 z3043 z3044 z3045 z3046 z3047 z3048 z3049 z3050 => (VX.normal, { T := U :: V.ptr 0 0 0 :: U :: vb b3036 :: un 38 [], σ := [Ob.cells true false 14 [[i64 z3037, u8 z3038, u8 z3039, u8 z3040, u8 z3041, u8 z3042, u8 z3043, u8 z3044, u8 z3045, i64 z3046, i64 z3047, i64 z3048, i64 z3049, i64 z3050]]] })
def N49_r1.ex (g : N49_r1 → Prop) : Prop := (∃ (b3036 : Bool) (z3037 : Int) (z3038 : Int) (z3039 : Int) (z3040 : Int) (z3041 : Int) (z3042 : Int) (z3043 : Int) (z3044 : Int) (z3045 : Int) (z3046 : Int) (z3047 : Int) (z3048 : Int) (z3049 : Int) (z3050 : Int), g (.e0 b3036 z3037 z3038 z3039 z3040 z3041 z3042 z3043 z3044 z3045 z3046 z3047 z3048 z3049 z3050))
theorem N49_r1.ok (g : N49_r1 → Prop) : N49_r1.ex g ↔ ∃ b, g b := ⟨fun h => match h with
  | ⟨_, _, _, _, _, _, _, _, _, _, _, _, _, _, _, h⟩ => ⟨_, h⟩, fun ⟨b, h⟩ => match b, h with
  | .e0 _ _ _ _ _ _ _ _ _ _ _ _ _ _ _, h => ⟨_, _, _, _, _, _, _, _, _, _, _, _, _, _, _, h⟩⟩
abbrev E49_r1 : Ent (VX × S) := ⟨N49_r1, N49_r1.out, N49_r1.ex, N49_r1.ok⟩
noncomputable def D49_r1 (z3016 : Int) (z3017 : Int) (z3018 : Int) (z3019 : Int) (z3020 : Int) (z3021 : Int) (z3022 : Int) (z3023 : Int) (z3024 : Int) (z3025 : Int) (z3026 : Int) (z3027 : Int) (z3028 : Int) (z3029 : Int) : PT N49_r1 :=
  .auto 1 <|
  .tot O82 (F82_ok (z3025)) fun b3068 =>
  .testB (b3068)
   (fun h0 =>
   .auto 4 <|
   .tot O82 (F82_ok (z3026)) fun b3069 =>
   .auto 1 <|
   .testB (b3069)
    (fun h1 =>
    .auto 4 <|
    .tot O82 (F82_ok (z3027)) fun b3070 =>
    .auto 1 <|
    .testB (b3070)
     (fun h2 =>
     .auto 4 <|
     .tot O82 (F82_ok (z3028)) fun b3071 =>
     .auto 1 <|
     .ret (N49_r1.e0 (b3071) (z3016) (z3017) (z3018) (z3019) (z3020) (z3021) (z3022) (z3023) (z3024) (z3025) (z3026) (z3027) (z3028) (z3029))
     )
     (fun h2 =>
     .auto 4 <|
     .ret (N49_r1.e0 (false) (z3016) (z3017) (z3018) (z3019) (z3020) (z3021) (z3022) (z3023) (z3024) (z3025) (z3026) (z3027) (z3028) (z3029))
     )
    )
    (fun h1 =>
    .auto 9 <|
    .ret (N49_r1.e0 (false) (z3016) (z3017) (z3018) (z3019) (z3020) (z3021) (z3022) (z3023) (z3024) (z3025) (z3026) (z3027) (z3028) (z3029))
    )
   )
   (fun h0 =>
   .auto 14 <|
   .ret (N49_r1.e0 (false) (z3016) (z3017) (z3018) (z3019) (z3020) (z3021) (z3022) (z3023) (z3024) (z3025) (z3026) (z3027) (z3028) (z3029))
   )
noncomputable def J49_r1 (z3016 : Int) (z3017 : Int) (z3018 : Int) (z3019 : Int) (z3020 : Int) (z3021 : Int) (z3022 : Int) (z3023 : Int) (z3024 : Int) (z3025 : Int) (z3026 : Int) (z3027 : Int) (z3028 : Int) (z3029 : Int) : Option N49_r1 := (D49_r1 z3016 z3017 z3018 z3019 z3020 z3021 z3022 z3023 z3024 z3025 z3026 z3027 z3028 z3029).ev some
theorem J49_r1_ok (z3016 : Int) (z3017 : Int) (z3018 : Int) (z3019 : Int) (z3020 : Int) (z3021 : Int) (z3022 : Int) (z3023 : Int) (z3024 : Int) (z3025 : Int) (z3026 : Int) (z3027 : Int) (z3028 : Int) (z3029 : Int) : ∀ b, J49_r1 z3016 z3017 z3018 z3019 z3020 z3021 z3022 z3023 z3024 z3025 z3026 z3027 z3028 z3029 = some b → regP Try.prog X CC 49 (0) B49 1 ({ T := U :: V.ptr 0 0 0 :: un 40 [], σ := [Ob.cells true false 14 [[i64 z3016, u8 z3017, u8 z3018, u8 z3019, u8 z3020, u8 z3021, u8 z3022, u8 z3023, u8 z3024, i64 z3025, i64 z3026, i64 z3027, i64 z3028, i64 z3029]]] }) = some (E49_r1.out b) :=
  reg_ok (E := E49_r1) (fun x => by kernel_rfl)
noncomputable def D49 (z3002 : Int) (z3003 : Int) (z3004 : Int) (z3005 : Int) (z3006 : Int) (z3007 : Int) (z3008 : Int) (z3009 : Int) (z3010 : Int) (z3011 : Int) (z3012 : Int) (z3013 : Int) (z3014 : Int) (z3015 : Int) : PT A49 :=
  .cut E49_r1 (J49_r1_ok (z3002) (z3003) (z3004) (z3005) (z3006) (z3007) (z3008) (z3009) (z3010) (z3011) (z3012) (z3013) (z3014) (z3015)) fun (r : N49_r1) => match r with
  | .e0 b3072 z3073 z3074 z3075 z3076 z3077 z3078 z3079 z3080 z3081 z3082 z3083 z3084 z3085 z3086 =>
   .auto 1 <|
   .test (z3073 ≥ 0)
    (fun h0 =>
    .auto 4 <|
    .test (z3073 ≤ 2)
     (fun h1 =>
     .auto 1 <|
     .testB (b3072)
      (fun h2 =>
      .auto 3 <|
      .tot O82 (F82_ok (z3086)) fun b3087 =>
      .auto 1 <|
      .ret (A49.a0 (b3087))
      )
      (fun h2 =>
      .auto 3 <|
      .ret (A49.a0 (false))
      )
     )
     (fun h1 =>
     .auto 5 <|
     .ret (A49.a0 (false))
     )
    )
    (fun h0 =>
    .auto 9 <|
    .ret (A49.a0 (false))
    )
noncomputable def F49 (z3002 : Int) (z3003 : Int) (z3004 : Int) (z3005 : Int) (z3006 : Int) (z3007 : Int) (z3008 : Int) (z3009 : Int) (z3010 : Int) (z3011 : Int) (z3012 : Int) (z3013 : Int) (z3014 : Int) (z3015 : Int) : Option A49 := (D49 z3002 z3003 z3004 z3005 z3006 z3007 z3008 z3009 z3010 z3011 z3012 z3013 z3014 z3015).ev some
theorem F49_ok (z3002 : Int) (z3003 : Int) (z3004 : Int) (z3005 : Int) (z3006 : Int) (z3007 : Int) (z3008 : Int) (z3009 : Int) (z3010 : Int) (z3011 : Int) (z3012 : Int) (z3013 : Int) (z3014 : Int) (z3015 : Int) : ∀ b, F49 z3002 z3003 z3004 z3005 z3006 z3007 z3008 z3009 z3010 z3011 z3012 z3013 z3014 z3015 = some b → UU 49 ([V.agg [i64 z3002, u8 z3003, u8 z3004, u8 z3005, u8 z3006, u8 z3007, u8 z3008, u8 z3009, u8 z3010, i64 z3011, i64 z3012, i64 z3013, i64 z3014, i64 z3015]]) ([]) = some (A49.out b) :=
  fn_ok (E := E49) (L := notIn []) rfl rfl (fun x => by kernel_rfl)
/-! ## F50 -/
noncomputable abbrev B50 : Code := (Try.f50.body).getD .skip
inductive N50_0 where
  | s0 (l3094 : List (List V)) (z3095 : Int) (z3096 : Int) (z3097 : Int)
  | e0
  | e1 (l3098 : List (List V))
@[reducible] def N50_0.out : N50_0 → VX × S
  | .s0 l3094 z3095 z3096 z3097 => (VX.normal, { T := V.list 10 l3094 :: U :: U :: i64 z3095 :: U :: U :: V.list 10 l3094 :: i64 z3096 :: i64 z3097 :: un 20 [], σ := [] })
  | .e0 => (VX.ret, { T := U :: U :: vb false :: un 26 [], σ := [] })
  | .e1 l3098 => (VX.exit 0, { T := V.list 10 l3098 :: un 28 [], σ := [] })
def N50_0.ex (g : N50_0 → Prop) : Prop := (∃ (l3094 : List (List V)) (z3095 : Int) (z3096 : Int) (z3097 : Int), g (.s0 l3094 z3095 z3096 z3097)) ∨ g .e0 ∨ (∃ (l3098 : List (List V)), g (.e1 l3098))
theorem N50_0.ok (g : N50_0 → Prop) : N50_0.ex g ↔ ∃ b, g b := ⟨fun h => match h with
  | .inl ⟨_, _, _, _, h⟩ => ⟨_, h⟩
  | .inr (.inl h) => ⟨_, h⟩
  | .inr (.inr (⟨_, h⟩)) => ⟨_, h⟩, fun ⟨b, h⟩ => match b, h with
  | .s0 _ _ _ _, h => .inl ⟨_, _, _, _, h⟩
  | .e0, h => .inr (.inl h)
  | .e1 _, h => .inr (.inr (⟨_, h⟩))⟩
abbrev E50_0 : Ent (VX × S) := ⟨N50_0, N50_0.out, N50_0.ex, N50_0.ok⟩
noncomputable def D50_0 (l3094 : List (List V)) (z3095 : Int) (z3096 : Int) (z3097 : Int) : PT N50_0 :=
  .test (z3097 < z3096)
   (fun h0 =>
   .test (0 ≤ z3097)
    (fun h1 =>
    .look RW65 (l3094[Int.toNat z3097]?) fun e3101 =>
    .auto 4 <|
    .ask E69 (F69_ok (z3097) (z3095) (e3101.c0) (e3101.c5) (e3101.c6) (e3101.c7) (e3101.c8) (e3101.c9)) fun (r : A69) => match r with
    | .a0 b3102 =>
     .testB (!b3102)
      (fun h2 =>
      .ret (N50_0.e0)
      )
      (fun h2 =>
      .auto 1 <|
      .ret (N50_0.s0 (l3094) (e3101.c0) (z3096) (w64 (z3097 + 1)))
      )
    )
    (fun _ => .fail) -- none
   )
   (fun h0 =>
   .ret (N50_0.e1 (l3094))
   )
noncomputable def S50_0 : N50_0 → PT N50_0
  | .s0 l3094 z3095 z3096 z3097 => D50_0 l3094 z3095 z3096 z3097
  | _ => .fail
def N50_0.off : N50_0 → Bool
  | .s0 _ _ _ _ => false
  | _ => true
noncomputable def L50_0 (n : Nat) (b : N50_0) : Option N50_0 := PT.loop (S50_0) N50_0.off n b
theorem L50_0_ok : ∀ (n : Nat) (b : N50_0), N50_0.off b = false → ∀ c, L50_0 n b = some c → loopP Try.prog X CC 50 (0) 18446744073709551616 B50 0 n (E50_0.out b).2 = some (E50_0.out c) :=
  loop_ok (E := E50_0) (step := S50_0) (L := notIn []) (fun b hb => by cases b <;> first | (cases hb; done) | (intro x; kernel_rfl)) (fun b => by cases b <;> rfl)
noncomputable def N50_0.nx (n : Nat) (c : N50_0) : Option N50_0 := match N50_0.off c with
  | true => some c
  | false => L50_0 n c
theorem L50_0_s0 (n : Nat) (l3094 : List (List V)) (z3095 : Int) (z3096 : Int) (z3097 : Int) : L50_0 (n + 1) (.s0 l3094 z3095 z3096 z3097) = (D50_0 l3094 z3095 z3096 z3097).ev (N50_0.nx n) := rfl
theorem N50_0.nx_s0 (n : Nat) (l3094 : List (List V)) (z3095 : Int) (z3096 : Int) (z3097 : Int) : N50_0.nx n (.s0 l3094 z3095 z3096 z3097) = L50_0 n (.s0 l3094 z3095 z3096 z3097) := rfl
theorem N50_0.nx_e0 (n : Nat) : N50_0.nx n (.e0) = some (.e0) := rfl
theorem N50_0.nx_e1 (n : Nat) (l3098 : List (List V)) : N50_0.nx n (.e1 l3098) = some (.e1 l3098) := rfl
noncomputable def D50 (l3089 : List (List V)) : PT A50 :=
  .cut E50_0 (L50_0_ok 18446744073709551616 (.s0 (l3089) (0) ((↑(List.length l3089) : Int)) (0)) rfl) fun (r : N50_0) => match r with
  | .e0 =>
   .ret (A50.a0 (false))
  | .e1 l3103 =>
   .ret (A50.a0 (decide ((↑(List.length l3103) : Int) ≤ 32)))
  | _ => .fail
noncomputable def F50 (l3089 : List (List V)) : Option A50 := (D50 l3089).ev some
theorem F50_ok (l3089 : List (List V)) : ∀ b, F50 l3089 = some b → UU 50 ([V.list 10 l3089]) ([]) = some (A50.out b) :=
  fn_ok (E := E50) (L := notIn []) rfl rfl (fun x => by kernel_rfl)
/-! ## F84 -/
noncomputable def D84 (z3114 : Int) : PT (Bool) :=
  .test (z3114 < 65536)
   (fun h0 =>
   .auto 2 <|
   .ret (true)
   )
   (fun h0 =>
   .auto 2 <|
   .ret (decide (z3114 > 67108864))
   )
@[reducible] def O84 (b3115 : Bool) : V × Store := (vb b3115, [])
noncomputable def F84 (z3114 : Int) : Bool := (D84 z3114).evT
theorem F84_ok (z3114 : Int) : UU 84 ([i64 z3114]) ([]) = some (O84 (F84 z3114)) :=
  fnT_ok (out := O84) (L := notIn []) rfl rfl (fun x => by kernel_rfl) (by simp [D84, PT.isT])
/-! ## F111 -/
noncomputable abbrev B111 : Code := (Try.f111.body).getD .skip
inductive N111_0 where
  | s0 (l3117 : List (List V)) (z3118 : Int) (z3119 : Int)
  | e0 (z3123 : Int)
  | e1
@[reducible] def N111_0.out : N111_0 → VX × S
  | .s0 l3117 z3118 z3119 => (VX.normal, { T := V.list 1 l3117 :: V.fn 84 [] :: un 5 (i64 z3118 :: i64 z3119 :: un 10 []), σ := [] })
  | .e0 z3123 => (VX.ret, { T := un 4 (i64 z3123 :: un 14 []), σ := [] })
  | .e1 => (VX.exit 0, { T := un 19 [], σ := [] })
def N111_0.ex (g : N111_0 → Prop) : Prop := (∃ (l3117 : List (List V)) (z3118 : Int) (z3119 : Int), g (.s0 l3117 z3118 z3119)) ∨ (∃ (z3123 : Int), g (.e0 z3123)) ∨ g .e1
theorem N111_0.ok (g : N111_0 → Prop) : N111_0.ex g ↔ ∃ b, g b := ⟨fun h => match h with
  | .inl ⟨_, _, _, h⟩ => ⟨_, h⟩
  | .inr (.inl ⟨_, h⟩) => ⟨_, h⟩
  | .inr (.inr (h)) => ⟨_, h⟩, fun ⟨b, h⟩ => match b, h with
  | .s0 _ _ _, h => .inl ⟨_, _, _, h⟩
  | .e0 _, h => .inr (.inl ⟨_, h⟩)
  | .e1, h => .inr (.inr (h))⟩
abbrev E111_0 : Ent (VX × S) := ⟨N111_0, N111_0.out, N111_0.ex, N111_0.ok⟩
noncomputable def D111_0 (l3117 : List (List V)) (z3118 : Int) (z3119 : Int) : PT N111_0 :=
  .test (z3119 < z3118)
   (fun h0 =>
   .test (0 ≤ z3119)
    (fun h1 =>
    .look RW2 (l3117[Int.toNat z3119]?) fun e3125 =>
    .tot O84 (F84_ok (e3125.c0)) fun b3126 =>
    .testB (b3126)
     (fun h2 =>
     .ret (N111_0.e0 (z3119))
     )
     (fun h2 =>
     .ret (N111_0.s0 (l3117) (z3118) (w64 (z3119 + 1)))
     )
    )
    (fun _ => .fail) -- none
   )
   (fun h0 =>
   .ret (N111_0.e1)
   )
noncomputable def S111_0 : N111_0 → PT N111_0
  | .s0 l3117 z3118 z3119 => D111_0 l3117 z3118 z3119
  | _ => .fail
def N111_0.off : N111_0 → Bool
  | .s0 _ _ _ => false
  | _ => true
noncomputable def L111_0 (n : Nat) (b : N111_0) : Option N111_0 := PT.loop (S111_0) N111_0.off n b
theorem L111_0_ok : ∀ (n : Nat) (b : N111_0), N111_0.off b = false → ∀ c, L111_0 n b = some c → loopP Try.prog X CC 111 (0) 18446744073709551616 B111 0 n (E111_0.out b).2 = some (E111_0.out c) :=
  loop_ok (E := E111_0) (step := S111_0) (L := notIn []) (fun b hb => by cases b <;> first | (cases hb; done) | (intro x; kernel_rfl)) (fun b => by cases b <;> rfl)
noncomputable def N111_0.nx (n : Nat) (c : N111_0) : Option N111_0 := match N111_0.off c with
  | true => some c
  | false => L111_0 n c
theorem L111_0_s0 (n : Nat) (l3117 : List (List V)) (z3118 : Int) (z3119 : Int) : L111_0 (n + 1) (.s0 l3117 z3118 z3119) = (D111_0 l3117 z3118 z3119).ev (N111_0.nx n) := rfl
theorem N111_0.nx_s0 (n : Nat) (l3117 : List (List V)) (z3118 : Int) (z3119 : Int) : N111_0.nx n (.s0 l3117 z3118 z3119) = L111_0 n (.s0 l3117 z3118 z3119) := rfl
theorem N111_0.nx_e0 (n : Nat) (z3123 : Int) : N111_0.nx n (.e0 z3123) = some (.e0 z3123) := rfl
theorem N111_0.nx_e1 (n : Nat) : N111_0.nx n (.e1) = some (.e1) := rfl
noncomputable def D111 (l3110 : List (List V)) : PT A111 :=
  .cut E111_0 (L111_0_ok 18446744073709551616 (.s0 (l3110) ((↑(List.length l3110) : Int)) (0)) rfl) fun (r : N111_0) => match r with
  | .e0 z3127 =>
   .ret (A111.a0 (z3127))
  | .e1 =>
   .ret (A111.a0 (-1))
  | _ => .fail
noncomputable def F111 (l3110 : List (List V)) : Option A111 := (D111 l3110).ev some
theorem F111_ok (l3110 : List (List V)) : ∀ b, F111 l3110 = some b → UU 111 ([V.list 1 l3110, V.fn 84 []]) ([]) = some (A111.out b) :=
  fn_ok (E := E111) (L := notIn []) rfl rfl (fun x => by kernel_rfl)
/-! ## F83 -/
noncomputable def D83 (l3109 : List (List V)) : PT A83 :=
  .ask E111 (F111_ok (l3109)) fun (r : A111) => match r with
  | .a0 z3128 =>
   .ret (A83.a0 (decide (z3128 ≥ 0)))
noncomputable def F83 (l3109 : List (List V)) : Option A83 := (D83 l3109).ev some
theorem F83_ok (l3109 : List (List V)) : ∀ b, F83 l3109 = some b → UU 83 ([V.list 1 l3109, V.fn 84 []]) ([]) = some (A83.out b) :=
  fn_ok (E := E83) (L := notIn []) rfl rfl (fun x => by kernel_rfl)
/-! ## F52 -/
noncomputable def D52 (l3108 : List (List V)) : PT A52 :=
  .test ((↑(List.length l3108) : Int) ≤ 8)
   (fun h0 =>
   .auto 1 <|
   .ask E83 (F83_ok (l3108)) fun (r : A83) => match r with
   | .a0 b3130 =>
    .auto 2 <|
    .ret (A52.a0 (!b3130))
   )
   (fun h0 =>
   .auto 3 <|
   .ret (A52.a0 (false))
   )
noncomputable def F52 (l3108 : List (List V)) : Option A52 := (D52 l3108).ev some
theorem F52_ok (l3108 : List (List V)) : ∀ b, F52 l3108 = some b → UU 52 ([V.list 1 l3108]) ([]) = some (A52.out b) :=
  fn_ok (E := E52) (L := notIn []) rfl rfl (fun x => by kernel_rfl)
/-! ## F17 -/
noncomputable def D17 (z2180 : Int) (z2181 : Int) (l2182 : List (List V)) (l2183 : List (List V)) (l2184 : List (List V)) (b2185 : Bool) (z2186 : Int) (z2187 : Int) (z2188 : Int) (z2189 : Int) (z2190 : Int) (z2191 : Int) (z2192 : Int) (z2193 : Int) (z2194 : Int) (z2195 : Int) (z2196 : Int) (z2197 : Int) (z2198 : Int) (z2199 : Int) (z2200 : Int) (l2201 : List (List V)) (b2202 : Bool) (l2203 : List (List V)) (z2204 : Int) (z2205 : Int) (z2206 : Int) (z2207 : Int) (z2208 : Int) (l2209 : List (List V)) (l2210 : List (List V)) (l2211 : List (List V)) : PT A17 :=
  .auto 1 <|
  .ask E48 (F48_ok (z2180) (z2181) (l2182) (l2183) (l2184) (b2185) (z2186) (z2187) (z2188) (z2189) (z2190) (z2191) (z2192) (z2193) (z2194) (z2195) (z2196) (z2197) (z2198) (z2199) (z2200) (l2201) (b2202) (l2203) (z2204) (z2205) (z2206) (z2207) (z2208) (l2209) (l2210) (l2211)) fun (r : A48) => match r with
  | .a0 b3001 =>
   .testB (b3001)
    (fun h0 =>
    .auto 4 <|
    .testB (z2186 == 0)
     (fun h1 =>
     .auto 9 <|
     .ask E49 (F49_ok (z2187) (z2188) (z2189) (z2190) (z2191) (z2192) (z2193) (z2194) (z2195) (z2196) (z2197) (z2198) (z2199) (z2200)) fun (r : A49) => match r with
     | .a0 b3088 =>
      .auto 1 <|
      .testB (b3088)
       (fun h2 =>
       .auto 3 <|
       .ask E50 (F50_ok (l2201)) fun (r : A50) => match r with
       | .a0 b3104 =>
        .auto 1 <|
        .testB (b3104)
         (fun h3 =>
         .auto 3 <|
         .ask E51 (F51_ok (l2203)) fun (r : A51) => match r with
         | .a0 b3105 =>
          .auto 1 <|
          .testB (b3105)
           (fun h4 =>
           .auto 3 <|
           .ask E51 (F51_ok (l2210)) fun (r : A51) => match r with
           | .a0 b3106 =>
            .auto 1 <|
            .testB (b3106)
             (fun h5 =>
             .auto 3 <|
             .ask E51 (F51_ok (l2211)) fun (r : A51) => match r with
             | .a0 b3107 =>
              .auto 1 <|
              .testB (b3107)
               (fun h6 =>
               .auto 4 <|
               .testB (z2208 == 0)
                (fun h7 =>
                .auto 9 <|
                .ask E52 (F52_ok (l2209)) fun (r : A52) => match r with
                | .a0 b3132 =>
                 .auto 1 <|
                 .ret (A17.a0 (b3132))
                )
                (fun h7 =>
                .auto 6 <|
                .testB (z2208 == 1)
                 (fun h8 =>
                 .auto 3 <|
                 .ask E52 (F52_ok (l2209)) fun (r : A52) => match r with
                 | .a0 b3134 =>
                  .auto 1 <|
                  .ret (A17.a0 (b3134))
                 )
                 (fun h8 =>
                 .auto 3 <|
                 .ret (A17.a0 (false))
                 )
                )
               )
               (fun h6 =>
               .auto 9 <|
               .ret (A17.a0 (false))
               )
             )
             (fun h5 =>
             .auto 13 <|
             .ret (A17.a0 (false))
             )
           )
           (fun h4 =>
           .auto 17 <|
           .ret (A17.a0 (false))
           )
         )
         (fun h3 =>
         .auto 21 <|
         .ret (A17.a0 (false))
         )
       )
       (fun h2 =>
       .auto 25 <|
       .ret (A17.a0 (false))
       )
     )
     (fun h1 =>
     .auto 6 <|
     .testB (z2186 == 1)
      (fun h2 =>
      .auto 3 <|
      .ask E49 (F49_ok (z2187) (z2188) (z2189) (z2190) (z2191) (z2192) (z2193) (z2194) (z2195) (z2196) (z2197) (z2198) (z2199) (z2200)) fun (r : A49) => match r with
      | .a0 b3135 =>
       .auto 1 <|
       .testB (b3135)
        (fun h3 =>
        .auto 3 <|
        .ask E50 (F50_ok (l2201)) fun (r : A50) => match r with
        | .a0 b3136 =>
         .auto 1 <|
         .testB (b3136)
          (fun h4 =>
          .auto 3 <|
          .ask E51 (F51_ok (l2203)) fun (r : A51) => match r with
          | .a0 b3137 =>
           .auto 1 <|
           .testB (b3137)
            (fun h5 =>
            .auto 3 <|
            .ask E51 (F51_ok (l2210)) fun (r : A51) => match r with
            | .a0 b3138 =>
             .auto 1 <|
             .testB (b3138)
              (fun h6 =>
              .auto 3 <|
              .ask E51 (F51_ok (l2211)) fun (r : A51) => match r with
              | .a0 b3139 =>
               .auto 1 <|
               .testB (b3139)
                (fun h7 =>
                .auto 4 <|
                .testB (z2208 == 0)
                 (fun h8 =>
                 .auto 9 <|
                 .ask E52 (F52_ok (l2209)) fun (r : A52) => match r with
                 | .a0 b3140 =>
                  .auto 1 <|
                  .ret (A17.a0 (b3140))
                 )
                 (fun h8 =>
                 .auto 6 <|
                 .testB (z2208 == 1)
                  (fun h9 =>
                  .auto 3 <|
                  .ask E52 (F52_ok (l2209)) fun (r : A52) => match r with
                  | .a0 b3141 =>
                   .auto 1 <|
                   .ret (A17.a0 (b3141))
                  )
                  (fun h9 =>
                  .auto 3 <|
                  .ret (A17.a0 (false))
                  )
                 )
                )
                (fun h7 =>
                .auto 9 <|
                .ret (A17.a0 (false))
                )
              )
              (fun h6 =>
              .auto 13 <|
              .ret (A17.a0 (false))
              )
            )
            (fun h5 =>
            .auto 17 <|
            .ret (A17.a0 (false))
            )
          )
          (fun h4 =>
          .auto 21 <|
          .ret (A17.a0 (false))
          )
        )
        (fun h3 =>
        .auto 25 <|
        .ret (A17.a0 (false))
        )
      )
      (fun h2 =>
      .auto 29 <|
      .ret (A17.a0 (false))
      )
     )
    )
    (fun h0 =>
    .auto 35 <|
    .ret (A17.a0 (false))
    )
noncomputable def F17 (z2180 : Int) (z2181 : Int) (l2182 : List (List V)) (l2183 : List (List V)) (l2184 : List (List V)) (b2185 : Bool) (z2186 : Int) (z2187 : Int) (z2188 : Int) (z2189 : Int) (z2190 : Int) (z2191 : Int) (z2192 : Int) (z2193 : Int) (z2194 : Int) (z2195 : Int) (z2196 : Int) (z2197 : Int) (z2198 : Int) (z2199 : Int) (z2200 : Int) (l2201 : List (List V)) (b2202 : Bool) (l2203 : List (List V)) (z2204 : Int) (z2205 : Int) (z2206 : Int) (z2207 : Int) (z2208 : Int) (l2209 : List (List V)) (l2210 : List (List V)) (l2211 : List (List V)) : Option A17 := (D17 z2180 z2181 l2182 l2183 l2184 b2185 z2186 z2187 z2188 z2189 z2190 z2191 z2192 z2193 z2194 z2195 z2196 z2197 z2198 z2199 z2200 l2201 b2202 l2203 z2204 z2205 z2206 z2207 z2208 l2209 l2210 l2211).ev some
theorem F17_ok (z2180 : Int) (z2181 : Int) (l2182 : List (List V)) (l2183 : List (List V)) (l2184 : List (List V)) (b2185 : Bool) (z2186 : Int) (z2187 : Int) (z2188 : Int) (z2189 : Int) (z2190 : Int) (z2191 : Int) (z2192 : Int) (z2193 : Int) (z2194 : Int) (z2195 : Int) (z2196 : Int) (z2197 : Int) (z2198 : Int) (z2199 : Int) (z2200 : Int) (l2201 : List (List V)) (b2202 : Bool) (l2203 : List (List V)) (z2204 : Int) (z2205 : Int) (z2206 : Int) (z2207 : Int) (z2208 : Int) (l2209 : List (List V)) (l2210 : List (List V)) (l2211 : List (List V)) : ∀ b, F17 z2180 z2181 l2182 l2183 l2184 b2185 z2186 z2187 z2188 z2189 z2190 z2191 z2192 z2193 z2194 z2195 z2196 z2197 z2198 z2199 z2200 l2201 b2202 l2203 z2204 z2205 z2206 z2207 z2208 l2209 l2210 l2211 = some b → UU 17 ([V.agg [i64 z2180, i64 z2181, V.list 7 l2182, V.list 7 l2183, V.list 8 l2184, vb b2185, i64 z2186, i64 z2187, u8 z2188, u8 z2189, u8 z2190, u8 z2191, u8 z2192, u8 z2193, u8 z2194, u8 z2195, i64 z2196, i64 z2197, i64 z2198, i64 z2199, i64 z2200, V.list 10 l2201, vb b2202, V.list 7 l2203, u8 z2204, u8 z2205, u8 z2206, u8 z2207, i64 z2208, V.list 1 l2209, V.list 7 l2210, V.list 7 l2211]]) ([]) = some (A17.out b) :=
  fn_ok (E := E17) (L := notIn []) rfl rfl (fun x => by kernel_rfl)
/-! ## F53 -/
noncomputable def D53 (z3150 : Int) (z3151 : Int) : PT (Bool) :=
  .auto 1 <|
  .test (z3150 ≥ -67108864)
   (fun h0 =>
   .auto 4 <|
   .test (z3150 ≤ 67108864)
    (fun h1 =>
    .auto 4 <|
    .test (z3151 ≥ -67108864)
     (fun h2 =>
     .auto 4 <|
     .ret (decide (z3151 ≤ 67108864))
     )
     (fun h2 =>
     .auto 3 <|
     .ret (false)
     )
    )
    (fun h1 =>
    .auto 7 <|
    .ret (false)
    )
   )
   (fun h0 =>
   .auto 11 <|
   .ret (false)
   )
@[reducible] def O53 (b3152 : Bool) : V × Store := (vb b3152, [])
noncomputable def F53 (z3150 : Int) (z3151 : Int) : Bool := (D53 z3150 z3151).evT
theorem F53_ok (z3150 : Int) (z3151 : Int) : UU 53 ([V.agg [i64 z3150, i64 z3151]]) ([]) = some (O53 (F53 z3150 z3151)) :=
  fnT_ok (out := O53) (L := notIn []) rfl rfl (fun x => by kernel_rfl) (by simp [D53, PT.isT])
/-! ## F18 -/
noncomputable abbrev B18 : Code := (Try.f18.body).getD .skip
inductive N18_0 where
  | s0 (z3154 : Int) (z3155 : Int) (b3156 : Bool) (l3157 : List (List V))
  | e0
  | e1 (z3158 : Int)
@[reducible] def N18_0.out : N18_0 → VX × S
  | .s0 z3154 z3155 b3156 l3157 => (VX.normal, { T := U :: V.ptr 0 0 0 :: U :: i64 z3154 :: i64 z3155 :: un 31 [], σ := [Ob.cells true false 2 [[vb b3156, V.list 2 l3157]]] })
  | .e0 => (VX.ret, { T := U :: U :: vb false :: un 33 [], σ := [] })
  | .e1 z3158 => (VX.exit 0, { T := U :: U :: U :: i64 z3158 :: un 32 [], σ := [] })
def N18_0.ex (g : N18_0 → Prop) : Prop := (∃ (z3154 : Int) (z3155 : Int) (b3156 : Bool) (l3157 : List (List V)), g (.s0 z3154 z3155 b3156 l3157)) ∨ g .e0 ∨ (∃ (z3158 : Int), g (.e1 z3158))
theorem N18_0.ok (g : N18_0 → Prop) : N18_0.ex g ↔ ∃ b, g b := ⟨fun h => match h with
  | .inl ⟨_, _, _, _, h⟩ => ⟨_, h⟩
  | .inr (.inl h) => ⟨_, h⟩
  | .inr (.inr (⟨_, h⟩)) => ⟨_, h⟩, fun ⟨b, h⟩ => match b, h with
  | .s0 _ _ _ _, h => .inl ⟨_, _, _, _, h⟩
  | .e0, h => .inr (.inl h)
  | .e1 _, h => .inr (.inr (⟨_, h⟩))⟩
abbrev E18_0 : Ent (VX × S) := ⟨N18_0, N18_0.out, N18_0.ex, N18_0.ok⟩
noncomputable def D18_0 (z3154 : Int) (z3155 : Int) (b3156 : Bool) (l3157 : List (List V)) : PT N18_0 :=
  .test (z3155 < z3154)
   (fun h0 =>
   .auto 1 <|
   .test (0 ≤ z3155)
    (fun h1 =>
    .look RW26 (l3157[Int.toNat z3155]?) fun e3160 =>
    .tot O53 (F53_ok (e3160.c0) (e3160.c1)) fun b3161 =>
    .testB (!b3161)
     (fun h2 =>
     .ret (N18_0.e0)
     )
     (fun h2 =>
     .ret (N18_0.s0 (z3154) (w64 (z3155 + 1)) (b3156) (l3157))
     )
    )
    (fun _ => .fail) -- none
   )
   (fun h0 =>
   .ret (N18_0.e1 (z3154))
   )
noncomputable def S18_0 : N18_0 → PT N18_0
  | .s0 z3154 z3155 b3156 l3157 => D18_0 z3154 z3155 b3156 l3157
  | _ => .fail
def N18_0.off : N18_0 → Bool
  | .s0 _ _ _ _ => false
  | _ => true
noncomputable def L18_0 (n : Nat) (b : N18_0) : Option N18_0 := PT.loop (S18_0) N18_0.off n b
theorem L18_0_ok : ∀ (n : Nat) (b : N18_0), N18_0.off b = false → ∀ c, L18_0 n b = some c → loopP Try.prog X CC 18 (0) 18446744073709551616 B18 0 n (E18_0.out b).2 = some (E18_0.out c) :=
  loop_ok (E := E18_0) (step := S18_0) (L := notIn []) (fun b hb => by cases b <;> first | (cases hb; done) | (intro x; kernel_rfl)) (fun b => by cases b <;> rfl)
noncomputable def N18_0.nx (n : Nat) (c : N18_0) : Option N18_0 := match N18_0.off c with
  | true => some c
  | false => L18_0 n c
theorem L18_0_s0 (n : Nat) (z3154 : Int) (z3155 : Int) (b3156 : Bool) (l3157 : List (List V)) : L18_0 (n + 1) (.s0 z3154 z3155 b3156 l3157) = (D18_0 z3154 z3155 b3156 l3157).ev (N18_0.nx n) := rfl
theorem N18_0.nx_s0 (n : Nat) (z3154 : Int) (z3155 : Int) (b3156 : Bool) (l3157 : List (List V)) : N18_0.nx n (.s0 z3154 z3155 b3156 l3157) = L18_0 n (.s0 z3154 z3155 b3156 l3157) := rfl
theorem N18_0.nx_e0 (n : Nat) : N18_0.nx n (.e0) = some (.e0) := rfl
theorem N18_0.nx_e1 (n : Nat) (z3158 : Int) : N18_0.nx n (.e1 z3158) = some (.e1 z3158) := rfl
noncomputable def D18 (b3143 : Bool) (l3144 : List (List V)) : PT A18 :=
  .auto 1 <|
  .testB ((↑(List.length l3144) : Int) == 0)
   (fun h0 =>
   .auto 1 <|
   .ret (A18.a0 (!b3143))
   )
   (fun h0 =>
   .cut E18_0 (L18_0_ok 18446744073709551616 (.s0 ((↑(List.length l3144) : Int)) (0) (b3143) (l3144)) rfl) fun (r : N18_0) => match r with
   | .e0 =>
    .ret (A18.a0 (false))
   | .e1 z3162 =>
    .test (z3162 ≥ 4)
     (fun h1 =>
     .auto 2 <|
     .test (z3162 ≤ 97)
      (fun h2 =>
      .auto 4 <|
      .ret (A18.a0 (Int.tmod z3162 3 == 1))
      )
      (fun h2 =>
      .auto 3 <|
      .ret (A18.a0 (false))
      )
     )
     (fun h1 =>
     .auto 6 <|
     .ret (A18.a0 (false))
     )
   | _ => .fail
   )
noncomputable def F18 (b3143 : Bool) (l3144 : List (List V)) : Option A18 := (D18 b3143 l3144).ev some
theorem F18_ok (b3143 : Bool) (l3144 : List (List V)) : ∀ b, F18 b3143 l3144 = some b → UU 18 ([V.agg [vb b3143, V.list 2 l3144]]) ([]) = some (A18.out b) :=
  fn_ok (E := E18) (L := notIn []) rfl rfl (fun x => by kernel_rfl)
/-! ## F19 -/
noncomputable def D19 : PT A19 :=
  .ask E45 (F45_ok (131072) (131072)) fun (r : A45) => match r with
  | .a0 b3164 k3165 l3166 =>
   .auto 2 <|
   .testB ((↑k3165 : Int) == 13)
    (fun h0 =>
    .auto 3 <|
    .testB (b3164)
     (fun h1 =>
     .auto 3 <|
     .test ((0 : Int) ≤ (0 : Int) ∧ (0 : Int) < (↑k3165 : Int))
      (fun h2 =>
      .auto 1 <|
      .look RW26 (l3166[(0 : Nat)]?) fun e3167 =>
      .auto 3 <|
      .testB (e3167.c0 == -65536 && (e3167.c1 == -65536 && true))
       (fun h3 =>
       .ask E47 (F47_ok (99) (5) (6)) fun (r : A47) => match r with
       | .a0 b3168 k3169 l3170 =>
        .auto 4 <|
        .testB ((↑k3169 : Int) == 97)
         (fun h4 =>
         .ask E46 (F46_ok (1) (1)) fun (r : A46) => match r with
         | .a0 b3171 k3172 l3173 =>
          .auto 4 <|
          .testB ((↑k3172 : Int) == 13)
           (fun h5 =>
           .auto 1 <|
           .ask E17 (F17_ok (0) (0) ([]) ([]) ([]) (false) (0) (0) (0) (0) (0) (0) (0) (0) (0) (0) (0) (0) (0) (0) (0) ([]) (false) ([]) (0) (0) (0) (0) (0) ([]) ([]) ([])) fun (r : A17) => match r with
           | .a0 b3174 =>
            .auto 1 <|
            .testB (b3174)
             (fun h6 =>
             .auto 1 <|
             .ask E17 (F17_ok (4) (0) ([]) ([]) ([]) (false) (0) (0) (0) (0) (0) (0) (0) (0) (0) (0) (0) (0) (0) (0) (0) ([]) (false) ([]) (0) (0) (0) (0) (0) ([]) ([]) ([])) fun (r : A17) => match r with
             | .a0 b3175 =>
              .auto 2 <|
              .ret (A19.a0 (!b3175))
             )
             (fun h6 =>
             .auto 3 <|
             .ret (A19.a0 (false))
             )
           )
           (fun h5 =>
           .auto 6 <|
           .ret (A19.a0 (false))
           )
         )
         (fun h4 =>
         .auto 11 <|
         .ret (A19.a0 (false))
         )
       )
       (fun h3 =>
       .auto 16 <|
       .ret (A19.a0 (false))
       )
      )
      (fun _ => .fail) -- none
     )
     (fun h1 =>
     .auto 23 <|
     .ret (A19.a0 (false))
     )
    )
    (fun h0 =>
    .auto 26 <|
    .ret (A19.a0 (false))
    )
noncomputable def F19 : Option A19 := (D19).ev some
theorem F19_ok : ∀ b, F19 = some b → UU 19 ([]) ([]) = some (A19.out b) :=
  fn_ok (E := E19) (L := notIn []) rfl rfl (fun x => by kernel_rfl)
/-! ## F5 -/
noncomputable def D5 (l0 : List (List V)) (z1 : Int) : PT A5 :=
  .ask E15 (F15_ok (l0) (0)) fun (r : A15) => match r with
  | .a0 z1626 z1627 k1628 k1629 k1630 b1631 z1632 z1633 z1634 z1635 z1636 z1637 z1638 z1639 z1640 z1641 z1642 z1643 z1644 z1645 z1646 k1647 b1648 k1649 z1650 z1651 z1652 z1653 z1654 k1655 k1656 k1657 l1658 z1659 l1660 l1661 l1662 l1663 l1664 l1665 l1666 l1667 =>
   .auto 2 <|
   .test (0 + k1628 ≤ List.length l1660)
    (fun h0 =>
    .test (0 + k1629 ≤ List.length l1661)
     (fun h1 =>
     .test (0 + k1630 ≤ List.length l1662)
      (fun h2 =>
      .test (0 + k1647 ≤ List.length l1663)
       (fun h3 =>
       .test (0 + k1649 ≤ List.length l1664)
        (fun h4 =>
        .test (0 + k1655 ≤ List.length l1665)
         (fun h5 =>
         .test (0 + k1656 ≤ List.length l1666)
          (fun h6 =>
          .test (0 + k1657 ≤ List.length l1667)
           (fun h7 =>
           .ask E16 (F16_ok (z1626) (z1627) (List.take k1628 l1660) (List.take k1629 l1661) (List.take k1630 l1662) (b1631) (z1632) (z1633) (z1634) (z1635) (z1636) (z1637) (z1638) (z1639) (z1640) (z1641) (z1642) (z1643) (z1644) (z1645) (z1646) (List.take k1647 l1663) (b1648) (List.take k1649 l1664) (z1650) (z1651) (z1652) (z1653) (z1654) (List.take k1655 l1665) (List.take k1656 l1666) (List.take k1657 l1667) (w64 (↑(BitVec.toNat (BitVec.ofInt (IntKind.bits IntKind.i64) z1 &&& BitVec.ofInt (IntKind.bits IntKind.i64) 63)) : Int))) fun (r : A16) => match r with
           | .a0 b2177 k2178 l2179 =>
            .auto 2 <|
            .known (decide_eq_true h0) <|
            .known (decide_eq_true h1) <|
            .known (decide_eq_true h2) <|
            .known (decide_eq_true h3) <|
            .known (decide_eq_true h4) <|
            .known (decide_eq_true h5) <|
            .known (decide_eq_true h6) <|
            .known (decide_eq_true h7) <|
            .ask E17 (F17_ok (z1626) (z1627) (List.take k1628 l1660) (List.take k1629 l1661) (List.take k1630 l1662) (b1631) (z1632) (z1633) (z1634) (z1635) (z1636) (z1637) (z1638) (z1639) (z1640) (z1641) (z1642) (z1643) (z1644) (z1645) (z1646) (List.take k1647 l1663) (b1648) (List.take k1649 l1664) (z1650) (z1651) (z1652) (z1653) (z1654) (List.take k1655 l1665) (List.take k1656 l1666) (List.take k1657 l1667)) fun (r : A17) => match r with
            | .a0 b3142 =>
             .testB (b3142)
              (fun h8 =>
              .auto 2 <|
              .test (0 + k2178 ≤ List.length l2179)
               (fun h9 =>
               .ask E18 (F18_ok (b2177) (List.take k2178 l2179)) fun (r : A18) => match r with
               | .a0 b3163 =>
                .auto 1 <|
                .testB (b3163)
                 (fun h10 =>
                 .auto 5 <|
                 .test ((↑k2178 : Int) > 0)
                  (fun h11 =>
                  .auto 4 <|
                  .testB (z1626 == 3)
                   (fun h12 =>
                   .auto 5 <|
                   .ask E19 (F19_ok) fun (r : A19) => match r with
                   | .a0 b3177 =>
                    .auto 1 <|
                    .ret (A5.a0 (b3177))
                   )
                   (fun h12 =>
                   .auto 5 <|
                   .testB (b2177)
                    (fun h13 =>
                    .ask E19 (F19_ok) fun (r : A19) => match r with
                    | .a0 b3179 =>
                     .auto 1 <|
                     .ret (A5.a0 (b3179))
                    )
                    (fun _ => .fail) -- none
                   )
                  )
                  (fun _ => .fail) -- none
                 )
                 (fun _ => .fail) -- none
               )
               (fun _ => .fail) -- none
              )
              (fun _ => .fail) -- none
           )
           (fun _ => .fail) -- none
          )
          (fun _ => .fail) -- none
         )
         (fun _ => .fail) -- none
        )
        (fun _ => .fail) -- none
       )
       (fun _ => .fail) -- none
      )
      (fun _ => .fail) -- none
     )
     (fun _ => .fail) -- none
    )
    (fun _ => .fail) -- none
noncomputable def F5 (l0 : List (List V)) (z1 : Int) : Option A5 := (D5 l0 z1).ev some
theorem F5_ok (l0 : List (List V)) (z1 : Int) : ∀ b, F5 l0 z1 = some b → UU 5 ([V.list 1 l0, i64 z1]) ([]) = some (A5.out b) :=
  fn_ok (E := E5) (L := notIn []) rfl rfl (fun x => by kernel_rfl)
/-! ## F31 -/
noncomputable abbrev B31 : Code := (Try.f31.body).getD .skip
inductive N31_0 where
  | s0 (l3241 : List (List V)) (l3242 : List (List V)) (z3243 : Int)
  | e0
  | e1
@[reducible] def N31_0.out : N31_0 → VX × S
  | .s0 l3241 l3242 z3243 => (VX.normal, { T := V.list 2 l3241 :: V.list 2 l3242 :: U :: U :: U :: i64 z3243 :: un 20 [], σ := [] })
  | .e0 => (VX.ret, { T := un 4 (vb false :: un 21 []), σ := [] })
  | .e1 => (VX.exit 0, { T := un 26 [], σ := [] })
def N31_0.ex (g : N31_0 → Prop) : Prop := (∃ (l3241 : List (List V)) (l3242 : List (List V)) (z3243 : Int), g (.s0 l3241 l3242 z3243)) ∨ g .e0 ∨ g .e1
theorem N31_0.ok (g : N31_0 → Prop) : N31_0.ex g ↔ ∃ b, g b := ⟨fun h => match h with
  | .inl ⟨_, _, _, h⟩ => ⟨_, h⟩
  | .inr (.inl h) => ⟨_, h⟩
  | .inr (.inr (h)) => ⟨_, h⟩, fun ⟨b, h⟩ => match b, h with
  | .s0 _ _ _, h => .inl ⟨_, _, _, h⟩
  | .e0, h => .inr (.inl h)
  | .e1, h => .inr (.inr (h))⟩
abbrev E31_0 : Ent (VX × S) := ⟨N31_0, N31_0.out, N31_0.ex, N31_0.ok⟩
noncomputable def D31_0 (l3241 : List (List V)) (l3242 : List (List V)) (z3243 : Int) : PT N31_0 :=
  .test (z3243 < (↑(List.length l3241) : Int))
   (fun h0 =>
   .test (0 ≤ z3243)
    (fun h1 =>
    .look RW26 (l3241[Int.toNat z3243]?) fun e3244 =>
    .known (decide_eq_true h1) <|
    .look RW26 (l3242[Int.toNat z3243]?) fun e3245 =>
    .testB (!(e3244.c0 == e3245.c0 && (e3244.c1 == e3245.c1 && true)))
     (fun h2 =>
     .ret (N31_0.e0)
     )
     (fun h2 =>
     .ret (N31_0.s0 (l3241) (l3242) (w64 (z3243 + 1)))
     )
    )
    (fun _ => .fail) -- none
   )
   (fun h0 =>
   .ret (N31_0.e1)
   )
noncomputable def S31_0 : N31_0 → PT N31_0
  | .s0 l3241 l3242 z3243 => D31_0 l3241 l3242 z3243
  | _ => .fail
def N31_0.off : N31_0 → Bool
  | .s0 _ _ _ => false
  | _ => true
noncomputable def L31_0 (n : Nat) (b : N31_0) : Option N31_0 := PT.loop (S31_0) N31_0.off n b
theorem L31_0_ok : ∀ (n : Nat) (b : N31_0), N31_0.off b = false → ∀ c, L31_0 n b = some c → loopP Try.prog X CC 31 (0) 18446744073709551616 B31 0 n (E31_0.out b).2 = some (E31_0.out c) :=
  loop_ok (E := E31_0) (step := S31_0) (L := notIn []) (fun b hb => by cases b <;> first | (cases hb; done) | (intro x; kernel_rfl)) (fun b => by cases b <;> rfl)
noncomputable def N31_0.nx (n : Nat) (c : N31_0) : Option N31_0 := match N31_0.off c with
  | true => some c
  | false => L31_0 n c
theorem L31_0_s0 (n : Nat) (l3241 : List (List V)) (l3242 : List (List V)) (z3243 : Int) : L31_0 (n + 1) (.s0 l3241 l3242 z3243) = (D31_0 l3241 l3242 z3243).ev (N31_0.nx n) := rfl
theorem N31_0.nx_s0 (n : Nat) (l3241 : List (List V)) (l3242 : List (List V)) (z3243 : Int) : N31_0.nx n (.s0 l3241 l3242 z3243) = L31_0 n (.s0 l3241 l3242 z3243) := rfl
theorem N31_0.nx_e0 (n : Nat) : N31_0.nx n (.e0) = some (.e0) := rfl
theorem N31_0.nx_e1 (n : Nat) : N31_0.nx n (.e1) = some (.e1) := rfl
noncomputable def D31 (l3234 : List (List V)) (l3235 : List (List V)) : PT A31 :=
  .testB ((↑(List.length l3234) : Int) != (↑(List.length l3235) : Int))
   (fun h0 =>
   .ret (A31.a0 (false))
   )
   (fun h0 =>
   .cut E31_0 (L31_0_ok 18446744073709551616 (.s0 (l3234) (l3235) (0)) rfl) fun (r : N31_0) => match r with
   | .e0 =>
    .ret (A31.a0 (false))
   | .e1 =>
    .ret (A31.a0 (true))
   | _ => .fail
   )
noncomputable def F31 (l3234 : List (List V)) (l3235 : List (List V)) : Option A31 := (D31 l3234 l3235).ev some
theorem F31_ok (l3234 : List (List V)) (l3235 : List (List V)) : ∀ b, F31 l3234 l3235 = some b → UU 31 ([V.list 2 l3234, V.list 2 l3235]) ([]) = some (A31.out b) :=
  fn_ok (E := E31) (L := notIn []) rfl rfl (fun x => by kernel_rfl)
/-! ## F20 -/
noncomputable def D20 (b3230 : Bool) (l3231 : List (List V)) (b3232 : Bool) (l3233 : List (List V)) : PT A20 :=
  .auto 2 <|
  .testB (b3230 == b3232)
   (fun h0 =>
   .auto 6 <|
   .ask E31 (F31_ok (l3231) (l3233)) fun (r : A31) => match r with
   | .a0 b3246 =>
    .auto 1 <|
    .ret (A20.a0 (b3246))
   )
   (fun h0 =>
   .auto 5 <|
   .ret (A20.a0 (false))
   )
noncomputable def F20 (b3230 : Bool) (l3231 : List (List V)) (b3232 : Bool) (l3233 : List (List V)) : Option A20 := (D20 b3230 l3231 b3232 l3233).ev some
theorem F20_ok (b3230 : Bool) (l3231 : List (List V)) (b3232 : Bool) (l3233 : List (List V)) : ∀ b, F20 b3230 l3231 b3232 l3233 = some b → UU 20 ([V.agg [vb b3230, V.list 2 l3231], V.agg [vb b3232, V.list 2 l3233]]) ([]) = some (A20.out b) :=
  fn_ok (E := E20) (L := notIn []) rfl rfl (fun x => by kernel_rfl)
/-! ## F6 -/
noncomputable def D6 (l3180 : List (List V)) (z3181 : Int) : PT A6 :=
  .ask E15 (F15_ok (l3180) (0)) fun (r : A15) => match r with
  | .a0 z3182 z3183 k3184 k3185 k3186 b3187 z3188 z3189 z3190 z3191 z3192 z3193 z3194 z3195 z3196 z3197 z3198 z3199 z3200 z3201 z3202 k3203 b3204 k3205 z3206 z3207 z3208 z3209 z3210 k3211 k3212 k3213 l3214 z3215 l3216 l3217 l3218 l3219 l3220 l3221 l3222 l3223 =>
   .auto 2 <|
   .test (0 + k3184 ≤ List.length l3216)
    (fun h0 =>
    .test (0 + k3185 ≤ List.length l3217)
     (fun h1 =>
     .test (0 + k3186 ≤ List.length l3218)
      (fun h2 =>
      .test (0 + k3203 ≤ List.length l3219)
       (fun h3 =>
       .test (0 + k3205 ≤ List.length l3220)
        (fun h4 =>
        .test (0 + k3211 ≤ List.length l3221)
         (fun h5 =>
         .test (0 + k3212 ≤ List.length l3222)
          (fun h6 =>
          .test (0 + k3213 ≤ List.length l3223)
           (fun h7 =>
           .ask E16 (F16_ok (z3182) (z3183) (List.take k3184 l3216) (List.take k3185 l3217) (List.take k3186 l3218) (b3187) (z3188) (z3189) (z3190) (z3191) (z3192) (z3193) (z3194) (z3195) (z3196) (z3197) (z3198) (z3199) (z3200) (z3201) (z3202) (List.take k3203 l3219) (b3204) (List.take k3205 l3220) (z3206) (z3207) (z3208) (z3209) (z3210) (List.take k3211 l3221) (List.take k3212 l3222) (List.take k3213 l3223) (w64 (-1 - w64 (↑(BitVec.toNat (BitVec.ofInt (IntKind.bits IntKind.i64) z3181 &&& BitVec.ofInt (IntKind.bits IntKind.i64) 1023)) : Int)))) fun (r : A16) => match r with
           | .a0 b3224 k3225 l3226 =>
            .auto 1 <|
            .known (decide_eq_true h0) <|
            .known (decide_eq_true h1) <|
            .known (decide_eq_true h2) <|
            .known (decide_eq_true h3) <|
            .known (decide_eq_true h4) <|
            .known (decide_eq_true h5) <|
            .known (decide_eq_true h6) <|
            .known (decide_eq_true h7) <|
            .ask E16 (F16_ok (z3182) (z3183) (List.take k3184 l3216) (List.take k3185 l3217) (List.take k3186 l3218) (b3187) (z3188) (z3189) (z3190) (z3191) (z3192) (z3193) (z3194) (z3195) (z3196) (z3197) (z3198) (z3199) (z3200) (z3201) (z3202) (List.take k3203 l3219) (b3204) (List.take k3205 l3220) (z3206) (z3207) (z3208) (z3209) (z3210) (List.take k3211 l3221) (List.take k3212 l3222) (List.take k3213 l3223) (-1)) fun (r : A16) => match r with
            | .a0 b3227 k3228 l3229 =>
             .test (0 + k3225 ≤ List.length l3226)
              (fun h8 =>
              .test (0 + k3228 ≤ List.length l3229)
               (fun h9 =>
               .ask E20 (F20_ok (b3224) (List.take k3225 l3226) (b3227) (List.take k3228 l3229)) fun (r : A20) => match r with
               | .a0 b3248 =>
                .testB (b3248)
                 (fun h10 =>
                 .auto 4 <|
                 .known (decide_eq_true h0) <|
                 .known (decide_eq_true h1) <|
                 .known (decide_eq_true h2) <|
                 .known (decide_eq_true h3) <|
                 .known (decide_eq_true h4) <|
                 .known (decide_eq_true h5) <|
                 .known (decide_eq_true h6) <|
                 .known (decide_eq_true h7) <|
                 .ask E16 (F16_ok (z3182) (z3183) (List.take k3184 l3216) (List.take k3185 l3217) (List.take k3186 l3218) (b3187) (z3188) (z3189) (z3190) (z3191) (z3192) (z3193) (z3194) (z3195) (z3196) (z3197) (z3198) (z3199) (z3200) (z3201) (z3202) (List.take k3203 l3219) (b3204) (List.take k3205 l3220) (z3206) (z3207) (z3208) (z3209) (z3210) (List.take k3211 l3221) (List.take k3212 l3222) (List.take k3213 l3223) (w64 (60 + w64 (↑(BitVec.toNat (BitVec.ofInt (IntKind.bits IntKind.i64) z3181 &&& BitVec.ofInt (IntKind.bits IntKind.i64) 1023)) : Int)))) fun (r : A16) => match r with
                 | .a0 b3249 k3250 l3251 =>
                  .auto 3 <|
                  .known (decide_eq_true h0) <|
                  .known (decide_eq_true h1) <|
                  .known (decide_eq_true h2) <|
                  .known (decide_eq_true h3) <|
                  .known (decide_eq_true h4) <|
                  .known (decide_eq_true h5) <|
                  .known (decide_eq_true h6) <|
                  .known (decide_eq_true h7) <|
                  .ask E16 (F16_ok (z3182) (z3183) (List.take k3184 l3216) (List.take k3185 l3217) (List.take k3186 l3218) (b3187) (z3188) (z3189) (z3190) (z3191) (z3192) (z3193) (z3194) (z3195) (z3196) (z3197) (z3198) (z3199) (z3200) (z3201) (z3202) (List.take k3203 l3219) (b3204) (List.take k3205 l3220) (z3206) (z3207) (z3208) (z3209) (z3210) (List.take k3211 l3221) (List.take k3212 l3222) (List.take k3213 l3223) (60)) fun (r : A16) => match r with
                  | .a0 b3252 k3253 l3254 =>
                   .auto 1 <|
                   .test (0 + k3250 ≤ List.length l3251)
                    (fun h11 =>
                    .test (0 + k3253 ≤ List.length l3254)
                     (fun h12 =>
                     .ask E20 (F20_ok (b3249) (List.take k3250 l3251) (b3252) (List.take k3253 l3254)) fun (r : A20) => match r with
                     | .a0 b3255 =>
                      .auto 1 <|
                      .testB (b3255)
                       (fun h13 =>
                       .ask E19 (F19_ok) fun (r : A19) => match r with
                       | .a0 b3256 =>
                        .auto 1 <|
                        .ret (A6.a0 (b3256))
                       )
                       (fun _ => .fail) -- none
                     )
                     (fun _ => .fail) -- none
                    )
                    (fun _ => .fail) -- none
                 )
                 (fun _ => .fail) -- none
               )
               (fun _ => .fail) -- none
              )
              (fun _ => .fail) -- none
           )
           (fun _ => .fail) -- none
          )
          (fun _ => .fail) -- none
         )
         (fun _ => .fail) -- none
        )
        (fun _ => .fail) -- none
       )
       (fun _ => .fail) -- none
      )
      (fun _ => .fail) -- none
     )
     (fun _ => .fail) -- none
    )
    (fun _ => .fail) -- none
noncomputable def F6 (l3180 : List (List V)) (z3181 : Int) : Option A6 := (D6 l3180 z3181).ev some
theorem F6_ok (l3180 : List (List V)) (z3181 : Int) : ∀ b, F6 l3180 z3181 = some b → UU 6 ([V.list 1 l3180, i64 z3181]) ([]) = some (A6.out b) :=
  fn_ok (E := E6) (L := notIn []) rfl rfl (fun x => by kernel_rfl)
/-! ## F96 -/
noncomputable def D96 (z3385 : Int) (z3386 : Int) (z3387 : Int) (z3388 : Int) : PT A96 :=
  .ask E79 (F79_ok (z3385) (z3386)) fun (r : A79) => match r with
  | .a0 z3389 =>
   .ask E79 (F79_ok (z3387) (z3388)) fun (r : A79) => match r with
   | .a0 z3390 =>
    .tot O95 (F95_ok (z3389) (z3390)) fun z3391 =>
    .ret (A96.a0 (z3391))
noncomputable def F96 (z3385 : Int) (z3386 : Int) (z3387 : Int) (z3388 : Int) : Option A96 := (D96 z3385 z3386 z3387 z3388).ev some
theorem F96_ok (z3385 : Int) (z3386 : Int) (z3387 : Int) (z3388 : Int) : ∀ b, F96 z3385 z3386 z3387 z3388 = some b → UU 96 ([i64 z3385, i64 z3386, i64 z3387, i64 z3388]) ([]) = some (A96.out b) :=
  fn_ok (E := E96) (L := notIn []) rfl rfl (fun x => by kernel_rfl)
/-! ## F94 -/
noncomputable def D94 (z3395 : Int) : PT (Int) :=
  .tot O118 (F118_ok (z3395) (-536870912) (536870912)) fun z3396 =>
  .ret (z3396)
@[reducible] def O94 (z3397 : Int) : V × Store := (i64 z3397, [])
noncomputable def F94 (z3395 : Int) : Int := (D94 z3395).evT
theorem F94_ok (z3395 : Int) : UU 94 ([i64 z3395]) ([]) = some (O94 (F94 z3395)) :=
  fnT_ok (out := O94) (L := notIn []) rfl rfl (fun x => by kernel_rfl) (by simp [D94, PT.isT])
/-! ## F60 -/
noncomputable def D60 (z3377 : Int) (z3378 : Int) (z3379 : Int) (z3380 : Int) (z3381 : Int) (z3382 : Int) (z3383 : Int) (z3384 : Int) : PT A60 :=
  .auto 4 <|
  .ask E96 (F96_ok (z3377) (z3383) (z3379) (z3384)) fun (r : A96) => match r with
  | .a0 z3393 =>
   .auto 1 <|
   .tot O95 (F95_ok (z3393) (z3381)) fun z3394 =>
   .tot O94 (F94_ok (z3394)) fun z3398 =>
   .auto 4 <|
   .ask E96 (F96_ok (z3378) (z3383) (z3380) (z3384)) fun (r : A96) => match r with
   | .a0 z3399 =>
    .auto 1 <|
    .tot O95 (F95_ok (z3399) (z3382)) fun z3400 =>
    .tot O94 (F94_ok (z3400)) fun z3401 =>
    .auto 1 <|
    .ret (A60.a0 (z3398) (z3401))
noncomputable def F60 (z3377 : Int) (z3378 : Int) (z3379 : Int) (z3380 : Int) (z3381 : Int) (z3382 : Int) (z3383 : Int) (z3384 : Int) : Option A60 := (D60 z3377 z3378 z3379 z3380 z3381 z3382 z3383 z3384).ev some
theorem F60_ok (z3377 : Int) (z3378 : Int) (z3379 : Int) (z3380 : Int) (z3381 : Int) (z3382 : Int) (z3383 : Int) (z3384 : Int) : ∀ b, F60 z3377 z3378 z3379 z3380 z3381 z3382 z3383 z3384 = some b → UU 60 ([V.agg [i64 z3377, i64 z3378, i64 z3379, i64 z3380, i64 z3381, i64 z3382], V.agg [i64 z3383, i64 z3384]]) ([]) = some (A60.out b) :=
  fn_ok (E := E60) (L := notIn []) rfl rfl (fun x => by kernel_rfl)
/-! ## F23 -/
noncomputable abbrev B23 : Code := (Try.f23.body).getD .skip
inductive N23_0 where
  | s0 (k3407 : Nat) (z3408 : Int) (z3409 : Int) (z3410 : Int) (z3411 : Int) (z3412 : Int) (z3413 : Int) (z3414 : Int) (z3415 : Int) (b3416 : Bool) (l3417 : List (List V))
  | e0 (b3418 : Bool) (k3419 : Nat) (l3420 : List (List V))
@[reducible] def N23_0.out : N23_0 → VX × S
  | .s0 k3407 z3408 z3409 z3410 z3411 z3412 z3413 z3414 z3415 b3416 l3417 => (VX.normal, { T := U :: U :: V.ptr 0 0 0 :: U :: V.ptr 1 0 0 :: V.ptr 2 0 0 :: un 5 (V.hs 3 0 k3407 :: i64 z3408 :: i64 z3409 :: un 13 []), σ := [Ob.cells true false 6 [[i64 z3410, i64 z3411, i64 z3412, i64 z3413, i64 z3414, i64 z3415]], Ob.cells true false 2 [[vb false, V.hs 4 0 0]], Ob.cells true false 2 [[vb b3416, V.hs 3 0 k3407]], Ob.cells true true 2 l3417, Ob.cells true true 2 []] })
  | .e0 b3418 k3419 l3420 => (VX.exit 0, { T := un 4 (V.ptr 0 0 0 :: V.ptr 1 0 0 :: un 21 []), σ := [Ob.cells true false 2 [[vb false, V.hs 2 0 0]], Ob.cells true false 2 [[vb b3418, V.hs 3 0 k3419]], Ob.cells true true 2 [], Ob.cells true true 2 l3420] })
def N23_0.ex (g : N23_0 → Prop) : Prop := (∃ (k3407 : Nat) (z3408 : Int) (z3409 : Int) (z3410 : Int) (z3411 : Int) (z3412 : Int) (z3413 : Int) (z3414 : Int) (z3415 : Int) (b3416 : Bool) (l3417 : List (List V)), g (.s0 k3407 z3408 z3409 z3410 z3411 z3412 z3413 z3414 z3415 b3416 l3417)) ∨ (∃ (b3418 : Bool) (k3419 : Nat) (l3420 : List (List V)), g (.e0 b3418 k3419 l3420))
theorem N23_0.ok (g : N23_0 → Prop) : N23_0.ex g ↔ ∃ b, g b := ⟨fun h => match h with
  | .inl ⟨_, _, _, _, _, _, _, _, _, _, _, h⟩ => ⟨_, h⟩
  | .inr (⟨_, _, _, h⟩) => ⟨_, h⟩, fun ⟨b, h⟩ => match b, h with
  | .s0 _ _ _ _ _ _ _ _ _ _ _, h => .inl ⟨_, _, _, _, _, _, _, _, _, _, _, h⟩
  | .e0 _ _ _, h => .inr (⟨_, _, _, h⟩)⟩
abbrev E23_0 : Ent (VX × S) := ⟨N23_0, N23_0.out, N23_0.ex, N23_0.ok⟩
noncomputable def D23_0 (k3407 : Nat) (z3408 : Int) (z3409 : Int) (z3410 : Int) (z3411 : Int) (z3412 : Int) (z3413 : Int) (z3414 : Int) (z3415 : Int) (b3416 : Bool) (l3417 : List (List V)) : PT N23_0 :=
  .test (z3409 < z3408)
   (fun h0 =>
   .test (0 ≤ z3409 ∧ z3409 < (↑k3407 : Int))
    (fun h1 =>
    .look RW26 (l3417[(0 : Nat) + Int.toNat z3409]?) fun e3430 =>
    .auto 4 <|
    .ask E60 (F60_ok (z3410) (z3411) (z3412) (z3413) (z3414) (z3415) (e3430.c0) (e3430.c1)) fun (r : A60) => match r with
    | .a0 z3431 z3432 =>
     .known (decide_eq_true h1) <|
     .look RW26 (l3417[(0 : Nat) + Int.toNat z3409]?) fun e3433 =>
     .ret (N23_0.s0 (k3407) (z3408) (w64 (z3409 + 1)) (z3410) (z3411) (z3412) (z3413) (z3414) (z3415) (b3416) (List.set l3417 (0 + Int.toNat z3409) [i64 z3431, i64 z3432]))
    )
    (fun _ => .fail) -- none
   )
   (fun h0 =>
   .ret (N23_0.e0 (b3416) (k3407) (l3417))
   )
noncomputable def S23_0 : N23_0 → PT N23_0
  | .s0 k3407 z3408 z3409 z3410 z3411 z3412 z3413 z3414 z3415 b3416 l3417 => D23_0 k3407 z3408 z3409 z3410 z3411 z3412 z3413 z3414 z3415 b3416 l3417
  | _ => .fail
def N23_0.off : N23_0 → Bool
  | .s0 _ _ _ _ _ _ _ _ _ _ _ => false
  | _ => true
noncomputable def L23_0 (n : Nat) (b : N23_0) : Option N23_0 := PT.loop (S23_0) N23_0.off n b
theorem L23_0_ok : ∀ (n : Nat) (b : N23_0), N23_0.off b = false → ∀ c, L23_0 n b = some c → loopP Try.prog X CC 23 (0) 18446744073709551616 B23 0 n (E23_0.out b).2 = some (E23_0.out c) :=
  loop_ok (E := E23_0) (step := S23_0) (L := notIn []) (fun b hb => by cases b <;> first | (cases hb; done) | (intro x; kernel_rfl)) (fun b => by cases b <;> rfl)
noncomputable def N23_0.nx (n : Nat) (c : N23_0) : Option N23_0 := match N23_0.off c with
  | true => some c
  | false => L23_0 n c
theorem L23_0_s0 (n : Nat) (k3407 : Nat) (z3408 : Int) (z3409 : Int) (z3410 : Int) (z3411 : Int) (z3412 : Int) (z3413 : Int) (z3414 : Int) (z3415 : Int) (b3416 : Bool) (l3417 : List (List V)) : L23_0 (n + 1) (.s0 k3407 z3408 z3409 z3410 z3411 z3412 z3413 z3414 z3415 b3416 l3417) = (D23_0 k3407 z3408 z3409 z3410 z3411 z3412 z3413 z3414 z3415 b3416 l3417).ev (N23_0.nx n) := rfl
theorem N23_0.nx_s0 (n : Nat) (k3407 : Nat) (z3408 : Int) (z3409 : Int) (z3410 : Int) (z3411 : Int) (z3412 : Int) (z3413 : Int) (z3414 : Int) (z3415 : Int) (b3416 : Bool) (l3417 : List (List V)) : N23_0.nx n (.s0 k3407 z3408 z3409 z3410 z3411 z3412 z3413 z3414 z3415 b3416 l3417) = L23_0 n (.s0 k3407 z3408 z3409 z3410 z3411 z3412 z3413 z3414 z3415 b3416 l3417) := rfl
theorem N23_0.nx_e0 (n : Nat) (b3418 : Bool) (k3419 : Nat) (l3420 : List (List V)) : N23_0.nx n (.e0 b3418 k3419 l3420) = some (.e0 b3418 k3419 l3420) := rfl
noncomputable def D23 (z3355 : Int) (z3356 : Int) (z3357 : Int) (z3358 : Int) (z3359 : Int) (z3360 : Int) (b3361 : Bool) (l3362 : List (List V)) : PT A23 :=
  .auto 1 <|
  .ask E59 (F59_ok (b3361) (l3362)) fun (r : A59) => match r with
  | .a0 b3427 k3428 l3429 =>
   .auto 2 <|
   .cut E23_0 (L23_0_ok 18446744073709551616 (.s0 (k3428) ((↑k3428 : Int)) (0) (z3355) (z3356) (z3357) (z3358) (z3359) (z3360) (b3427) (l3429)) rfl) fun (r : N23_0) => match r with
   | .e0 b3434 k3435 l3436 =>
    .auto 2 <|
    .ret (A23.a0 (b3434) (k3435) (l3436))
   | _ => .fail
noncomputable def F23 (z3355 : Int) (z3356 : Int) (z3357 : Int) (z3358 : Int) (z3359 : Int) (z3360 : Int) (b3361 : Bool) (l3362 : List (List V)) : Option A23 := (D23 z3355 z3356 z3357 z3358 z3359 z3360 b3361 l3362).ev some
theorem F23_ok (z3355 : Int) (z3356 : Int) (z3357 : Int) (z3358 : Int) (z3359 : Int) (z3360 : Int) (b3361 : Bool) (l3362 : List (List V)) : ∀ b, F23 z3355 z3356 z3357 z3358 z3359 z3360 b3361 l3362 = some b → UU 23 ([V.agg [i64 z3355, i64 z3356, i64 z3357, i64 z3358, i64 z3359, i64 z3360], V.agg [vb b3361, V.list 2 l3362]]) ([]) = some (A23.out b) :=
  fn_ok (E := E23) (L := notIn []) rfl rfl (fun x => by kernel_rfl)
/-! ## F27 -/
noncomputable def D27 (b3444 : Bool) (l3445 : List (List V)) (b3446 : Bool) (l3447 : List (List V)) : PT (Bool) :=
  .auto 2 <|
  .testB ((↑(List.length l3445) : Int) == (↑(List.length l3447) : Int))
   (fun h0 =>
   .auto 7 <|
   .ret (b3444 == b3446)
   )
   (fun h0 =>
   .auto 5 <|
   .ret (false)
   )
@[reducible] def O27 (b3448 : Bool) : V × Store := (vb b3448, [])
noncomputable def F27 (b3444 : Bool) (l3445 : List (List V)) (b3446 : Bool) (l3447 : List (List V)) : Bool := (D27 b3444 l3445 b3446 l3447).evT
theorem F27_ok (b3444 : Bool) (l3445 : List (List V)) (b3446 : Bool) (l3447 : List (List V)) : UU 27 ([V.agg [vb b3444, V.list 2 l3445], V.agg [vb b3446, V.list 2 l3447]]) ([]) = some (O27 (F27 b3444 l3445 b3446 l3447)) :=
  fnT_ok (out := O27) (L := notIn []) rfl rfl (fun x => by kernel_rfl) (by simp [D27, PT.isT])
/-! ## F119 -/
noncomputable def D119 (z3470 : Int) (z3471 : Int) (z3472 : Int) : PT (Int) :=
  .test (z3470 < z3471)
   (fun h0 =>
   .ret (z3471)
   )
   (fun h0 =>
   .test (z3470 > z3472)
    (fun h1 =>
    .ret (z3472)
    )
    (fun h1 =>
    .ret (z3470)
    )
   )
@[reducible] def O119 (z3473 : Int) : V × Store := (i64 z3473, [])
noncomputable def F119 (z3470 : Int) (z3471 : Int) (z3472 : Int) : Int := (D119 z3470 z3471 z3472).evT
theorem F119_ok (z3470 : Int) (z3471 : Int) (z3472 : Int) : UU 119 ([i64 z3470, i64 z3471, i64 z3472]) ([]) = some (O119 (F119 z3470 z3471 z3472)) :=
  fnT_ok (out := O119) (L := notIn []) rfl rfl (fun x => by kernel_rfl) (by simp [D119, PT.isT])
/-! ## F100 -/
noncomputable def D100 (z3469 : Int) : PT (Int) :=
  .tot O119 (F119_ok (z3469) (-1099511627776) (1099511627776)) fun z3474 =>
  .ret (z3474)
@[reducible] def O100 (z3475 : Int) : V × Store := (i64 z3475, [])
noncomputable def F100 (z3469 : Int) : Int := (D100 z3469).evT
theorem F100_ok (z3469 : Int) : UU 100 ([i64 z3469]) ([]) = some (O100 (F100 z3469)) :=
  fnT_ok (out := O100) (L := notIn []) rfl rfl (fun x => by kernel_rfl) (by simp [D100, PT.isT])
/-! ## F99 -/
noncomputable def D99 (z3477 : Int) (z3478 : Int) : PT (Int) :=
  .tot O100 (F100_ok (z3477)) fun z3479 =>
  .tot O100 (F100_ok (z3478)) fun z3480 =>
  .tot O100 (F100_ok (w64 (z3479 + z3480))) fun z3481 =>
  .ret (z3481)
@[reducible] def O99 (z3482 : Int) : V × Store := (i64 z3482, [])
noncomputable def F99 (z3477 : Int) (z3478 : Int) : Int := (D99 z3477 z3478).evT
theorem F99_ok (z3477 : Int) (z3478 : Int) : UU 99 ([i64 z3477, i64 z3478]) ([]) = some (O99 (F99 z3477 z3478)) :=
  fnT_ok (out := O99) (L := notIn []) rfl rfl (fun x => by kernel_rfl) (by simp [D99, PT.isT])
/-! ## F112 -/
noncomputable def D112 (z3487 : Int) : PT A112 :=
  .test (z3487 < 0)
   (fun h0 =>
   .ret (A112.a0 (IntKind.wrap IntKind.u64 (w64 (0 - z3487))) (true))
   )
   (fun h0 =>
   .ret (A112.a0 (IntKind.wrap IntKind.u64 z3487) (false))
   )
noncomputable def F112 (z3487 : Int) : Option A112 := (D112 z3487).ev some
theorem F112_ok (z3487 : Int) : ∀ b, F112 z3487 = some b → UU 112 ([i64 z3487]) ([]) = some (A112.out b) :=
  fn_ok (E := E112) (L := notIn []) rfl rfl (fun x => by kernel_rfl)
/-! ## F125 -/
noncomputable def D125 (z3508 : Int) : PT A125 :=
  .test (z3508 ≥ 4294967296)
   (fun h0 =>
   .auto 1 <|
   .test (Int.fdiv z3508 4294967296 ≥ 65536)
    (fun h1 =>
    .auto 1 <|
    .test (Int.fdiv (Int.fdiv z3508 4294967296) 65536 ≥ 256)
     (fun h2 =>
     .auto 1 <|
     .test (0 ≤ IntKind.wrap IntKind.u8 (Int.fdiv (Int.fdiv (Int.fdiv z3508 4294967296) 65536) 256) ∧ Int.toNat (IntKind.wrap IntKind.u8 (Int.fdiv (Int.fdiv (Int.fdiv z3508 4294967296) 65536) 256)) < 256)
      (fun h3 =>
      .ret (A125.a0 (w64 (56 + w64 (byteAt Y0 (Int.toNat (IntKind.wrap IntKind.u8 (Int.fdiv (Int.fdiv (Int.fdiv z3508 4294967296) 65536) 256)))))))
      )
      (fun _ => .fail) -- none
     )
     (fun h2 =>
     .test (0 ≤ IntKind.wrap IntKind.u8 (Int.fdiv (Int.fdiv z3508 4294967296) 65536) ∧ Int.toNat (IntKind.wrap IntKind.u8 (Int.fdiv (Int.fdiv z3508 4294967296) 65536)) < 256)
      (fun h3 =>
      .ret (A125.a0 (w64 (48 + w64 (byteAt Y0 (Int.toNat (IntKind.wrap IntKind.u8 (Int.fdiv (Int.fdiv z3508 4294967296) 65536)))))))
      )
      (fun _ => .fail) -- none
     )
    )
    (fun h1 =>
    .test (Int.fdiv z3508 4294967296 ≥ 256)
     (fun h2 =>
     .auto 1 <|
     .test (0 ≤ IntKind.wrap IntKind.u8 (Int.fdiv (Int.fdiv z3508 4294967296) 256) ∧ Int.toNat (IntKind.wrap IntKind.u8 (Int.fdiv (Int.fdiv z3508 4294967296) 256)) < 256)
      (fun h3 =>
      .ret (A125.a0 (w64 (40 + w64 (byteAt Y0 (Int.toNat (IntKind.wrap IntKind.u8 (Int.fdiv (Int.fdiv z3508 4294967296) 256)))))))
      )
      (fun _ => .fail) -- none
     )
     (fun h2 =>
     .test (0 ≤ IntKind.wrap IntKind.u8 (Int.fdiv z3508 4294967296) ∧ Int.toNat (IntKind.wrap IntKind.u8 (Int.fdiv z3508 4294967296)) < 256)
      (fun h3 =>
      .ret (A125.a0 (w64 (32 + w64 (byteAt Y0 (Int.toNat (IntKind.wrap IntKind.u8 (Int.fdiv z3508 4294967296)))))))
      )
      (fun _ => .fail) -- none
     )
    )
   )
   (fun h0 =>
   .test (z3508 ≥ 65536)
    (fun h1 =>
    .auto 1 <|
    .test (Int.fdiv z3508 65536 ≥ 256)
     (fun h2 =>
     .auto 1 <|
     .test (0 ≤ IntKind.wrap IntKind.u8 (Int.fdiv (Int.fdiv z3508 65536) 256) ∧ Int.toNat (IntKind.wrap IntKind.u8 (Int.fdiv (Int.fdiv z3508 65536) 256)) < 256)
      (fun h3 =>
      .ret (A125.a0 (w64 (24 + w64 (byteAt Y0 (Int.toNat (IntKind.wrap IntKind.u8 (Int.fdiv (Int.fdiv z3508 65536) 256)))))))
      )
      (fun _ => .fail) -- none
     )
     (fun h2 =>
     .test (0 ≤ IntKind.wrap IntKind.u8 (Int.fdiv z3508 65536) ∧ Int.toNat (IntKind.wrap IntKind.u8 (Int.fdiv z3508 65536)) < 256)
      (fun h3 =>
      .ret (A125.a0 (w64 (16 + w64 (byteAt Y0 (Int.toNat (IntKind.wrap IntKind.u8 (Int.fdiv z3508 65536)))))))
      )
      (fun _ => .fail) -- none
     )
    )
    (fun h1 =>
    .test (z3508 ≥ 256)
     (fun h2 =>
     .auto 1 <|
     .test (0 ≤ IntKind.wrap IntKind.u8 (Int.fdiv z3508 256) ∧ Int.toNat (IntKind.wrap IntKind.u8 (Int.fdiv z3508 256)) < 256)
      (fun h3 =>
      .ret (A125.a0 (w64 (8 + w64 (byteAt Y0 (Int.toNat (IntKind.wrap IntKind.u8 (Int.fdiv z3508 256)))))))
      )
      (fun _ => .fail) -- none
     )
     (fun h2 =>
     .test (0 ≤ IntKind.wrap IntKind.u8 z3508 ∧ Int.toNat (IntKind.wrap IntKind.u8 z3508) < 256)
      (fun h3 =>
      .ret (A125.a0 (w64 (0 + w64 (byteAt Y0 (Int.toNat (IntKind.wrap IntKind.u8 z3508))))))
      )
      (fun _ => .fail) -- none
     )
    )
   )
noncomputable def F125 (z3508 : Int) : Option A125 := (D125 z3508).ev some
theorem F125_ok (z3508 : Int) : ∀ b, F125 z3508 = some b → UU 125 ([V.int IntKind.u64 z3508]) ([]) = some (A125.out b) :=
  fn_ok (E := E125) (L := notIn []) rfl rfl (fun x => by kernel_rfl)
/-! ## F124 -/
noncomputable def D124 (z3507 : Int) : PT A124 :=
  .ask E125 (F125_ok (z3507)) fun (r : A125) => match r with
  | .a0 z3511 =>
   .ret (A124.a0 (w64 (64 - z3511)))
noncomputable def F124 (z3507 : Int) : Option A124 := (D124 z3507).ev some
theorem F124_ok (z3507 : Int) : ∀ b, F124 z3507 = some b → UU 124 ([V.int IntKind.u64 z3507]) ([]) = some (A124.out b) :=
  fn_ok (E := E124) (L := notIn []) rfl rfl (fun x => by kernel_rfl)
end Go.Proofs.Ytifalphladcdcaa.H
