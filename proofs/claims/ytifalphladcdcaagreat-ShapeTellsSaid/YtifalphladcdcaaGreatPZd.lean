/- What the functions compute, and that they do so over the machine of plain values (printed by this session's program wip/vm/Walk.lean). No condition beyond those stated. -/
import Derived.Test.YtifalphladcdcaaGreatWk
import Derived.Test.YtifalphladcdcaaGreatPZc
set_option linter.unusedVariables false
set_option linter.unusedSimpArgs false
namespace Go.Proofs.YtifalphladcdcaaGreat.H
open Go Go.VM
set_option maxRecDepth 100000
/-! ## F65 -/
noncomputable def D65 (z3734 : Int) (z3735 : Int) : PT A65 :=
  .auto 2 <|
  .ask E125 (F125_ok (Int.fdiv z3734 2) (36195)) fun (r : A125) => match r with
  | .a0 z3736 =>
   .ask E125 (F125_ok (Int.fdiv z3735 2) (36195)) fun (r : A125) => match r with
   | .a0 z3737 =>
    .ask E123 (F123_ok (Int.fdiv z3734 2) (0)) fun (r : A123) => match r with
    | .a0 z3738 z3739 =>
     .ask E123 (F123_ok (Int.fdiv z3734 2) (z3737)) fun (r : A123) => match r with
     | .a0 z3740 z3741 =>
      .ask E123 (F123_ok (z3736) (Int.fdiv z3735 2)) fun (r : A123) => match r with
      | .a0 z3742 z3743 =>
       .ask E123 (F123_ok (0) (Int.fdiv z3735 2)) fun (r : A123) => match r with
       | .a0 z3744 z3745 =>
        .ask E123 (F123_ok (w64 (0 - z3736)) (Int.fdiv z3735 2)) fun (r : A123) => match r with
        | .a0 z3746 z3747 =>
         .ask E123 (F123_ok (w64 (0 - Int.fdiv z3734 2)) (z3737)) fun (r : A123) => match r with
         | .a0 z3748 z3749 =>
          .ask E123 (F123_ok (w64 (0 - Int.fdiv z3734 2)) (0)) fun (r : A123) => match r with
          | .a0 z3750 z3751 =>
           .ask E123 (F123_ok (w64 (0 - Int.fdiv z3734 2)) (w64 (0 - z3737))) fun (r : A123) => match r with
           | .a0 z3752 z3753 =>
            .ask E123 (F123_ok (w64 (0 - z3736)) (w64 (0 - Int.fdiv z3735 2))) fun (r : A123) => match r with
            | .a0 z3754 z3755 =>
             .ask E123 (F123_ok (0) (w64 (0 - Int.fdiv z3735 2))) fun (r : A123) => match r with
             | .a0 z3756 z3757 =>
              .ask E123 (F123_ok (z3736) (w64 (0 - Int.fdiv z3735 2))) fun (r : A123) => match r with
              | .a0 z3758 z3759 =>
               .ask E123 (F123_ok (Int.fdiv z3734 2) (w64 (0 - z3737))) fun (r : A123) => match r with
               | .a0 z3760 z3761 =>
                .ask E123 (F123_ok (Int.fdiv z3734 2) (0)) fun (r : A123) => match r with
                | .a0 z3762 z3763 =>
                 .auto 1 <|
                 .ret (A65.a0 (true) (13) ([[i64 z3738, i64 z3739], [i64 z3740, i64 z3741], [i64 z3742, i64 z3743], [i64 z3744, i64 z3745], [i64 z3746, i64 z3747], [i64 z3748, i64 z3749], [i64 z3750, i64 z3751], [i64 z3752, i64 z3753], [i64 z3754, i64 z3755], [i64 z3756, i64 z3757], [i64 z3758, i64 z3759], [i64 z3760, i64 z3761], [i64 z3762, i64 z3763]]))
noncomputable def F65 (z3734 : Int) (z3735 : Int) : Option A65 := (D65 z3734 z3735).ev some
theorem F65_ok (z3734 : Int) (z3735 : Int) : ∀ b, F65 z3734 z3735 = some b → UU 65 ([i64 z3734, i64 z3735]) ([]) = some (A65.out b) :=
  fn_ok (E := E65) (L := notIn []) rfl rfl (fun x => by kernel_rfl)
/-! ## F189 -/
noncomputable def D189 (z3793 : Int) : PT (Int) :=
  .auto 1 <|
  .test (Int.tmod z3793 23592960 < 0)
   (fun h0 =>
   .ret (w64 (Int.tmod z3793 23592960 + 23592960))
   )
   (fun h0 =>
   .ret (Int.tmod z3793 23592960)
   )
@[reducible] def O189 (z3794 : Int) : V × Store := (i64 z3794, [])
noncomputable def F189 (z3793 : Int) : Int := (D189 z3793).evT
theorem F189_ok (z3793 : Int) : UU 189 ([i64 z3793]) ([]) = some (O189 (F189 z3793)) :=
  fnT_ok (out := O189) (L := notIn []) rfl rfl (fun x => by kernel_rfl) (by simp [D189, PT.isT])
/-! ## F128 -/
noncomputable def D128 (rF128 : Int → Option A128) (hF128 : ∀ (z3796 : Int) (b : A128), rF128 z3796 = some b → UU 128 ([i64 z3796]) ([]) = some (A128.out b)) (z3796 : Int) : PT A128 :=
  .tot O189 (F189_ok (z3796)) fun z3799 =>
  .test (z3799 ≥ 11796480)
   (fun h0 =>
   .ask E128 (hF128 (w64 (z3799 - 11796480))) fun (r : A128) => match r with
   | .a0 z3800 =>
    .ret (A128.a0 (w64 (0 - z3800)))
   )
   (fun h0 =>
   .auto 1 <|
   .test (w64 (2654208000 - w64 (Int.tdiv (w64 (z3799 * w64 (11796480 - z3799))) 65536)) = 0)
    (fun _ => .fail) -- none
    (fun h1 =>
    .ret (A128.a0 (w64 (Int.tdiv (w64 (w64 (4 * w64 (Int.tdiv (w64 (z3799 * w64 (11796480 - z3799))) 65536)) * 65536)) (w64 (2654208000 - w64 (Int.tdiv (w64 (z3799 * w64 (11796480 - z3799))) 65536))))))
    )
   )
theorem D128_ok (rF128 : Int → Option A128) (hF128 : ∀ (z3796 : Int) (b : A128), rF128 z3796 = some b → UU 128 ([i64 z3796]) ([]) = some (A128.out b)) (z3796 : Int) : ∀ b, (D128 rF128 hF128 z3796).ev some = some b → UU 128 ([i64 z3796]) ([]) = some (A128.out b) :=
  fn_ok (E := E128) (L := notIn []) rfl rfl (fun x => by kernel_rfl)
noncomputable def G128 : Nat → { r : Int → Option A128 // ∀ (z3796 : Int) (b : A128), r z3796 = some b → UU 128 ([i64 z3796]) ([]) = some (A128.out b) }
  | 0 => ⟨fun _ => none, fun _ _ h => by cases h⟩
  | n + 1 => ⟨fun z3796 => (D128 (G128 n).1 (G128 n).2 z3796).ev some, fun z3796 => D128_ok (G128 n).1 (G128 n).2 z3796⟩
noncomputable def F128 (n : Nat) (z3796 : Int) : Option A128 := (G128 n).1 z3796
theorem F128_ok (n : Nat) (z3796 : Int) : ∀ b, F128 n z3796 = some b → UU 128 ([i64 z3796]) ([]) = some (A128.out b) := (G128 n).2 z3796
theorem F128_succ (n : Nat) (z3796 : Int) : F128 (n + 1) z3796 = (D128 (F128 n) (F128_ok n) z3796).ev some := rfl
/-! ## F127 -/
noncomputable def D127 (z3792 : Int) : PT A127 :=
  .tot O189 (F189_ok (z3792)) fun z3795 =>
  .ask E128 (F128_ok 100000 (w64 (z3795 + 5898240))) fun (r : A128) => match r with
  | .a0 z3801 =>
   .ret (A127.a0 (z3801))
noncomputable def F127 (z3792 : Int) : Option A127 := (D127 z3792).ev some
theorem F127_ok (z3792 : Int) : ∀ b, F127 z3792 = some b → UU 127 ([i64 z3792]) ([]) = some (A127.out b) :=
  fn_ok (E := E127) (L := notIn []) rfl rfl (fun x => by kernel_rfl)
/-! ## F67 -/
noncomputable abbrev B67 : Code := (Tryz.f67.body).getD .skip
inductive N67_c27 where
  | e0 (z3831 : Int) (z3832 : Int) (z3833 : Int) (k3834 : Nat) (z3835 : Int) (z3836 : Int) (z3837 : Int) (z3838 : Int) (l3839 : List (List V))
@[reducible] def N67_c27.out : N67_c27 → VX × S
  | .e0 z3831 z3832 z3833 k3834 z3835 z3836 z3837 z3838 l3839 => (VX.normal, { T := i64 z3831 :: i64 z3832 :: i64 z3833 :: U :: U :: U :: V.ptr 0 0 0 :: V.hs 1 0 k3834 :: U :: i64 z3835 :: i64 z3836 :: un 4 (i64 z3837 :: i64 z3838 :: un 27 []), σ := [Ob.cells true false 2 [[vb false, V.hs 2 0 0]], Ob.cells true true 2 l3839, Ob.cells true true 2 []] })
def N67_c27.ex (g : N67_c27 → Prop) : Prop := (∃ (z3831 : Int) (z3832 : Int) (z3833 : Int) (k3834 : Nat) (z3835 : Int) (z3836 : Int) (z3837 : Int) (z3838 : Int) (l3839 : List (List V)), g (.e0 z3831 z3832 z3833 k3834 z3835 z3836 z3837 z3838 l3839))
theorem N67_c27.ok (g : N67_c27 → Prop) : N67_c27.ex g ↔ ∃ b, g b := ⟨fun h => match h with
  | ⟨_, _, _, _, _, _, _, _, _, h⟩ => ⟨_, h⟩, fun ⟨b, h⟩ => match b, h with
  | .e0 _ _ _ _ _ _ _ _ _, h => ⟨_, _, _, _, _, _, _, _, _, h⟩⟩
abbrev E67_c27 : Ent (VX × S) := ⟨N67_c27, N67_c27.out, N67_c27.ex, N67_c27.ok⟩
noncomputable def D67_c27 (z3822 : Int) (z3823 : Int) (z3824 : Int) (k3825 : Nat) (z3826 : Int) (z3827 : Int) (z3828 : Int) (b3829 : Bool) (l3830 : List (List V)) : PT N67_c27 :=
  .testB (b3829)
   (fun h0 =>
   .ret (N67_c27.e0 (z3822) (z3823) (z3824) (k3825) (z3826) (z3824) (z3827) (z3828) (l3830))
   )
   (fun h0 =>
   .ret (N67_c27.e0 (z3822) (z3823) (z3824) (k3825) (z3826) (z3823) (z3827) (z3828) (l3830))
   )
noncomputable def J67_c27 (z3822 : Int) (z3823 : Int) (z3824 : Int) (k3825 : Nat) (z3826 : Int) (z3827 : Int) (z3828 : Int) (b3829 : Bool) (l3830 : List (List V)) : Option N67_c27 := (D67_c27 z3822 z3823 z3824 k3825 z3826 z3827 z3828 b3829 l3830).ev some
theorem J67_c27_ok (z3822 : Int) (z3823 : Int) (z3824 : Int) (k3825 : Nat) (z3826 : Int) (z3827 : Int) (z3828 : Int) (b3829 : Bool) (l3830 : List (List V)) : ∀ b, J67_c27 z3822 z3823 z3824 k3825 z3826 z3827 z3828 b3829 l3830 = some b → condP Tryz.prog X CC 67 (0) 18446744073709551616 B67 27 ({ T := i64 z3822 :: i64 z3823 :: i64 z3824 :: U :: U :: U :: V.ptr 0 0 0 :: V.hs 1 0 k3825 :: U :: i64 z3826 :: i64 z3823 :: un 4 (i64 z3827 :: i64 z3828 :: un 10 (vb b3829 :: un 16 [])), σ := [Ob.cells true false 2 [[vb false, V.hs 2 0 0]], Ob.cells true true 2 l3830, Ob.cells true true 2 []] }) = some (E67_c27.out b) :=
  cond_ok (E := E67_c27) (L := notIn []) (fun x => by kernel_rfl)
inductive N67_0 where
  | s0 (z3809 : Int) (z3810 : Int) (z3811 : Int) (k3812 : Nat) (z3813 : Int) (z3814 : Int) (l3815 : List (List V))
  | e0 (k3855 : Nat) (l3856 : List (List V))
@[reducible] def N67_0.out : N67_0 → VX × S
  | .s0 z3809 z3810 z3811 k3812 z3813 z3814 l3815 => (VX.normal, { T := i64 z3809 :: i64 z3810 :: i64 z3811 :: U :: U :: U :: V.ptr 0 0 0 :: V.hs 1 0 k3812 :: un 7 (i64 z3813 :: i64 z3814 :: un 27 []), σ := [Ob.cells true false 2 [[vb false, V.hs 2 0 0]], Ob.cells true true 2 l3815, Ob.cells true true 2 []] })
  | .e0 k3855 l3856 => (VX.exit 0, { T := un 6 (V.ptr 0 0 0 :: V.hs 1 0 k3855 :: un 36 []), σ := [Ob.cells true false 2 [[vb false, V.hs 2 0 0]], Ob.cells true true 2 l3856, Ob.cells true true 2 []] })
def N67_0.ex (g : N67_0 → Prop) : Prop := (∃ (z3809 : Int) (z3810 : Int) (z3811 : Int) (k3812 : Nat) (z3813 : Int) (z3814 : Int) (l3815 : List (List V)), g (.s0 z3809 z3810 z3811 k3812 z3813 z3814 l3815)) ∨ (∃ (k3855 : Nat) (l3856 : List (List V)), g (.e0 k3855 l3856))
theorem N67_0.ok (g : N67_0 → Prop) : N67_0.ex g ↔ ∃ b, g b := ⟨fun h => match h with
  | .inl ⟨_, _, _, _, _, _, _, h⟩ => ⟨_, h⟩
  | .inr (⟨_, _, h⟩) => ⟨_, h⟩, fun ⟨b, h⟩ => match b, h with
  | .s0 _ _ _ _ _ _ _, h => .inl ⟨_, _, _, _, _, _, _, h⟩
  | .e0 _ _, h => .inr (⟨_, _, h⟩)⟩
abbrev E67_0 : Ent (VX × S) := ⟨N67_0, N67_0.out, N67_0.ex, N67_0.ok⟩
noncomputable def D67_0 (z3809 : Int) (z3810 : Int) (z3811 : Int) (k3812 : Nat) (z3813 : Int) (z3814 : Int) (l3815 : List (List V)) : PT N67_0 :=
  .test (z3814 < z3813)
   (fun h0 =>
   .test (z3809 = 0)
    (fun _ => .fail) -- none
    (fun h1 =>
    .auto 1 <|
    .cut E67_c27 (J67_c27_ok (z3809) (z3810) (z3811) (k3812) (w64 (w64 (Int.tdiv (w64 (z3814 * 11796480)) z3809) - 5898240)) (z3813) (z3814) (Int.tmod z3814 2 == 1) (l3815)) fun (r : N67_c27) => match r with
    | .e0 z3862 z3863 z3864 k3865 z3866 z3867 z3868 z3869 l3870 =>
     .ask E127 (F127_ok (z3866)) fun (r : A127) => match r with
     | .a0 z3871 =>
      .ask E125 (F125_ok (z3867) (z3871)) fun (r : A125) => match r with
      | .a0 z3872 =>
       .ask E128 (F128_ok 100000 (z3866)) fun (r : A128) => match r with
       | .a0 z3873 =>
        .ask E125 (F125_ok (z3867) (z3873)) fun (r : A125) => match r with
        | .a0 z3874 =>
         .ask E123 (F123_ok (z3872) (z3874)) fun (r : A123) => match r with
         | .a0 z3875 z3876 =>
          .auto 1 <|
          .test (0 + k3865 ≤ List.length l3870 ∧ (k3865 + 1) * 16 ≤ 140737488355328 ∧ k3865 + 1 ≤ 140737488355328)
           (fun h2 =>
           .ret (N67_0.s0 (z3862) (z3863) (z3864) (k3865 + 1) (z3868) (w64 (z3869 + 1)) (List.take k3865 l3870 ++ [[i64 z3875, i64 z3876]]))
           )
           (fun _ => .fail) -- none
    )
   )
   (fun h0 =>
   .ret (N67_0.e0 (k3812) (l3815))
   )
noncomputable def S67_0 : N67_0 → PT N67_0
  | .s0 z3809 z3810 z3811 k3812 z3813 z3814 l3815 => D67_0 z3809 z3810 z3811 k3812 z3813 z3814 l3815
  | _ => .fail
def N67_0.off : N67_0 → Bool
  | .s0 _ _ _ _ _ _ _ => false
  | _ => true
noncomputable def L67_0 (n : Nat) (b : N67_0) : Option N67_0 := PT.loop (S67_0) N67_0.off n b
theorem L67_0_ok : ∀ (n : Nat) (b : N67_0), N67_0.off b = false → ∀ c, L67_0 n b = some c → loopP Tryz.prog X CC 67 (0) 18446744073709551616 B67 0 n (E67_0.out b).2 = some (E67_0.out c) :=
  loop_ok (E := E67_0) (step := S67_0) (L := notIn []) (fun b hb => by cases b <;> first | (cases hb; done) | (intro x; kernel_rfl)) (fun b => by cases b <;> rfl)
noncomputable def N67_0.nx (n : Nat) (c : N67_0) : Option N67_0 := match N67_0.off c with
  | true => some c
  | false => L67_0 n c
theorem L67_0_s0 (n : Nat) (z3809 : Int) (z3810 : Int) (z3811 : Int) (k3812 : Nat) (z3813 : Int) (z3814 : Int) (l3815 : List (List V)) : L67_0 (n + 1) (.s0 z3809 z3810 z3811 k3812 z3813 z3814 l3815) = (D67_0 z3809 z3810 z3811 k3812 z3813 z3814 l3815).ev (N67_0.nx n) := rfl
theorem N67_0.nx_s0 (n : Nat) (z3809 : Int) (z3810 : Int) (z3811 : Int) (k3812 : Nat) (z3813 : Int) (z3814 : Int) (l3815 : List (List V)) : N67_0.nx n (.s0 z3809 z3810 z3811 k3812 z3813 z3814 l3815) = L67_0 n (.s0 z3809 z3810 z3811 k3812 z3813 z3814 l3815) := rfl
theorem N67_0.nx_e0 (n : Nat) (k3855 : Nat) (l3856 : List (List V)) : N67_0.nx n (.e0 k3855 l3856) = some (.e0 k3855 l3856) := rfl
noncomputable def D67 (z3770 : Int) (z3771 : Int) (z3772 : Int) : PT A67 :=
  .cut E67_0 (L67_0_ok 18446744073709551616 (.s0 (if (if 16 < z3770 then 16 else z3770) > 2 then if 16 < z3770 then 16 else z3770 else 2) (z3771) (z3772) (0) (w64 (2 * if (if 16 < z3770 then 16 else z3770) > 2 then if 16 < z3770 then 16 else z3770 else 2)) (0) ([])) rfl) fun (r : N67_0) => match r with
  | .e0 k3877 l3878 =>
   .test (0 + k3877 ≤ List.length l3878)
    (fun h0 =>
    .ask E122 (F122_ok (List.take k3877 l3878)) fun (r : A122) => match r with
    | .a0 b3879 k3880 l3881 =>
     .auto 1 <|
     .ret (A67.a0 (b3879) (k3880) (l3881))
    )
    (fun _ => .fail) -- none
  | _ => .fail
noncomputable def F67 (z3770 : Int) (z3771 : Int) (z3772 : Int) : Option A67 := (D67 z3770 z3771 z3772).ev some
theorem F67_ok (z3770 : Int) (z3771 : Int) (z3772 : Int) : ∀ b, F67 z3770 z3771 z3772 = some b → UU 67 ([i64 z3770, i64 z3771, i64 z3772]) ([]) = some (A67.out b) :=
  fn_ok (E := E67) (L := notIn []) rfl rfl (fun x => by kernel_rfl)
/-! ## F224 -/
def F224 (l3903 : List (List V)) : Option A224 :=
  if List.length l3903 * 16 ≤ 140737488355328 ∧ List.length l3903 ≤ 140737488355328 then
   some (A224.a0 (l3903))
  else
   none
theorem F224_ok (l3903 : List (List V)) (r : A224) (h : F224 l3903 = some r) : UU 224 ([V.list 2 l3903]) ([]) = some (A224.out r) := by
  unfold F224 at h
  rcases ite_eq h with ⟨h0, h⟩ | ⟨h0, h⟩
  · cases h
    exact UC_of (n := 1) (call_oracle (cloneO_eq rfl l3903 h0))
  · cases h
/-! ## F170 -/
noncomputable def D170 (b3901 : Bool) (l3902 : List (List V)) : PT A170 :=
  .auto 2 <|
  .ask E224 (F224_ok (l3902)) fun (r : A224) => match r with
  | .a0 l3904 =>
   .auto 1 <|
   .ret (A170.a0 (b3901) (List.length l3904) (l3904))
noncomputable def F170 (b3901 : Bool) (l3902 : List (List V)) : Option A170 := (D170 b3901 l3902).ev some
theorem F170_ok (b3901 : Bool) (l3902 : List (List V)) : ∀ b, F170 b3901 l3902 = some b → UU 170 ([V.agg [vb b3901, V.list 2 l3902]]) ([]) = some (A170.out b) :=
  fn_ok (E := E170) (L := notIn []) rfl rfl (fun x => by kernel_rfl)
/-! ## F171 -/
noncomputable abbrev B171 : Code := (Tryz.f171.body).getD .skip
inductive N171_0 where
  | s0 (z3942 : Int) (l3943 : List (List V)) (z3944 : Int) (z3945 : Int) (b3946 : Bool) (l3947 : List (List V)) (k3948 : Nat) (l3949 : List (List V))
  | e0 (b3950 : Bool) (k3951 : Nat) (l3952 : List (List V))
@[reducible] def N171_0.out : N171_0 → VX × S
  | .s0 z3942 l3943 z3944 z3945 b3946 l3947 k3948 l3949 => (VX.normal, { T := U :: U :: i64 z3942 :: V.ptr 0 0 0 :: U :: U :: V.ptr 1 0 0 :: V.ptr 2 0 0 :: un 14 (V.list 2 l3943 :: i64 z3944 :: i64 z3945 :: un 31 []), σ := [Ob.cells true false 2 [[vb b3946, V.list 2 l3947]], Ob.cells true false 2 [[vb false, V.hs 3 0 0]], Ob.cells true false 2 [[vb b3946, V.hs 4 0 k3948]], Ob.cells true true 2 [], Ob.cells true true 2 l3949] })
  | .e0 b3950 k3951 l3952 => (VX.exit 0, { T := un 6 (V.ptr 0 0 0 :: V.ptr 1 0 0 :: un 48 []), σ := [Ob.cells true false 2 [[vb false, V.hs 2 0 0]], Ob.cells true false 2 [[vb b3950, V.hs 3 0 k3951]], Ob.cells true true 2 [], Ob.cells true true 2 l3952] })
def N171_0.ex (g : N171_0 → Prop) : Prop := (∃ (z3942 : Int) (l3943 : List (List V)) (z3944 : Int) (z3945 : Int) (b3946 : Bool) (l3947 : List (List V)) (k3948 : Nat) (l3949 : List (List V)), g (.s0 z3942 l3943 z3944 z3945 b3946 l3947 k3948 l3949)) ∨ (∃ (b3950 : Bool) (k3951 : Nat) (l3952 : List (List V)), g (.e0 b3950 k3951 l3952))
theorem N171_0.ok (g : N171_0 → Prop) : N171_0.ex g ↔ ∃ b, g b := ⟨fun h => match h with
  | .inl ⟨_, _, _, _, _, _, _, _, h⟩ => ⟨_, h⟩
  | .inr (⟨_, _, _, h⟩) => ⟨_, h⟩, fun ⟨b, h⟩ => match b, h with
  | .s0 _ _ _ _ _ _ _ _, h => .inl ⟨_, _, _, _, _, _, _, _, h⟩
  | .e0 _ _ _, h => .inr (⟨_, _, _, h⟩)⟩
abbrev E171_0 : Ent (VX × S) := ⟨N171_0, N171_0.out, N171_0.ex, N171_0.ok⟩
noncomputable def D171_0 (z3942 : Int) (l3943 : List (List V)) (z3944 : Int) (z3945 : Int) (b3946 : Bool) (l3947 : List (List V)) (k3948 : Nat) (l3949 : List (List V)) : PT N171_0 :=
  .test (z3945 < z3944)
   (fun h0 =>
   .test (0 ≤ z3945)
    (fun h1 =>
    .look RW28 (l3943[Int.toNat z3945]?) fun e3958 =>
    .auto 3 <|
    .known (decide_eq_true h1) <|
    .look RW28 (l3947[Int.toNat z3945]?) fun e3959 =>
    .auto 1 <|
    .ask E134 (F134_ok (e3959.c0) (e3958.c0) (z3942)) fun (r : A134) => match r with
    | .a0 z3960 =>
     .auto 1 <|
     .known (decide_eq_true h1) <|
     .look RW28 (l3947[Int.toNat z3945]?) fun e3961 =>
     .auto 1 <|
     .ask E134 (F134_ok (e3961.c1) (e3958.c1) (z3942)) fun (r : A134) => match r with
     | .a0 z3962 =>
      .test (0 ≤ z3945 ∧ z3945 < (↑k3948 : Int))
       (fun h2 =>
       .look RW28 (l3949[(0 : Nat) + Int.toNat z3945]?) fun e3963 =>
       .ret (N171_0.s0 (z3942) (l3943) (z3944) (w64 (z3945 + 1)) (b3946) (l3947) (k3948) (List.set l3949 (0 + Int.toNat z3945) [i64 z3960, i64 z3962]))
       )
       (fun _ => .fail) -- none
    )
    (fun _ => .fail) -- none
   )
   (fun h0 =>
   .ret (N171_0.e0 (b3946) (k3948) (l3949))
   )
noncomputable def S171_0 : N171_0 → PT N171_0
  | .s0 z3942 l3943 z3944 z3945 b3946 l3947 k3948 l3949 => D171_0 z3942 l3943 z3944 z3945 b3946 l3947 k3948 l3949
  | _ => .fail
def N171_0.off : N171_0 → Bool
  | .s0 _ _ _ _ _ _ _ _ => false
  | _ => true
noncomputable def L171_0 (n : Nat) (b : N171_0) : Option N171_0 := PT.loop (S171_0) N171_0.off n b
theorem L171_0_ok : ∀ (n : Nat) (b : N171_0), N171_0.off b = false → ∀ c, L171_0 n b = some c → loopP Tryz.prog X CC 171 (0) 18446744073709551616 B171 0 n (E171_0.out b).2 = some (E171_0.out c) :=
  loop_ok (E := E171_0) (step := S171_0) (L := notIn []) (fun b hb => by cases b <;> first | (cases hb; done) | (intro x; kernel_rfl)) (fun b => by cases b <;> rfl)
noncomputable def N171_0.nx (n : Nat) (c : N171_0) : Option N171_0 := match N171_0.off c with
  | true => some c
  | false => L171_0 n c
theorem L171_0_s0 (n : Nat) (z3942 : Int) (l3943 : List (List V)) (z3944 : Int) (z3945 : Int) (b3946 : Bool) (l3947 : List (List V)) (k3948 : Nat) (l3949 : List (List V)) : L171_0 (n + 1) (.s0 z3942 l3943 z3944 z3945 b3946 l3947 k3948 l3949) = (D171_0 z3942 l3943 z3944 z3945 b3946 l3947 k3948 l3949).ev (N171_0.nx n) := rfl
theorem N171_0.nx_s0 (n : Nat) (z3942 : Int) (l3943 : List (List V)) (z3944 : Int) (z3945 : Int) (b3946 : Bool) (l3947 : List (List V)) (k3948 : Nat) (l3949 : List (List V)) : N171_0.nx n (.s0 z3942 l3943 z3944 z3945 b3946 l3947 k3948 l3949) = L171_0 n (.s0 z3942 l3943 z3944 z3945 b3946 l3947 k3948 l3949) := rfl
theorem N171_0.nx_e0 (n : Nat) (b3950 : Bool) (k3951 : Nat) (l3952 : List (List V)) : N171_0.nx n (.e0 b3950 k3951 l3952) = some (.e0 b3950 k3951 l3952) := rfl
noncomputable def D171 (b3919 : Bool) (l3920 : List (List V)) (b3921 : Bool) (l3922 : List (List V)) (z3923 : Int) : PT A171 :=
  .auto 2 <|
  .ask E224 (F224_ok (l3920)) fun (r : A224) => match r with
  | .a0 l3956 =>
   .auto 3 <|
   .tot O178 (F178_ok (b3919) (l3920) (b3921) (l3922)) fun b3957 =>
   .testB (!b3957)
    (fun h0 =>
    .auto 2 <|
    .ret (A171.a0 (b3919) (List.length l3956) (l3956))
    )
    (fun h0 =>
    .auto 1 <|
    .cut E171_0 (L171_0_ok 18446744073709551616 (.s0 (z3923) (l3922) ((↑(List.length l3922) : Int)) (0) (b3919) (l3920) (List.length l3956) (l3956)) rfl) fun (r : N171_0) => match r with
    | .e0 b3964 k3965 l3966 =>
     .auto 2 <|
     .ret (A171.a0 (b3964) (k3965) (l3966))
    | _ => .fail
    )
noncomputable def F171 (b3919 : Bool) (l3920 : List (List V)) (b3921 : Bool) (l3922 : List (List V)) (z3923 : Int) : Option A171 := (D171 b3919 l3920 b3921 l3922 z3923).ev some
theorem F171_ok (b3919 : Bool) (l3920 : List (List V)) (b3921 : Bool) (l3922 : List (List V)) (z3923 : Int) : ∀ b, F171 b3919 l3920 b3921 l3922 z3923 = some b → UU 171 ([V.agg [vb b3919, V.list 2 l3920], V.agg [vb b3921, V.list 2 l3922], i64 z3923]) ([]) = some (A171.out b) :=
  fn_ok (E := E171) (L := notIn []) rfl rfl (fun x => by kernel_rfl)
/-! ## F109 -/
noncomputable abbrev B109 : Code := (Tryz.f109.body).getD .skip
inductive N109_0 where
  | s0 (l3890 : List (List V)) (z3891 : Int) (z3892 : Int)
  | e0 (l3894 : List (List V)) (z3895 : Int) (z3896 : Int)
@[reducible] def N109_0.out : N109_0 → VX × S
  | .s0 l3890 z3891 z3892 => (VX.normal, { T := V.list 8 l3890 :: i64 z3891 :: U :: U :: V.ptr 0 0 0 :: i64 z3892 :: un 66 [], σ := [Ob.cells true false 2 [[vb false, V.hs 1 0 0]], Ob.cells true true 2 []] })
  | .e0 l3894 z3895 z3896 => (VX.exit 0, { T := V.list 8 l3894 :: i64 z3895 :: U :: U :: V.ptr 0 0 0 :: i64 z3896 :: un 66 [], σ := [Ob.cells true false 2 [[vb false, V.hs 1 0 0]], Ob.cells true true 2 []] })
def N109_0.ex (g : N109_0 → Prop) : Prop := (∃ (l3890 : List (List V)) (z3891 : Int) (z3892 : Int), g (.s0 l3890 z3891 z3892)) ∨ (∃ (l3894 : List (List V)) (z3895 : Int) (z3896 : Int), g (.e0 l3894 z3895 z3896))
theorem N109_0.ok (g : N109_0 → Prop) : N109_0.ex g ↔ ∃ b, g b := ⟨fun h => match h with
  | .inl ⟨_, _, _, h⟩ => ⟨_, h⟩
  | .inr (⟨_, _, _, h⟩) => ⟨_, h⟩, fun ⟨b, h⟩ => match b, h with
  | .s0 _ _ _, h => .inl ⟨_, _, _, h⟩
  | .e0 _ _ _, h => .inr (⟨_, _, _, h⟩)⟩
abbrev E109_0 : Ent (VX × S) := ⟨N109_0, N109_0.out, N109_0.ex, N109_0.ok⟩
noncomputable def D109_0 (l3890 : List (List V)) (z3891 : Int) (z3892 : Int) : PT N109_0 :=
  .test (z3892 ≥ 0)
   (fun h0 =>
   .auto 2 <|
   .test (0 ≤ z3892)
    (fun h1 =>
    .look RW100 (l3890[Int.toNat z3892]?) fun e3970 =>
    .auto 5 <|
    .test (e3970.c0 > z3891)
     (fun h2 =>
     .ret (N109_0.s0 (l3890) (z3891) (w64 (z3892 - 1)))
     )
     (fun h2 =>
     .ret (N109_0.e0 (l3890) (z3891) (z3892))
     )
    )
    (fun _ => .fail) -- none
   )
   (fun h0 =>
   .auto 8 <|
   .ret (N109_0.e0 (l3890) (z3891) (z3892))
   )
noncomputable def S109_0 : N109_0 → PT N109_0
  | .s0 l3890 z3891 z3892 => D109_0 l3890 z3891 z3892
  | _ => .fail
def N109_0.off : N109_0 → Bool
  | .s0 _ _ _ => false
  | _ => true
noncomputable def L109_0 (n : Nat) (b : N109_0) : Option N109_0 := PT.loop (S109_0) N109_0.off n b
theorem L109_0_ok : ∀ (n : Nat) (b : N109_0), N109_0.off b = false → ∀ c, L109_0 n b = some c → loopP Tryz.prog X CC 109 (0) 18446744073709551616 B109 0 n (E109_0.out b).2 = some (E109_0.out c) :=
  loop_ok (E := E109_0) (step := S109_0) (L := notIn []) (fun b hb => by cases b <;> first | (cases hb; done) | (intro x; kernel_rfl)) (fun b => by cases b <;> rfl)
noncomputable def N109_0.nx (n : Nat) (c : N109_0) : Option N109_0 := match N109_0.off c with
  | true => some c
  | false => L109_0 n c
theorem L109_0_s0 (n : Nat) (l3890 : List (List V)) (z3891 : Int) (z3892 : Int) : L109_0 (n + 1) (.s0 l3890 z3891 z3892) = (D109_0 l3890 z3891 z3892).ev (N109_0.nx n) := rfl
theorem N109_0.nx_s0 (n : Nat) (l3890 : List (List V)) (z3891 : Int) (z3892 : Int) : N109_0.nx n (.s0 l3890 z3891 z3892) = L109_0 n (.s0 l3890 z3891 z3892) := rfl
theorem N109_0.nx_e0 (n : Nat) (l3894 : List (List V)) (z3895 : Int) (z3896 : Int) : N109_0.nx n (.e0 l3894 z3895 z3896) = some (.e0 l3894 z3895 z3896) := rfl
noncomputable def D109 (l3885 : List (List V)) (z3886 : Int) : PT A109 :=
  .testB ((↑(List.length l3885) : Int) == 0)
   (fun h0 =>
   .auto 1 <|
   .ret (A109.a0 (false) (0) ([]))
   )
   (fun h0 =>
   .cut E109_0 (L109_0_ok 18446744073709551616 (.s0 (l3885) (z3886) (w64 ((↑(List.length l3885) : Int) - 1))) rfl) fun (r : N109_0) => match r with
   | .e0 l3971 z3972 z3973 =>
    .testB (z3973 == -1)
     (fun h1 =>
     .auto 1 <|
     .look RW100 (l3971[(0 : Nat)]?) fun e3974 =>
     .ask E170 (F170_ok (e3974.c1) (e3974.c2)) fun (r : A170) => match r with
     | .a0 b3975 k3976 l3977 =>
      .auto 1 <|
      .ret (A109.a0 (b3975) (k3976) (l3977))
     )
     (fun h1 =>
     .testB (z3973 == w64 ((↑(List.length l3971) : Int) - 1))
      (fun h2 =>
      .test (0 ≤ z3973)
       (fun h3 =>
       .look RW100 (l3971[Int.toNat z3973]?) fun e3978 =>
       .ask E170 (F170_ok (e3978.c1) (e3978.c2)) fun (r : A170) => match r with
       | .a0 b3979 k3980 l3981 =>
        .auto 1 <|
        .ret (A109.a0 (b3979) (k3980) (l3981))
       )
       (fun _ => .fail) -- none
      )
      (fun h2 =>
      .test (0 ≤ z3973)
       (fun h3 =>
       .look RW100 (l3971[Int.toNat z3973]?) fun e3982 =>
       .test (0 ≤ w64 (z3973 + 1))
        (fun h4 =>
        .look RW100 (l3971[Int.toNat (w64 (z3973 + (1 : Int)))]?) fun e3983 =>
        .auto 8 <|
        .ask E136 (F136_ok (e3982.c0) (e3983.c0) (z3972)) fun (r : A136) => match r with
        | .a0 z3984 =>
         .ask E135 (F135_ok (e3982.c3) (e3982.c4) (e3982.c5) (e3982.c6) (e3982.c7) (z3984)) fun (r : A135) => match r with
         | .a0 z3985 =>
          .ask E171 (F171_ok (e3982.c1) (e3982.c2) (e3983.c1) (e3983.c2) (z3985)) fun (r : A171) => match r with
          | .a0 b3986 k3987 l3988 =>
           .auto 1 <|
           .ret (A109.a0 (b3986) (k3987) (l3988))
        )
        (fun _ => .fail) -- none
       )
       (fun _ => .fail) -- none
      )
     )
   | _ => .fail
   )
noncomputable def F109 (l3885 : List (List V)) (z3886 : Int) : Option A109 := (D109 l3885 z3886).ev some
theorem F109_ok (l3885 : List (List V)) (z3886 : Int) : ∀ b, F109 l3885 z3886 = some b → UU 109 ([V.list 8 l3885, i64 z3886]) ([]) = some (A109.out b) :=
  fn_ok (E := E109) (L := notIn []) rfl rfl (fun x => by kernel_rfl)
/-! ## F51 -/
noncomputable def D51 (z3488 : Int) (z3489 : Int) (l3490 : List (List V)) (l3491 : List (List V)) (l3492 : List (List V)) (b3493 : Bool) (z3494 : Int) (z3495 : Int) (z3496 : Int) (z3497 : Int) (z3498 : Int) (z3499 : Int) (z3500 : Int) (z3501 : Int) (z3502 : Int) (z3503 : Int) (z3504 : Int) (z3505 : Int) (z3506 : Int) (z3507 : Int) (z3508 : Int) (l3509 : List (List V)) (b3510 : Bool) (l3511 : List (List V)) (z3512 : Int) (z3513 : Int) (z3514 : Int) (z3515 : Int) (z3516 : Int) (l3517 : List (List V)) (l3518 : List (List V)) (l3519 : List (List V)) (z3520 : Int) : PT A51 :=
  .auto 1 <|
  .ask E72 (F72_ok (l3490) (z3520) (0)) fun (r : A72) => match r with
  | .a0 z3677 =>
   .auto 1 <|
   .ask E72 (F72_ok (l3491) (z3520) (0)) fun (r : A72) => match r with
   | .a0 z3678 =>
    .auto 1 <|
    .testB (z3488 == 0)
     (fun h0 =>
     .ask E63 (F63_ok (z3677) (z3678)) fun (r : A63) => match r with
     | .a0 b3728 k3729 l3730 =>
      .auto 1 <|
      .ret (A51.a0 (b3728) (k3729) (l3730))
     )
     (fun h0 =>
     .testB (z3488 == 1)
      (fun h1 =>
      .ask E65 (F65_ok (z3677) (z3678)) fun (r : A65) => match r with
      | .a0 b3767 k3768 l3769 =>
       .auto 1 <|
       .ret (A51.a0 (b3767) (k3768) (l3769))
      )
      (fun h1 =>
      .testB (z3488 == 2)
       (fun h2 =>
       .auto 1 <|
       .ask E67 (F67_ok (z3489) (z3677) (z3678)) fun (r : A67) => match r with
       | .a0 b3882 k3883 l3884 =>
        .auto 1 <|
        .ret (A51.a0 (b3882) (k3883) (l3884))
       )
       (fun h2 =>
       .testB (z3488 == 3)
        (fun h3 =>
        .auto 1 <|
        .ask E109 (F109_ok (l3492) (z3520)) fun (r : A109) => match r with
        | .a0 b3989 k3990 l3991 =>
         .auto 1 <|
         .ret (A51.a0 (b3989) (k3990) (l3991))
        )
        (fun h3 =>
        .auto 1 <|
        .ret (A51.a0 (false) (0) ([]))
        )
       )
      )
     )
noncomputable def F51 (z3488 : Int) (z3489 : Int) (l3490 : List (List V)) (l3491 : List (List V)) (l3492 : List (List V)) (b3493 : Bool) (z3494 : Int) (z3495 : Int) (z3496 : Int) (z3497 : Int) (z3498 : Int) (z3499 : Int) (z3500 : Int) (z3501 : Int) (z3502 : Int) (z3503 : Int) (z3504 : Int) (z3505 : Int) (z3506 : Int) (z3507 : Int) (z3508 : Int) (l3509 : List (List V)) (b3510 : Bool) (l3511 : List (List V)) (z3512 : Int) (z3513 : Int) (z3514 : Int) (z3515 : Int) (z3516 : Int) (l3517 : List (List V)) (l3518 : List (List V)) (l3519 : List (List V)) (z3520 : Int) : Option A51 := (D51 z3488 z3489 l3490 l3491 l3492 b3493 z3494 z3495 z3496 z3497 z3498 z3499 z3500 z3501 z3502 z3503 z3504 z3505 z3506 z3507 z3508 l3509 b3510 l3511 z3512 z3513 z3514 z3515 z3516 l3517 l3518 l3519 z3520).ev some
theorem F51_ok (z3488 : Int) (z3489 : Int) (l3490 : List (List V)) (l3491 : List (List V)) (l3492 : List (List V)) (b3493 : Bool) (z3494 : Int) (z3495 : Int) (z3496 : Int) (z3497 : Int) (z3498 : Int) (z3499 : Int) (z3500 : Int) (z3501 : Int) (z3502 : Int) (z3503 : Int) (z3504 : Int) (z3505 : Int) (z3506 : Int) (z3507 : Int) (z3508 : Int) (l3509 : List (List V)) (b3510 : Bool) (l3511 : List (List V)) (z3512 : Int) (z3513 : Int) (z3514 : Int) (z3515 : Int) (z3516 : Int) (l3517 : List (List V)) (l3518 : List (List V)) (l3519 : List (List V)) (z3520 : Int) : ∀ b, F51 z3488 z3489 l3490 l3491 l3492 b3493 z3494 z3495 z3496 z3497 z3498 z3499 z3500 z3501 z3502 z3503 z3504 z3505 z3506 z3507 z3508 l3509 b3510 l3511 z3512 z3513 z3514 z3515 z3516 l3517 l3518 l3519 z3520 = some b → UU 51 ([V.agg [i64 z3488, i64 z3489, V.list 7 l3490, V.list 7 l3491, V.list 8 l3492, vb b3493, i64 z3494, i64 z3495, u8 z3496, u8 z3497, u8 z3498, u8 z3499, u8 z3500, u8 z3501, u8 z3502, u8 z3503, i64 z3504, i64 z3505, i64 z3506, i64 z3507, i64 z3508, V.list 10 l3509, vb b3510, V.list 7 l3511, u8 z3512, u8 z3513, u8 z3514, u8 z3515, i64 z3516, V.list 1 l3517, V.list 7 l3518, V.list 7 l3519], i64 z3520]) ([]) = some (A51.out b) :=
  fn_ok (E := E51) (L := notIn []) rfl rfl (fun x => by kernel_rfl)
/-! ## F172 -/
noncomputable abbrev B172 : Code := (Tryz.f172.body).getD .skip
inductive N172_0 where
  | s0 (l4037 : List (List V)) (z4038 : Int) (z4039 : Int) (z4040 : Int)
  | e0 (z4043 : Int)
@[reducible] def N172_0.out : N172_0 → VX × S
  | .s0 l4037 z4038 z4039 z4040 => (VX.normal, { T := V.list 7 l4037 :: i64 z4038 :: U :: U :: U :: i64 z4039 :: i64 z4040 :: un 15 [], σ := [] })
  | .e0 z4043 => (VX.exit 0, { T := un 5 (i64 z4043 :: un 16 []), σ := [] })
def N172_0.ex (g : N172_0 → Prop) : Prop := (∃ (l4037 : List (List V)) (z4038 : Int) (z4039 : Int) (z4040 : Int), g (.s0 l4037 z4038 z4039 z4040)) ∨ (∃ (z4043 : Int), g (.e0 z4043))
theorem N172_0.ok (g : N172_0 → Prop) : N172_0.ex g ↔ ∃ b, g b := ⟨fun h => match h with
  | .inl ⟨_, _, _, _, h⟩ => ⟨_, h⟩
  | .inr (⟨_, h⟩) => ⟨_, h⟩, fun ⟨b, h⟩ => match b, h with
  | .s0 _ _ _ _, h => .inl ⟨_, _, _, _, h⟩
  | .e0 _, h => .inr (⟨_, h⟩)⟩
abbrev E172_0 : Ent (VX × S) := ⟨N172_0, N172_0.out, N172_0.ex, N172_0.ok⟩
noncomputable def D172_0 (l4037 : List (List V)) (z4038 : Int) (z4039 : Int) (z4040 : Int) : PT N172_0 :=
  .test (z4040 < (↑(List.length l4037) : Int))
   (fun h0 =>
   .test (0 ≤ z4040)
    (fun h1 =>
    .look RW74 (l4037[Int.toNat z4040]?) fun e4045 =>
    .test (e4045.c0 ≤ z4038)
     (fun h2 =>
     .ret (N172_0.s0 (l4037) (z4038) (z4040) (w64 (z4040 + 1)))
     )
     (fun h2 =>
     .ret (N172_0.s0 (l4037) (z4038) (z4039) (w64 (z4040 + 1)))
     )
    )
    (fun _ => .fail) -- none
   )
   (fun h0 =>
   .ret (N172_0.e0 (z4039))
   )
noncomputable def S172_0 : N172_0 → PT N172_0
  | .s0 l4037 z4038 z4039 z4040 => D172_0 l4037 z4038 z4039 z4040
  | _ => .fail
def N172_0.off : N172_0 → Bool
  | .s0 _ _ _ _ => false
  | _ => true
noncomputable def L172_0 (n : Nat) (b : N172_0) : Option N172_0 := PT.loop (S172_0) N172_0.off n b
theorem L172_0_ok : ∀ (n : Nat) (b : N172_0), N172_0.off b = false → ∀ c, L172_0 n b = some c → loopP Tryz.prog X CC 172 (0) 18446744073709551616 B172 0 n (E172_0.out b).2 = some (E172_0.out c) :=
  loop_ok (E := E172_0) (step := S172_0) (L := notIn []) (fun b hb => by cases b <;> first | (cases hb; done) | (intro x; kernel_rfl)) (fun b => by cases b <;> rfl)
noncomputable def N172_0.nx (n : Nat) (c : N172_0) : Option N172_0 := match N172_0.off c with
  | true => some c
  | false => L172_0 n c
theorem L172_0_s0 (n : Nat) (l4037 : List (List V)) (z4038 : Int) (z4039 : Int) (z4040 : Int) : L172_0 (n + 1) (.s0 l4037 z4038 z4039 z4040) = (D172_0 l4037 z4038 z4039 z4040).ev (N172_0.nx n) := rfl
theorem N172_0.nx_s0 (n : Nat) (l4037 : List (List V)) (z4038 : Int) (z4039 : Int) (z4040 : Int) : N172_0.nx n (.s0 l4037 z4038 z4039 z4040) = L172_0 n (.s0 l4037 z4038 z4039 z4040) := rfl
theorem N172_0.nx_e0 (n : Nat) (z4043 : Int) : N172_0.nx n (.e0 z4043) = some (.e0 z4043) := rfl
noncomputable def D172 (l4032 : List (List V)) (z4033 : Int) : PT A172 :=
  .cut E172_0 (L172_0_ok 18446744073709551616 (.s0 (l4032) (z4033) (-1) (0)) rfl) fun (r : N172_0) => match r with
  | .e0 z4046 =>
   .ret (A172.a0 (z4046))
  | _ => .fail
noncomputable def F172 (l4032 : List (List V)) (z4033 : Int) : Option A172 := (D172 l4032 z4033).ev some
theorem F172_ok (l4032 : List (List V)) (z4033 : Int) : ∀ b, F172 l4032 z4033 = some b → UU 172 ([V.list 7 l4032, i64 z4033]) ([]) = some (A172.out b) :=
  fn_ok (E := E172) (L := notIn []) rfl rfl (fun x => by kernel_rfl)
/-! ## F145 -/
noncomputable def D145 (z4060 : Int) (z4061 : Int) (z4062 : Int) : PT (Int) :=
  .test (z4060 < z4061)
   (fun h0 =>
   .ret (z4061)
   )
   (fun h0 =>
   .test (z4060 > z4062)
    (fun h1 =>
    .ret (z4062)
    )
    (fun h1 =>
    .ret (z4060)
    )
   )
@[reducible] def O145 (z4063 : Int) : V × Store := (i64 z4063, [])
noncomputable def F145 (z4060 : Int) (z4061 : Int) (z4062 : Int) : Int := (D145 z4060 z4061 z4062).evT
theorem F145_ok (z4060 : Int) (z4061 : Int) (z4062 : Int) : UU 145 ([i64 z4060, i64 z4061, i64 z4062]) ([]) = some (O145 (F145 z4060 z4061 z4062)) :=
  fnT_ok (out := O145) (L := notIn []) rfl rfl (fun x => by kernel_rfl) (by simp [D145, PT.isT])
/-! ## F186 -/
noncomputable def D186 (z4059 : Int) : PT (Int) :=
  .tot O145 (F145_ok (z4059) (-1099511627776) (1099511627776)) fun z4064 =>
  .ret (z4064)
@[reducible] def O186 (z4065 : Int) : V × Store := (i64 z4065, [])
noncomputable def F186 (z4059 : Int) : Int := (D186 z4059).evT
theorem F186_ok (z4059 : Int) : UU 186 ([i64 z4059]) ([]) = some (O186 (F186 z4059)) :=
  fnT_ok (out := O186) (L := notIn []) rfl rfl (fun x => by kernel_rfl) (by simp [D186, PT.isT])
/-! ## F175 -/
noncomputable def D175 (z4056 : Int) (z4057 : Int) (z4058 : Int) : PT A175 :=
  .tot O186 (F186_ok (z4056)) fun z4066 =>
  .tot O186 (F186_ok (z4057)) fun z4067 =>
  .tot O186 (F186_ok (z4058)) fun z4068 =>
  .test (z4068 ≤ z4066)
   (fun h0 =>
   .ret (A175.a0 (0))
   )
   (fun h0 =>
   .test (z4068 ≥ z4067)
    (fun h1 =>
    .ret (A175.a0 (65536))
    )
    (fun h1 =>
    .test (w64 (z4067 - z4066) = 0)
     (fun _ => .fail) -- none
     (fun h2 =>
     .ret (A175.a0 (w64 (Int.tdiv (w64 (w64 (z4068 - z4066) * 65536)) (w64 (z4067 - z4066)))))
     )
    )
   )
noncomputable def F175 (z4056 : Int) (z4057 : Int) (z4058 : Int) : Option A175 := (D175 z4056 z4057 z4058).ev some
theorem F175_ok (z4056 : Int) (z4057 : Int) (z4058 : Int) : ∀ b, F175 z4056 z4057 z4058 = some b → UU 175 ([i64 z4056, i64 z4057, i64 z4058]) ([]) = some (A175.out b) :=
  fn_ok (E := E175) (L := notIn []) rfl rfl (fun x => by kernel_rfl)
/-! ## F185 -/
noncomputable def D185 (z4096 : Int) : PT A185 :=
  .test (z4096 < 0)
   (fun h0 =>
   .ret (A185.a0 (IntKind.wrap IntKind.u64 (w64 (0 - z4096))) (true))
   )
   (fun h0 =>
   .ret (A185.a0 (IntKind.wrap IntKind.u64 z4096) (false))
   )
noncomputable def F185 (z4096 : Int) : Option A185 := (D185 z4096).ev some
theorem F185_ok (z4096 : Int) : ∀ b, F185 z4096 = some b → UU 185 ([i64 z4096]) ([]) = some (A185.out b) :=
  fn_ok (E := E185) (L := notIn []) rfl rfl (fun x => by kernel_rfl)
/-! ## F282 -/
noncomputable def D282 (z4117 : Int) : PT A282 :=
  .test (z4117 ≥ 4294967296)
   (fun h0 =>
   .auto 1 <|
   .test (Int.fdiv z4117 4294967296 ≥ 65536)
    (fun h1 =>
    .auto 1 <|
    .test (Int.fdiv (Int.fdiv z4117 4294967296) 65536 ≥ 256)
     (fun h2 =>
     .auto 1 <|
     .test (0 ≤ IntKind.wrap IntKind.u8 (Int.fdiv (Int.fdiv (Int.fdiv z4117 4294967296) 65536) 256) ∧ Int.toNat (IntKind.wrap IntKind.u8 (Int.fdiv (Int.fdiv (Int.fdiv z4117 4294967296) 65536) 256)) < 256)
      (fun h3 =>
      .ret (A282.a0 (w64 (56 + w64 (byteAt Y0 (Int.toNat (IntKind.wrap IntKind.u8 (Int.fdiv (Int.fdiv (Int.fdiv z4117 4294967296) 65536) 256)))))))
      )
      (fun _ => .fail) -- none
     )
     (fun h2 =>
     .test (0 ≤ IntKind.wrap IntKind.u8 (Int.fdiv (Int.fdiv z4117 4294967296) 65536) ∧ Int.toNat (IntKind.wrap IntKind.u8 (Int.fdiv (Int.fdiv z4117 4294967296) 65536)) < 256)
      (fun h3 =>
      .ret (A282.a0 (w64 (48 + w64 (byteAt Y0 (Int.toNat (IntKind.wrap IntKind.u8 (Int.fdiv (Int.fdiv z4117 4294967296) 65536)))))))
      )
      (fun _ => .fail) -- none
     )
    )
    (fun h1 =>
    .test (Int.fdiv z4117 4294967296 ≥ 256)
     (fun h2 =>
     .auto 1 <|
     .test (0 ≤ IntKind.wrap IntKind.u8 (Int.fdiv (Int.fdiv z4117 4294967296) 256) ∧ Int.toNat (IntKind.wrap IntKind.u8 (Int.fdiv (Int.fdiv z4117 4294967296) 256)) < 256)
      (fun h3 =>
      .ret (A282.a0 (w64 (40 + w64 (byteAt Y0 (Int.toNat (IntKind.wrap IntKind.u8 (Int.fdiv (Int.fdiv z4117 4294967296) 256)))))))
      )
      (fun _ => .fail) -- none
     )
     (fun h2 =>
     .test (0 ≤ IntKind.wrap IntKind.u8 (Int.fdiv z4117 4294967296) ∧ Int.toNat (IntKind.wrap IntKind.u8 (Int.fdiv z4117 4294967296)) < 256)
      (fun h3 =>
      .ret (A282.a0 (w64 (32 + w64 (byteAt Y0 (Int.toNat (IntKind.wrap IntKind.u8 (Int.fdiv z4117 4294967296)))))))
      )
      (fun _ => .fail) -- none
     )
    )
   )
   (fun h0 =>
   .test (z4117 ≥ 65536)
    (fun h1 =>
    .auto 1 <|
    .test (Int.fdiv z4117 65536 ≥ 256)
     (fun h2 =>
     .auto 1 <|
     .test (0 ≤ IntKind.wrap IntKind.u8 (Int.fdiv (Int.fdiv z4117 65536) 256) ∧ Int.toNat (IntKind.wrap IntKind.u8 (Int.fdiv (Int.fdiv z4117 65536) 256)) < 256)
      (fun h3 =>
      .ret (A282.a0 (w64 (24 + w64 (byteAt Y0 (Int.toNat (IntKind.wrap IntKind.u8 (Int.fdiv (Int.fdiv z4117 65536) 256)))))))
      )
      (fun _ => .fail) -- none
     )
     (fun h2 =>
     .test (0 ≤ IntKind.wrap IntKind.u8 (Int.fdiv z4117 65536) ∧ Int.toNat (IntKind.wrap IntKind.u8 (Int.fdiv z4117 65536)) < 256)
      (fun h3 =>
      .ret (A282.a0 (w64 (16 + w64 (byteAt Y0 (Int.toNat (IntKind.wrap IntKind.u8 (Int.fdiv z4117 65536)))))))
      )
      (fun _ => .fail) -- none
     )
    )
    (fun h1 =>
    .test (z4117 ≥ 256)
     (fun h2 =>
     .auto 1 <|
     .test (0 ≤ IntKind.wrap IntKind.u8 (Int.fdiv z4117 256) ∧ Int.toNat (IntKind.wrap IntKind.u8 (Int.fdiv z4117 256)) < 256)
      (fun h3 =>
      .ret (A282.a0 (w64 (8 + w64 (byteAt Y0 (Int.toNat (IntKind.wrap IntKind.u8 (Int.fdiv z4117 256)))))))
      )
      (fun _ => .fail) -- none
     )
     (fun h2 =>
     .test (0 ≤ IntKind.wrap IntKind.u8 z4117 ∧ Int.toNat (IntKind.wrap IntKind.u8 z4117) < 256)
      (fun h3 =>
      .ret (A282.a0 (w64 (0 + w64 (byteAt Y0 (Int.toNat (IntKind.wrap IntKind.u8 z4117))))))
      )
      (fun _ => .fail) -- none
     )
    )
   )
noncomputable def F282 (z4117 : Int) : Option A282 := (D282 z4117).ev some
theorem F282_ok (z4117 : Int) : ∀ b, F282 z4117 = some b → UU 282 ([V.int IntKind.u64 z4117]) ([]) = some (A282.out b) :=
  fn_ok (E := E282) (L := notIn []) rfl rfl (fun x => by kernel_rfl)
/-! ## F263 -/
noncomputable def D263 (z4116 : Int) : PT A263 :=
  .ask E282 (F282_ok (z4116)) fun (r : A282) => match r with
  | .a0 z4120 =>
   .ret (A263.a0 (w64 (64 - z4120)))
noncomputable def F263 (z4116 : Int) : Option A263 := (D263 z4116).ev some
theorem F263_ok (z4116 : Int) : ∀ b, F263 z4116 = some b → UU 263 ([V.int IntKind.u64 z4116]) ([]) = some (A263.out b) :=
  fn_ok (E := E263) (L := notIn []) rfl rfl (fun x => by kernel_rfl)
/-! ## F230 -/
noncomputable abbrev B230 : Code := (Tryz.f230.body).getD .skip
inductive N230_2 where
  | s0 (z4148 : Int) (z4149 : Int) (z4150 : Int) (z4151 : Int) (z4152 : Int) (z4153 : Int) (z4154 : Int) (z4155 : Int) (z4156 : Int)
  | e0 (z4157 : Int) (z4158 : Int) (z4159 : Int) (z4160 : Int) (z4161 : Int) (z4162 : Int)
@[reducible] def N230_2.out : N230_2 → VX × S
  | .s0 z4148 z4149 z4150 z4151 z4152 z4153 z4154 z4155 z4156 => (VX.normal, { T := U :: U :: V.int IntKind.u64 z4148 :: un 5 (V.int IntKind.u64 z4149 :: V.int IntKind.u64 z4150 :: V.int IntKind.u64 z4151 :: U :: U :: U :: V.int IntKind.u64 z4152 :: V.int IntKind.u64 z4153 :: V.int IntKind.u64 z4154 :: V.int IntKind.u64 z4155 :: V.int IntKind.u64 z4156 :: un 116 []), σ := [] })
  | .e0 z4157 z4158 z4159 z4160 z4161 z4162 => (VX.exit 2, { T := U :: U :: V.int IntKind.u64 z4157 :: un 5 (V.int IntKind.u64 z4158 :: un 5 (V.int IntKind.u64 z4159 :: V.int IntKind.u64 z4160 :: U :: V.int IntKind.u64 z4161 :: V.int IntKind.u64 z4162 :: un 116 [])), σ := [] })
def N230_2.ex (g : N230_2 → Prop) : Prop := (∃ (z4148 : Int) (z4149 : Int) (z4150 : Int) (z4151 : Int) (z4152 : Int) (z4153 : Int) (z4154 : Int) (z4155 : Int) (z4156 : Int), g (.s0 z4148 z4149 z4150 z4151 z4152 z4153 z4154 z4155 z4156)) ∨ (∃ (z4157 : Int) (z4158 : Int) (z4159 : Int) (z4160 : Int) (z4161 : Int) (z4162 : Int), g (.e0 z4157 z4158 z4159 z4160 z4161 z4162))
theorem N230_2.ok (g : N230_2 → Prop) : N230_2.ex g ↔ ∃ b, g b := ⟨fun h => match h with
  | .inl ⟨_, _, _, _, _, _, _, _, _, h⟩ => ⟨_, h⟩
  | .inr (⟨_, _, _, _, _, _, h⟩) => ⟨_, h⟩, fun ⟨b, h⟩ => match b, h with
  | .s0 _ _ _ _ _ _ _ _ _, h => .inl ⟨_, _, _, _, _, _, _, _, _, h⟩
  | .e0 _ _ _ _ _ _, h => .inr (⟨_, _, _, _, _, _, h⟩)⟩
abbrev E230_2 : Ent (VX × S) := ⟨N230_2, N230_2.out, N230_2.ex, N230_2.ok⟩
noncomputable def D230_2 (z4148 : Int) (z4149 : Int) (z4150 : Int) (z4151 : Int) (z4152 : Int) (z4153 : Int) (z4154 : Int) (z4155 : Int) (z4156 : Int) : PT N230_2 :=
  .test (z4156 ≥ 4294967296)
   (fun h0 =>
   .auto 9 <|
   .test (IntKind.wrap IntKind.u64 (z4154 + z4150) ≥ 4294967296)
    (fun h1 =>
    .ret (N230_2.e0 (z4148) (z4149) (z4152) (z4153) (z4155) (IntKind.wrap IntKind.u64 (z4156 - 1)))
    )
    (fun h1 =>
    .ret (N230_2.s0 (z4148) (z4149) (z4150) (z4151) (z4152) (z4153) (IntKind.wrap IntKind.u64 (z4154 + z4150)) (z4155) (IntKind.wrap IntKind.u64 (z4156 - 1)))
    )
   )
   (fun h0 =>
   .auto 8 <|
   .test (IntKind.wrap IntKind.u64 (z4156 * z4151) > IntKind.wrap IntKind.u64 (IntKind.wrap IntKind.u64 (4294967296 * z4154) + z4152))
    (fun h1 =>
    .test (IntKind.wrap IntKind.u64 (z4154 + z4150) ≥ 4294967296)
     (fun h2 =>
     .ret (N230_2.e0 (z4148) (z4149) (z4152) (z4153) (z4155) (IntKind.wrap IntKind.u64 (z4156 - 1)))
     )
     (fun h2 =>
     .ret (N230_2.s0 (z4148) (z4149) (z4150) (z4151) (z4152) (z4153) (IntKind.wrap IntKind.u64 (z4154 + z4150)) (z4155) (IntKind.wrap IntKind.u64 (z4156 - 1)))
     )
    )
    (fun h1 =>
    .ret (N230_2.e0 (z4148) (z4149) (z4152) (z4153) (z4155) (z4156))
    )
   )
noncomputable def S230_2 : N230_2 → PT N230_2
  | .s0 z4148 z4149 z4150 z4151 z4152 z4153 z4154 z4155 z4156 => D230_2 z4148 z4149 z4150 z4151 z4152 z4153 z4154 z4155 z4156
  | _ => .fail
def N230_2.off : N230_2 → Bool
  | .s0 _ _ _ _ _ _ _ _ _ => false
  | _ => true
noncomputable def L230_2 (n : Nat) (b : N230_2) : Option N230_2 := PT.loop (S230_2) N230_2.off n b
theorem L230_2_ok : ∀ (n : Nat) (b : N230_2), N230_2.off b = false → ∀ c, L230_2 n b = some c → loopP Tryz.prog X CC 230 (0) 18446744073709551616 B230 2 n (E230_2.out b).2 = some (E230_2.out c) :=
  loop_ok (E := E230_2) (step := S230_2) (L := notIn []) (fun b hb => by cases b <;> first | (cases hb; done) | (intro x; kernel_rfl)) (fun b => by cases b <;> rfl)
noncomputable def N230_2.nx (n : Nat) (c : N230_2) : Option N230_2 := match N230_2.off c with
  | true => some c
  | false => L230_2 n c
theorem L230_2_s0 (n : Nat) (z4148 : Int) (z4149 : Int) (z4150 : Int) (z4151 : Int) (z4152 : Int) (z4153 : Int) (z4154 : Int) (z4155 : Int) (z4156 : Int) : L230_2 (n + 1) (.s0 z4148 z4149 z4150 z4151 z4152 z4153 z4154 z4155 z4156) = (D230_2 z4148 z4149 z4150 z4151 z4152 z4153 z4154 z4155 z4156).ev (N230_2.nx n) := rfl
theorem N230_2.nx_s0 (n : Nat) (z4148 : Int) (z4149 : Int) (z4150 : Int) (z4151 : Int) (z4152 : Int) (z4153 : Int) (z4154 : Int) (z4155 : Int) (z4156 : Int) : N230_2.nx n (.s0 z4148 z4149 z4150 z4151 z4152 z4153 z4154 z4155 z4156) = L230_2 n (.s0 z4148 z4149 z4150 z4151 z4152 z4153 z4154 z4155 z4156) := rfl
theorem N230_2.nx_e0 (n : Nat) (z4157 : Int) (z4158 : Int) (z4159 : Int) (z4160 : Int) (z4161 : Int) (z4162 : Int) : N230_2.nx n (.e0 z4157 z4158 z4159 z4160 z4161 z4162) = some (.e0 z4157 z4158 z4159 z4160 z4161 z4162) := rfl
inductive N230_0 where
  | s0 (z4123 : Int) (z4124 : Int) (z4125 : Int) (z4126 : Int) (z4127 : Int) (z4128 : Int) (z4129 : Int) (z4130 : Int) (z4131 : Int)
  | e0 (z4132 : Int) (z4133 : Int) (z4134 : Int) (z4135 : Int) (z4136 : Int) (z4137 : Int) (z4138 : Int) (z4139 : Int)
@[reducible] def N230_0.out : N230_0 → VX × S
  | .s0 z4123 z4124 z4125 z4126 z4127 z4128 z4129 z4130 z4131 => (VX.normal, { T := U :: U :: V.int IntKind.u64 z4123 :: un 5 (V.int IntKind.u64 z4124 :: V.int IntKind.u64 z4125 :: V.int IntKind.u64 z4126 :: V.int IntKind.u64 z4127 :: U :: V.int IntKind.u64 z4128 :: V.int IntKind.u64 z4129 :: V.int IntKind.u64 z4130 :: V.int IntKind.u64 z4131 :: un 118 []), σ := [] })
  | .e0 z4132 z4133 z4134 z4135 z4136 z4137 z4138 z4139 => (VX.exit 0, { T := U :: U :: V.int IntKind.u64 z4132 :: un 5 (V.int IntKind.u64 z4133 :: V.int IntKind.u64 z4134 :: V.int IntKind.u64 z4135 :: V.int IntKind.u64 z4136 :: U :: V.int IntKind.u64 z4137 :: V.int IntKind.u64 z4138 :: V.int IntKind.u64 z4139 :: un 119 []), σ := [] })
def N230_0.ex (g : N230_0 → Prop) : Prop := (∃ (z4123 : Int) (z4124 : Int) (z4125 : Int) (z4126 : Int) (z4127 : Int) (z4128 : Int) (z4129 : Int) (z4130 : Int) (z4131 : Int), g (.s0 z4123 z4124 z4125 z4126 z4127 z4128 z4129 z4130 z4131)) ∨ (∃ (z4132 : Int) (z4133 : Int) (z4134 : Int) (z4135 : Int) (z4136 : Int) (z4137 : Int) (z4138 : Int) (z4139 : Int), g (.e0 z4132 z4133 z4134 z4135 z4136 z4137 z4138 z4139))
theorem N230_0.ok (g : N230_0 → Prop) : N230_0.ex g ↔ ∃ b, g b := ⟨fun h => match h with
  | .inl ⟨_, _, _, _, _, _, _, _, _, h⟩ => ⟨_, h⟩
  | .inr (⟨_, _, _, _, _, _, _, _, h⟩) => ⟨_, h⟩, fun ⟨b, h⟩ => match b, h with
  | .s0 _ _ _ _ _ _ _ _ _, h => .inl ⟨_, _, _, _, _, _, _, _, _, h⟩
  | .e0 _ _ _ _ _ _ _ _, h => .inr (⟨_, _, _, _, _, _, _, _, h⟩)⟩
abbrev E230_0 : Ent (VX × S) := ⟨N230_0, N230_0.out, N230_0.ex, N230_0.ok⟩
noncomputable def D230_0 (z4123 : Int) (z4124 : Int) (z4125 : Int) (z4126 : Int) (z4127 : Int) (z4128 : Int) (z4129 : Int) (z4130 : Int) (z4131 : Int) : PT N230_0 :=
  .test (z4130 ≥ 4294967296)
   (fun h0 =>
   .auto 9 <|
   .test (IntKind.wrap IntKind.u64 (z4131 + z4125) ≥ 4294967296)
    (fun h1 =>
    .ret (N230_0.e0 (z4123) (z4124) (z4125) (z4126) (z4127) (z4128) (z4129) (IntKind.wrap IntKind.u64 (z4130 - 1)))
    )
    (fun h1 =>
    .ret (N230_0.s0 (z4123) (z4124) (z4125) (z4126) (z4127) (z4128) (z4129) (IntKind.wrap IntKind.u64 (z4130 - 1)) (IntKind.wrap IntKind.u64 (z4131 + z4125)))
    )
   )
   (fun h0 =>
   .auto 8 <|
   .test (IntKind.wrap IntKind.u64 (z4130 * z4126) > IntKind.wrap IntKind.u64 (IntKind.wrap IntKind.u64 (4294967296 * z4131) + z4128))
    (fun h1 =>
    .test (IntKind.wrap IntKind.u64 (z4131 + z4125) ≥ 4294967296)
     (fun h2 =>
     .ret (N230_0.e0 (z4123) (z4124) (z4125) (z4126) (z4127) (z4128) (z4129) (IntKind.wrap IntKind.u64 (z4130 - 1)))
     )
     (fun h2 =>
     .ret (N230_0.s0 (z4123) (z4124) (z4125) (z4126) (z4127) (z4128) (z4129) (IntKind.wrap IntKind.u64 (z4130 - 1)) (IntKind.wrap IntKind.u64 (z4131 + z4125)))
     )
    )
    (fun h1 =>
    .ret (N230_0.e0 (z4123) (z4124) (z4125) (z4126) (z4127) (z4128) (z4129) (z4130))
    )
   )
noncomputable def S230_0 : N230_0 → PT N230_0
  | .s0 z4123 z4124 z4125 z4126 z4127 z4128 z4129 z4130 z4131 => D230_0 z4123 z4124 z4125 z4126 z4127 z4128 z4129 z4130 z4131
  | _ => .fail
def N230_0.off : N230_0 → Bool
  | .s0 _ _ _ _ _ _ _ _ _ => false
  | _ => true
noncomputable def L230_0 (n : Nat) (b : N230_0) : Option N230_0 := PT.loop (S230_0) N230_0.off n b
theorem L230_0_ok : ∀ (n : Nat) (b : N230_0), N230_0.off b = false → ∀ c, L230_0 n b = some c → loopP Tryz.prog X CC 230 (0) 18446744073709551616 B230 0 n (E230_0.out b).2 = some (E230_0.out c) :=
  loop_ok (E := E230_0) (step := S230_0) (L := notIn []) (fun b hb => by cases b <;> first | (cases hb; done) | (intro x; kernel_rfl)) (fun b => by cases b <;> rfl)
noncomputable def N230_0.nx (n : Nat) (c : N230_0) : Option N230_0 := match N230_0.off c with
  | true => some c
  | false => L230_0 n c
theorem L230_0_s0 (n : Nat) (z4123 : Int) (z4124 : Int) (z4125 : Int) (z4126 : Int) (z4127 : Int) (z4128 : Int) (z4129 : Int) (z4130 : Int) (z4131 : Int) : L230_0 (n + 1) (.s0 z4123 z4124 z4125 z4126 z4127 z4128 z4129 z4130 z4131) = (D230_0 z4123 z4124 z4125 z4126 z4127 z4128 z4129 z4130 z4131).ev (N230_0.nx n) := rfl
theorem N230_0.nx_s0 (n : Nat) (z4123 : Int) (z4124 : Int) (z4125 : Int) (z4126 : Int) (z4127 : Int) (z4128 : Int) (z4129 : Int) (z4130 : Int) (z4131 : Int) : N230_0.nx n (.s0 z4123 z4124 z4125 z4126 z4127 z4128 z4129 z4130 z4131) = L230_0 n (.s0 z4123 z4124 z4125 z4126 z4127 z4128 z4129 z4130 z4131) := rfl
theorem N230_0.nx_e0 (n : Nat) (z4132 : Int) (z4133 : Int) (z4134 : Int) (z4135 : Int) (z4136 : Int) (z4137 : Int) (z4138 : Int) (z4139 : Int) : N230_0.nx n (.e0 z4132 z4133 z4134 z4135 z4136 z4137 z4138 z4139) = some (.e0 z4132 z4133 z4134 z4135 z4136 z4137 z4138 z4139) := rfl
noncomputable def D230 (z4111 : Int) (z4112 : Int) (z4113 : Int) : PT A230 :=
  .testB (z4113 == 0)
   (fun _ => .fail) -- none
   (fun h0 =>
   .test (z4113 ≤ z4111)
    (fun _ => .fail) -- none
    (fun h1 =>
    .testB (z4111 == 0)
     (fun h2 =>
     .test (z4113 = 0)
      (fun _ => .fail) -- none
      (fun h3 =>
      .known (decide_eq_false h3) <|
      .ret (A230.a0 (IntKind.wrap IntKind.u64 (Int.tdiv z4112 z4113)) (Int.tmod z4112 z4113))
      )
     )
     (fun h2 =>
     .ask E263 (F263_ok (z4113)) fun (r : A263) => match r with
     | .a0 z4169 =>
      .test (IntKind.wrap IntKind.u64 z4169 < 0)
       (fun _ => .fail) -- none
       (fun h3 =>
       .auto 1 <|
       .known (decide_eq_false h3) <|
       .test (IntKind.wrap IntKind.u64 (64 - IntKind.wrap IntKind.u64 z4169) < 0)
        (fun _ => .fail) -- none
        (fun h4 =>
        .known (decide_eq_false h3) <|
        .auto 1 <|
        .test (Int.fdiv (IntKind.wrap IntKind.u64 (z4113 * 2 ^ min (Int.toNat (IntKind.wrap IntKind.u64 z4169)) 64)) 4294967296 = 0)
         (fun _ => .fail) -- none
         (fun h5 =>
         .cut E230_0 (L230_0_ok 18446744073709551616 (.s0 (IntKind.wrap IntKind.u64 (z4113 * 2 ^ min (Int.toNat (IntKind.wrap IntKind.u64 z4169)) 64)) (IntKind.wrap IntKind.u64 z4169) (Int.fdiv (IntKind.wrap IntKind.u64 (z4113 * 2 ^ min (Int.toNat (IntKind.wrap IntKind.u64 z4169)) 64)) 4294967296) (IntKind.wrap IntKind.u64 (↑(BitVec.toNat (BitVec.ofInt (IntKind.bits IntKind.u64) (IntKind.wrap IntKind.u64 (z4113 * 2 ^ min (Int.toNat (IntKind.wrap IntKind.u64 z4169)) 64)) &&& BitVec.ofInt (IntKind.bits IntKind.u64) 4294967295)) : Int)) (IntKind.wrap IntKind.u64 (↑(BitVec.toNat (BitVec.ofInt (IntKind.bits IntKind.u64) (IntKind.wrap IntKind.u64 (z4111 * 2 ^ min (Int.toNat (IntKind.wrap IntKind.u64 z4169)) (IntKind.bits IntKind.u64))) ||| BitVec.ofInt (IntKind.bits IntKind.u64) (Int.fdiv z4112 (2 ^ min (Int.toNat (IntKind.wrap IntKind.u64 (64 - IntKind.wrap IntKind.u64 z4169))) (IntKind.bits IntKind.u64))))) : Int)) (Int.fdiv (IntKind.wrap IntKind.u64 (z4112 * 2 ^ min (Int.toNat (IntKind.wrap IntKind.u64 z4169)) 64)) 4294967296) (IntKind.wrap IntKind.u64 (↑(BitVec.toNat (BitVec.ofInt (IntKind.bits IntKind.u64) (IntKind.wrap IntKind.u64 (z4112 * 2 ^ min (Int.toNat (IntKind.wrap IntKind.u64 z4169)) 64)) &&& BitVec.ofInt (IntKind.bits IntKind.u64) 4294967295)) : Int)) (IntKind.wrap IntKind.u64 (Int.tdiv (IntKind.wrap IntKind.u64 (↑(BitVec.toNat (BitVec.ofInt (IntKind.bits IntKind.u64) (IntKind.wrap IntKind.u64 (z4111 * 2 ^ min (Int.toNat (IntKind.wrap IntKind.u64 z4169)) (IntKind.bits IntKind.u64))) ||| BitVec.ofInt (IntKind.bits IntKind.u64) (Int.fdiv z4112 (2 ^ min (Int.toNat (IntKind.wrap IntKind.u64 (64 - IntKind.wrap IntKind.u64 z4169))) (IntKind.bits IntKind.u64))))) : Int)) (Int.fdiv (IntKind.wrap IntKind.u64 (z4113 * 2 ^ min (Int.toNat (IntKind.wrap IntKind.u64 z4169)) 64)) 4294967296))) (IntKind.wrap IntKind.u64 (IntKind.wrap IntKind.u64 (↑(BitVec.toNat (BitVec.ofInt (IntKind.bits IntKind.u64) (IntKind.wrap IntKind.u64 (z4111 * 2 ^ min (Int.toNat (IntKind.wrap IntKind.u64 z4169)) (IntKind.bits IntKind.u64))) ||| BitVec.ofInt (IntKind.bits IntKind.u64) (Int.fdiv z4112 (2 ^ min (Int.toNat (IntKind.wrap IntKind.u64 (64 - IntKind.wrap IntKind.u64 z4169))) (IntKind.bits IntKind.u64))))) : Int) - IntKind.wrap IntKind.u64 (IntKind.wrap IntKind.u64 (Int.tdiv (IntKind.wrap IntKind.u64 (↑(BitVec.toNat (BitVec.ofInt (IntKind.bits IntKind.u64) (IntKind.wrap IntKind.u64 (z4111 * 2 ^ min (Int.toNat (IntKind.wrap IntKind.u64 z4169)) (IntKind.bits IntKind.u64))) ||| BitVec.ofInt (IntKind.bits IntKind.u64) (Int.fdiv z4112 (2 ^ min (Int.toNat (IntKind.wrap IntKind.u64 (64 - IntKind.wrap IntKind.u64 z4169))) (IntKind.bits IntKind.u64))))) : Int)) (Int.fdiv (IntKind.wrap IntKind.u64 (z4113 * 2 ^ min (Int.toNat (IntKind.wrap IntKind.u64 z4169)) 64)) 4294967296)) * Int.fdiv (IntKind.wrap IntKind.u64 (z4113 * 2 ^ min (Int.toNat (IntKind.wrap IntKind.u64 z4169)) 64)) 4294967296)))) rfl) fun (r : N230_0) => match r with
         | .e0 z4170 z4171 z4172 z4173 z4174 z4175 z4176 z4177 =>
          .test (z4172 = 0)
           (fun _ => .fail) -- none
           (fun h6 =>
           .cut E230_2 (L230_2_ok 18446744073709551616 (.s0 (z4170) (z4171) (z4172) (z4173) (z4176) (z4177) (IntKind.wrap IntKind.u64 (IntKind.wrap IntKind.u64 (IntKind.wrap IntKind.u64 (IntKind.wrap IntKind.u64 (z4174 * 4294967296) + z4175) - IntKind.wrap IntKind.u64 (z4177 * z4170)) - IntKind.wrap IntKind.u64 (IntKind.wrap IntKind.u64 (Int.tdiv (IntKind.wrap IntKind.u64 (IntKind.wrap IntKind.u64 (IntKind.wrap IntKind.u64 (z4174 * 4294967296) + z4175) - IntKind.wrap IntKind.u64 (z4177 * z4170))) z4172) * z4172))) (IntKind.wrap IntKind.u64 (IntKind.wrap IntKind.u64 (IntKind.wrap IntKind.u64 (z4174 * 4294967296) + z4175) - IntKind.wrap IntKind.u64 (z4177 * z4170))) (IntKind.wrap IntKind.u64 (Int.tdiv (IntKind.wrap IntKind.u64 (IntKind.wrap IntKind.u64 (IntKind.wrap IntKind.u64 (z4174 * 4294967296) + z4175) - IntKind.wrap IntKind.u64 (z4177 * z4170))) z4172))) rfl) fun (r : N230_2) => match r with
           | .e0 z4178 z4179 z4180 z4181 z4182 z4183 =>
            .test (z4179 < 0)
             (fun _ => .fail) -- none
             (fun h7 =>
             .ret (A230.a0 (IntKind.wrap IntKind.u64 (IntKind.wrap IntKind.u64 (z4181 * 4294967296) + z4183)) (Int.fdiv (IntKind.wrap IntKind.u64 (IntKind.wrap IntKind.u64 (IntKind.wrap IntKind.u64 (z4182 * 4294967296) + z4180) - IntKind.wrap IntKind.u64 (z4183 * z4178))) (2 ^ min (Int.toNat z4179) 64)))
             )
           | _ => .fail
           )
         | _ => .fail
         )
        )
       )
     )
    )
   )
noncomputable def F230 (z4111 : Int) (z4112 : Int) (z4113 : Int) : Option A230 := (D230 z4111 z4112 z4113).ev some
theorem F230_ok (z4111 : Int) (z4112 : Int) (z4113 : Int) : ∀ b, F230 z4111 z4112 z4113 = some b → UU 230 ([V.int IntKind.u64 z4111, V.int IntKind.u64 z4112, V.int IntKind.u64 z4113]) ([]) = some (A230.out b) :=
  fn_ok (E := E230) (L := notIn []) rfl rfl (fun x => by kernel_rfl)
/-! ## F188 -/
noncomputable abbrev B188 : Code := (Tryz.f188.body).getD .skip
inductive N188_r6 where
  | e0 (b4189 : Bool) (z4190 : Int) (b4191 : Bool)
@[reducible] def N188_r6.out : N188_r6 → VX × S
  | .e0 b4189 z4190 b4191 => (VX.normal, { T := U :: U :: U :: vb b4189 :: un 5 (V.int IntKind.u64 z4190 :: un 21 (vb b4191 :: un 10 [])), σ := [] })
def N188_r6.ex (g : N188_r6 → Prop) : Prop := (∃ (b4189 : Bool) (z4190 : Int) (b4191 : Bool), g (.e0 b4189 z4190 b4191))
theorem N188_r6.ok (g : N188_r6 → Prop) : N188_r6.ex g ↔ ∃ b, g b := ⟨fun h => match h with
  | ⟨_, _, _, h⟩ => ⟨_, h⟩, fun ⟨b, h⟩ => match b, h with
  | .e0 _ _ _, h => ⟨_, _, _, h⟩⟩
abbrev E188_r6 : Ent (VX × S) := ⟨N188_r6, N188_r6.out, N188_r6.ex, N188_r6.ok⟩
noncomputable def D188_r6 (b4186 : Bool) (z4187 : Int) (z4188 : Int) : PT N188_r6 :=
  .testB (b4186)
   (fun h0 =>
   .auto 2 <|
   .test (z4188 > 0)
    (fun h1 =>
    .auto 2 <|
    .ret (N188_r6.e0 (b4186) (z4187) (decide (z4187 < 4611686018427387904)))
    )
    (fun h1 =>
    .auto 2 <|
    .ret (N188_r6.e0 (b4186) (z4187) (false))
    )
   )
   (fun h0 =>
   .auto 5 <|
   .ret (N188_r6.e0 (b4186) (z4187) (false))
   )
noncomputable def J188_r6 (b4186 : Bool) (z4187 : Int) (z4188 : Int) : Option N188_r6 := (D188_r6 b4186 z4187 z4188).ev some
theorem J188_r6_ok (b4186 : Bool) (z4187 : Int) (z4188 : Int) : ∀ b, J188_r6 b4186 z4187 z4188 = some b → regP Tryz.prog X CC 188 (0) B188 6 ({ T := U :: U :: U :: vb b4186 :: un 5 (V.int IntKind.u64 z4187 :: V.int IntKind.u64 z4188 :: un 31 []), σ := [] }) = some (E188_r6.out b) :=
  reg_ok (E := E188_r6) (fun x => by kernel_rfl)
noncomputable def D188 (z4106 : Int) (z4107 : Int) (z4108 : Int) (b4109 : Bool) : PT A188 :=
  .test (z4106 ≥ z4108)
   (fun h0 =>
   .testB (b4109)
    (fun h1 =>
    .ret (A188.a0 (-1099511627776))
    )
    (fun h1 =>
    .ret (A188.a0 (1099511627776))
    )
   )
   (fun h0 =>
   .ask E230 (F230_ok (z4106) (z4107) (z4108)) fun (r : A230) => match r with
   | .a0 z4199 z4200 =>
    .cut E188_r6 (J188_r6_ok (b4109) (z4199) (z4200)) fun (r : N188_r6) => match r with
    | .e0 b4201 z4202 b4203 =>
     .testB (b4203)
      (fun h1 =>
      .testB (b4201)
       (fun h2 =>
       .tot O186 (F186_ok (w64 (0 - w64 (if 4611686018427387904 < IntKind.wrap IntKind.u64 (z4202 + 1) then 4611686018427387904 else IntKind.wrap IntKind.u64 (z4202 + 1))))) fun z4204 =>
       .ret (A188.a0 (z4204))
       )
       (fun h2 =>
       .tot O186 (F186_ok (w64 (if 4611686018427387904 < IntKind.wrap IntKind.u64 (z4202 + 1) then 4611686018427387904 else IntKind.wrap IntKind.u64 (z4202 + 1)))) fun z4205 =>
       .ret (A188.a0 (z4205))
       )
      )
      (fun h1 =>
      .testB (b4201)
       (fun h2 =>
       .tot O186 (F186_ok (w64 (0 - w64 (if 4611686018427387904 < z4202 then 4611686018427387904 else z4202)))) fun z4206 =>
       .ret (A188.a0 (z4206))
       )
       (fun h2 =>
       .tot O186 (F186_ok (w64 (if 4611686018427387904 < z4202 then 4611686018427387904 else z4202))) fun z4207 =>
       .ret (A188.a0 (z4207))
       )
      )
   )
noncomputable def F188 (z4106 : Int) (z4107 : Int) (z4108 : Int) (b4109 : Bool) : Option A188 := (D188 z4106 z4107 z4108 b4109).ev some
theorem F188_ok (z4106 : Int) (z4107 : Int) (z4108 : Int) (b4109 : Bool) : ∀ b, F188 z4106 z4107 z4108 b4109 = some b → UU 188 ([V.int IntKind.u64 z4106, V.int IntKind.u64 z4107, V.int IntKind.u64 z4108, vb b4109]) ([]) = some (A188.out b) :=
  fn_ok (E := E188) (L := notIn []) rfl rfl (fun x => by kernel_rfl)
/-! ## F126 -/
noncomputable def D126 (z4093 : Int) (z4094 : Int) : PT A126 :=
  .tot O186 (F186_ok (z4093)) fun z4095 =>
  .ask E185 (F185_ok (z4095)) fun (r : A185) => match r with
  | .a0 z4099 b4100 =>
   .tot O186 (F186_ok (z4094)) fun z4101 =>
   .ask E185 (F185_ok (z4101)) fun (r : A185) => match r with
   | .a0 z4102 b4103 =>
    .ask E187 (F187_ok (z4099) (z4102)) fun (r : A187) => match r with
    | .a0 z4104 z4105 =>
     .ask E188 (F188_ok (z4104) (z4105) (65536) (!b4100 == b4103)) fun (r : A188) => match r with
     | .a0 z4208 =>
      .ret (A126.a0 (z4208))
noncomputable def F126 (z4093 : Int) (z4094 : Int) : Option A126 := (D126 z4093 z4094).ev some
theorem F126_ok (z4093 : Int) (z4094 : Int) : ∀ b, F126 z4093 z4094 = some b → UU 126 ([i64 z4093, i64 z4094]) ([]) = some (A126.out b) :=
  fn_ok (E := E126) (L := notIn []) rfl rfl (fun x => by kernel_rfl)
/-! ## F141 -/
noncomputable def D141 (z4218 : Int) (z4219 : Int) : PT (Int) :=
  .tot O186 (F186_ok (z4218)) fun z4220 =>
  .tot O186 (F186_ok (z4219)) fun z4221 =>
  .tot O186 (F186_ok (w64 (z4220 + z4221))) fun z4222 =>
  .ret (z4222)
@[reducible] def O141 (z4223 : Int) : V × Store := (i64 z4223, [])
noncomputable def F141 (z4218 : Int) (z4219 : Int) : Int := (D141 z4218 z4219).evT
theorem F141_ok (z4218 : Int) (z4219 : Int) : UU 141 ([i64 z4218, i64 z4219]) ([]) = some (O141 (F141 z4218 z4219)) :=
  fnT_ok (out := O141) (L := notIn []) rfl rfl (fun x => by kernel_rfl) (by simp [D141, PT.isT])
/-! ## F261 -/
noncomputable def D261 (z4089 : Int) (z4090 : Int) (z4091 : Int) : PT A261 :=
  .tot O145 (F145_ok (z4091) (0) (65536)) fun z4092 =>
  .ask E126 (F126_ok (w64 (65536 - z4092)) (w64 (65536 - z4092))) fun (r : A126) => match r with
  | .a0 z4210 =>
   .ask E126 (F126_ok (z4210) (z4092)) fun (r : A126) => match r with
   | .a0 z4211 =>
    .ask E126 (F126_ok (w64 (65536 - z4092)) (z4092)) fun (r : A126) => match r with
    | .a0 z4212 =>
     .ask E126 (F126_ok (z4212) (z4092)) fun (r : A126) => match r with
     | .a0 z4213 =>
      .ask E126 (F126_ok (z4092) (z4092)) fun (r : A126) => match r with
      | .a0 z4214 =>
       .ask E126 (F126_ok (z4214) (z4092)) fun (r : A126) => match r with
       | .a0 z4215 =>
        .ask E126 (F126_ok (w64 (3 * z4211)) (z4089)) fun (r : A126) => match r with
        | .a0 z4216 =>
         .ask E126 (F126_ok (w64 (3 * z4213)) (z4090)) fun (r : A126) => match r with
         | .a0 z4217 =>
          .tot O141 (F141_ok (z4216) (z4217)) fun z4224 =>
          .tot O141 (F141_ok (z4224) (z4215)) fun z4225 =>
          .ret (A261.a0 (z4225))
noncomputable def F261 (z4089 : Int) (z4090 : Int) (z4091 : Int) : Option A261 := (D261 z4089 z4090 z4091).ev some
theorem F261_ok (z4089 : Int) (z4090 : Int) (z4091 : Int) : ∀ b, F261 z4089 z4090 z4091 = some b → UU 261 ([i64 z4089, i64 z4090, i64 z4091]) ([]) = some (A261.out b) :=
  fn_ok (E := E261) (L := notIn []) rfl rfl (fun x => by kernel_rfl)
/-! ## F225 -/
noncomputable abbrev B225 : Code := (Tryz.f225.body).getD .skip
inductive N225_0 where
  | s0 (z4235 : Int) (z4236 : Int) (z4237 : Int) (z4238 : Int) (z4239 : Int) (z4240 : Int) (z4241 : Int) (z4242 : Int)
  | e0 (z4244 : Int) (z4245 : Int) (z4246 : Int) (z4247 : Int) (z4248 : Int)
@[reducible] def N225_0.out : N225_0 → VX × S
  | .s0 z4235 z4236 z4237 z4238 z4239 z4240 z4241 z4242 => (VX.normal, { T := U :: i64 z4235 :: V.ptr 0 0 0 :: U :: U :: i64 z4236 :: i64 z4237 :: i64 z4238 :: un 29 [], σ := [Ob.cells true false 4 [[i64 z4239, i64 z4240, i64 z4241, i64 z4242]]] })
  | .e0 z4244 z4245 z4246 z4247 z4248 => (VX.exit 0, { T := U :: U :: V.ptr 0 0 0 :: U :: U :: i64 z4244 :: un 31 [], σ := [Ob.cells true false 4 [[i64 z4245, i64 z4246, i64 z4247, i64 z4248]]] })
def N225_0.ex (g : N225_0 → Prop) : Prop := (∃ (z4235 : Int) (z4236 : Int) (z4237 : Int) (z4238 : Int) (z4239 : Int) (z4240 : Int) (z4241 : Int) (z4242 : Int), g (.s0 z4235 z4236 z4237 z4238 z4239 z4240 z4241 z4242)) ∨ (∃ (z4244 : Int) (z4245 : Int) (z4246 : Int) (z4247 : Int) (z4248 : Int), g (.e0 z4244 z4245 z4246 z4247 z4248))
theorem N225_0.ok (g : N225_0 → Prop) : N225_0.ex g ↔ ∃ b, g b := ⟨fun h => match h with
  | .inl ⟨_, _, _, _, _, _, _, _, h⟩ => ⟨_, h⟩
  | .inr (⟨_, _, _, _, _, h⟩) => ⟨_, h⟩, fun ⟨b, h⟩ => match b, h with
  | .s0 _ _ _ _ _ _ _ _, h => .inl ⟨_, _, _, _, _, _, _, _, h⟩
  | .e0 _ _ _ _ _, h => .inr (⟨_, _, _, _, _, h⟩)⟩
abbrev E225_0 : Ent (VX × S) := ⟨N225_0, N225_0.out, N225_0.ex, N225_0.ok⟩
noncomputable def D225_0 (z4235 : Int) (z4236 : Int) (z4237 : Int) (z4238 : Int) (z4239 : Int) (z4240 : Int) (z4241 : Int) (z4242 : Int) : PT N225_0 :=
  .test (z4238 < 16)
   (fun h0 =>
   .auto 3 <|
   .ask E261 (F261_ok (z4239) (z4241) (w64 (Int.tdiv (w64 (z4236 + z4237)) 2))) fun (r : A261) => match r with
   | .a0 z4255 =>
    .test (z4255 ≤ z4235)
     (fun h1 =>
     .ret (N225_0.s0 (z4235) (w64 (Int.tdiv (w64 (z4236 + z4237)) 2)) (z4237) (w64 (z4238 + 1)) (z4239) (z4240) (z4241) (z4242))
     )
     (fun h1 =>
     .ret (N225_0.s0 (z4235) (z4236) (w64 (Int.tdiv (w64 (z4236 + z4237)) 2)) (w64 (z4238 + 1)) (z4239) (z4240) (z4241) (z4242))
     )
   )
   (fun h0 =>
   .ret (N225_0.e0 (z4236) (z4239) (z4240) (z4241) (z4242))
   )
noncomputable def S225_0 : N225_0 → PT N225_0
  | .s0 z4235 z4236 z4237 z4238 z4239 z4240 z4241 z4242 => D225_0 z4235 z4236 z4237 z4238 z4239 z4240 z4241 z4242
  | _ => .fail
def N225_0.off : N225_0 → Bool
  | .s0 _ _ _ _ _ _ _ _ => false
  | _ => true
noncomputable def L225_0 (n : Nat) (b : N225_0) : Option N225_0 := PT.loop (S225_0) N225_0.off n b
theorem L225_0_ok : ∀ (n : Nat) (b : N225_0), N225_0.off b = false → ∀ c, L225_0 n b = some c → loopP Tryz.prog X CC 225 (0) 18446744073709551616 B225 0 n (E225_0.out b).2 = some (E225_0.out c) :=
  loop_ok (E := E225_0) (step := S225_0) (L := notIn []) (fun b hb => by cases b <;> first | (cases hb; done) | (intro x; kernel_rfl)) (fun b => by cases b <;> rfl)
noncomputable def N225_0.nx (n : Nat) (c : N225_0) : Option N225_0 := match N225_0.off c with
  | true => some c
  | false => L225_0 n c
theorem L225_0_s0 (n : Nat) (z4235 : Int) (z4236 : Int) (z4237 : Int) (z4238 : Int) (z4239 : Int) (z4240 : Int) (z4241 : Int) (z4242 : Int) : L225_0 (n + 1) (.s0 z4235 z4236 z4237 z4238 z4239 z4240 z4241 z4242) = (D225_0 z4235 z4236 z4237 z4238 z4239 z4240 z4241 z4242).ev (N225_0.nx n) := rfl
theorem N225_0.nx_s0 (n : Nat) (z4235 : Int) (z4236 : Int) (z4237 : Int) (z4238 : Int) (z4239 : Int) (z4240 : Int) (z4241 : Int) (z4242 : Int) : N225_0.nx n (.s0 z4235 z4236 z4237 z4238 z4239 z4240 z4241 z4242) = L225_0 n (.s0 z4235 z4236 z4237 z4238 z4239 z4240 z4241 z4242) := rfl
theorem N225_0.nx_e0 (n : Nat) (z4244 : Int) (z4245 : Int) (z4246 : Int) (z4247 : Int) (z4248 : Int) : N225_0.nx n (.e0 z4244 z4245 z4246 z4247 z4248) = some (.e0 z4244 z4245 z4246 z4247 z4248) := rfl
noncomputable def D225 (z4078 : Int) (z4079 : Int) (z4080 : Int) (z4081 : Int) (z4082 : Int) : PT A225 :=
  .test (z4082 ≤ 0)
   (fun h0 =>
   .ret (A225.a0 (0))
   )
   (fun h0 =>
   .test (z4082 ≥ 65536)
    (fun h1 =>
    .ret (A225.a0 (65536))
    )
    (fun h1 =>
    .cut E225_0 (L225_0_ok 18446744073709551616 (.s0 (z4082) (0) (65536) (0) (z4078) (z4079) (z4080) (z4081)) rfl) fun (r : N225_0) => match r with
    | .e0 z4256 z4257 z4258 z4259 z4260 =>
     .auto 2 <|
     .ask E261 (F261_ok (z4258) (z4260) (z4256)) fun (r : A261) => match r with
     | .a0 z4261 =>
      .ret (A225.a0 (z4261))
    | _ => .fail
    )
   )
noncomputable def F225 (z4078 : Int) (z4079 : Int) (z4080 : Int) (z4081 : Int) (z4082 : Int) : Option A225 := (D225 z4078 z4079 z4080 z4081 z4082).ev some
theorem F225_ok (z4078 : Int) (z4079 : Int) (z4080 : Int) (z4081 : Int) (z4082 : Int) : ∀ b, F225 z4078 z4079 z4080 z4081 z4082 = some b → UU 225 ([V.agg [i64 z4078, i64 z4079, i64 z4080, i64 z4081], i64 z4082]) ([]) = some (A225.out b) :=
  fn_ok (E := E225) (L := notIn []) rfl rfl (fun x => by kernel_rfl)
/-! ## F174 -/
noncomputable def D174 (z4071 : Int) (z4072 : Int) (z4073 : Int) (z4074 : Int) (z4075 : Int) (z4076 : Int) : PT A174 :=
  .testB (z4071 == 0)
   (fun h0 =>
   .test (z4076 ≥ 65536)
    (fun h1 =>
    .ret (A174.a0 (65536))
    )
    (fun h1 =>
    .ret (A174.a0 (0))
    )
   )
   (fun h0 =>
   .testB (z4071 == 1)
    (fun h1 =>
    .ret (A174.a0 (z4076))
    )
    (fun h1 =>
    .testB (z4071 == 2)
     (fun h2 =>
     .auto 1 <|
     .ask E225 (F225_ok (z4072) (z4073) (z4074) (z4075) (z4076)) fun (r : A225) => match r with
     | .a0 z4262 =>
      .ret (A174.a0 (z4262))
     )
     (fun h2 =>
     .ret (A174.a0 (0))
     )
    )
   )
noncomputable def F174 (z4071 : Int) (z4072 : Int) (z4073 : Int) (z4074 : Int) (z4075 : Int) (z4076 : Int) : Option A174 := (D174 z4071 z4072 z4073 z4074 z4075 z4076).ev some
theorem F174_ok (z4071 : Int) (z4072 : Int) (z4073 : Int) (z4074 : Int) (z4075 : Int) (z4076 : Int) : ∀ b, F174 z4071 z4072 z4073 z4074 z4075 z4076 = some b → UU 174 ([i64 z4071, V.agg [i64 z4072, i64 z4073, i64 z4074, i64 z4075], i64 z4076]) ([]) = some (A174.out b) :=
  fn_ok (E := E174) (L := notIn []) rfl rfl (fun x => by kernel_rfl)
/-! ## F173 -/
noncomputable def D173 (z4264 : Int) (z4265 : Int) (z4266 : Int) : PT A173 :=
  .tot O186 (F186_ok (z4264)) fun z4267 =>
  .tot O141 (F141_ok (z4265) (w64 (0 - z4267))) fun z4268 =>
  .ask E126 (F126_ok (z4268) (z4266)) fun (r : A126) => match r with
  | .a0 z4269 =>
   .tot O141 (F141_ok (z4264) (z4269)) fun z4270 =>
   .ret (A173.a0 (z4270))
noncomputable def F173 (z4264 : Int) (z4265 : Int) (z4266 : Int) : Option A173 := (D173 z4264 z4265 z4266).ev some
theorem F173_ok (z4264 : Int) (z4265 : Int) (z4266 : Int) : ∀ b, F173 z4264 z4265 z4266 = some b → UU 173 ([i64 z4264, i64 z4265, i64 z4266]) ([]) = some (A173.out b) :=
  fn_ok (E := E173) (L := notIn []) rfl rfl (fun x => by kernel_rfl)
/-! ## F110 -/
noncomputable def D110 (l4028 : List (List V)) (z4029 : Int) (z4030 : Int) : PT A110 :=
  .testB ((↑(List.length l4028) : Int) == 0)
   (fun h0 =>
   .ret (A110.a0 (z4030))
   )
   (fun h0 =>
   .ask E172 (F172_ok (l4028) (z4029)) fun (r : A172) => match r with
   | .a0 z4047 =>
    .test (z4047 < 0)
     (fun h1 =>
     .auto 1 <|
     .look RW74 (l4028[(0 : Nat)]?) fun e4048 =>
     .ret (A110.a0 (e4048.c1))
     )
     (fun h1 =>
     .testB (z4047 == w64 ((↑(List.length l4028) : Int) - 1))
      (fun h2 =>
      .test (0 ≤ z4047)
       (fun h3 =>
       .look RW74 (l4028[Int.toNat z4047]?) fun e4049 =>
       .ret (A110.a0 (e4049.c1))
       )
       (fun _ => .fail) -- none
      )
      (fun h2 =>
      .test (0 ≤ z4047)
       (fun h3 =>
       .look RW74 (l4028[Int.toNat z4047]?) fun e4050 =>
       .test (0 ≤ w64 (z4047 + 1))
        (fun h4 =>
        .look RW74 (l4028[Int.toNat (w64 (z4047 + (1 : Int)))]?) fun e4051 =>
        .known (decide_eq_true h3) <|
        .look RW74 (l4028[Int.toNat z4047]?) fun e4052 =>
        .known (decide_eq_true h3) <|
        .look RW74 (l4028[Int.toNat z4047]?) fun e4053 =>
        .known (decide_eq_true h3) <|
        .look RW74 (l4028[Int.toNat z4047]?) fun e4054 =>
        .known (decide_eq_true h4) <|
        .look RW74 (l4028[Int.toNat (w64 (z4047 + (1 : Int)))]?) fun e4055 =>
        .ask E175 (F175_ok (e4054.c0) (e4055.c0) (z4029)) fun (r : A175) => match r with
        | .a0 z4070 =>
         .ask E174 (F174_ok (e4052.c2) (e4053.c3) (e4053.c4) (e4053.c5) (e4053.c6) (z4070)) fun (r : A174) => match r with
         | .a0 z4263 =>
          .ask E173 (F173_ok (e4050.c1) (e4051.c1) (z4263)) fun (r : A173) => match r with
          | .a0 z4272 =>
           .ret (A110.a0 (z4272))
        )
        (fun _ => .fail) -- none
       )
       (fun _ => .fail) -- none
      )
     )
   )
noncomputable def F110 (l4028 : List (List V)) (z4029 : Int) (z4030 : Int) : Option A110 := (D110 l4028 z4029 z4030).ev some
theorem F110_ok (l4028 : List (List V)) (z4029 : Int) (z4030 : Int) : ∀ b, F110 l4028 z4029 z4030 = some b → UU 110 ([V.list 7 l4028, i64 z4029, i64 z4030]) ([]) = some (A110.out b) :=
  fn_ok (E := E110) (L := notIn []) rfl rfl (fun x => by kernel_rfl)
/-! ## F124 -/
noncomputable abbrev B124 : Code := (Tryz.f124.body).getD .skip
inductive N124_0 where
  | s0 (l4283 : List (List V)) (z4284 : Int) (k4285 : Nat) (l4286 : List (List V))
  | e0 (k4295 : Nat) (l4296 : List (List V))
@[reducible] def N124_0.out : N124_0 → VX × S
  | .s0 l4283 z4284 k4285 l4286 => (VX.normal, { T := V.list 2 l4283 :: U :: V.ptr 0 0 0 :: V.ptr 1 0 0 :: i64 z4284 :: un 34 [], σ := [Ob.cells true false 2 [[vb false, V.hs 2 0 0]], Ob.cells true false 2 [[vb true, V.hs 3 0 k4285]], Ob.cells true true 2 [], Ob.cells true true 2 l4286] })
  | .e0 k4295 l4296 => (VX.exit 0, { T := U :: U :: V.ptr 0 0 0 :: V.ptr 1 0 0 :: un 35 [], σ := [Ob.cells true false 2 [[vb false, V.hs 2 0 0]], Ob.cells true false 2 [[vb true, V.hs 3 0 k4295]], Ob.cells true true 2 [], Ob.cells true true 2 l4296] })
def N124_0.ex (g : N124_0 → Prop) : Prop := (∃ (l4283 : List (List V)) (z4284 : Int) (k4285 : Nat) (l4286 : List (List V)), g (.s0 l4283 z4284 k4285 l4286)) ∨ (∃ (k4295 : Nat) (l4296 : List (List V)), g (.e0 k4295 l4296))
theorem N124_0.ok (g : N124_0 → Prop) : N124_0.ex g ↔ ∃ b, g b := ⟨fun h => match h with
  | .inl ⟨_, _, _, _, h⟩ => ⟨_, h⟩
  | .inr (⟨_, _, h⟩) => ⟨_, h⟩, fun ⟨b, h⟩ => match b, h with
  | .s0 _ _ _ _, h => .inl ⟨_, _, _, _, h⟩
  | .e0 _ _, h => .inr (⟨_, _, h⟩)⟩
abbrev E124_0 : Ent (VX × S) := ⟨N124_0, N124_0.out, N124_0.ex, N124_0.ok⟩
noncomputable def D124_0 (l4283 : List (List V)) (z4284 : Int) (k4285 : Nat) (l4286 : List (List V)) : PT N124_0 :=
  .test (z4284 < (↑(List.length l4283) : Int))
   (fun h0 =>
   .test (0 ≤ z4284)
    (fun h1 =>
    .look RW28 (l4283[Int.toNat z4284]?) fun e4300 =>
    .test ((↑(List.length l4283) : Int) = 0)
     (fun _ => .fail) -- none
     (fun h2 =>
     .test (0 ≤ Int.tmod (w64 (z4284 + 1)) (↑(List.length l4283) : Int))
      (fun h3 =>
      .look RW28 (l4283[Int.toNat (Int.tmod (w64 (z4284 + (1 : Int))) (↑(List.length l4283) : Int))]?) fun e4301 =>
      .auto 7 <|
      .test (0 + k4285 ≤ List.length l4286 ∧ (k4285 + 3) * 16 ≤ 140737488355328 ∧ k4285 + 3 ≤ 140737488355328)
       (fun h4 =>
       .auto 1 <|
       .ret (N124_0.s0 (l4283) (w64 (z4284 + 1)) (k4285 + 3) (List.take k4285 l4286 ++ [[i64 e4300.c0, i64 e4300.c1], [i64 e4301.c0, i64 e4301.c1], [i64 e4301.c0, i64 e4301.c1]]))
       )
       (fun _ => .fail) -- none
      )
      (fun _ => .fail) -- none
     )
    )
    (fun _ => .fail) -- none
   )
   (fun h0 =>
   .ret (N124_0.e0 (k4285) (l4286))
   )
noncomputable def S124_0 : N124_0 → PT N124_0
  | .s0 l4283 z4284 k4285 l4286 => D124_0 l4283 z4284 k4285 l4286
  | _ => .fail
def N124_0.off : N124_0 → Bool
  | .s0 _ _ _ _ => false
  | _ => true
noncomputable def L124_0 (n : Nat) (b : N124_0) : Option N124_0 := PT.loop (S124_0) N124_0.off n b
theorem L124_0_ok : ∀ (n : Nat) (b : N124_0), N124_0.off b = false → ∀ c, L124_0 n b = some c → loopP Tryz.prog X CC 124 (0) 18446744073709551616 B124 0 n (E124_0.out b).2 = some (E124_0.out c) :=
  loop_ok (E := E124_0) (step := S124_0) (L := notIn []) (fun b hb => by cases b <;> first | (cases hb; done) | (intro x; kernel_rfl)) (fun b => by cases b <;> rfl)
noncomputable def N124_0.nx (n : Nat) (c : N124_0) : Option N124_0 := match N124_0.off c with
  | true => some c
  | false => L124_0 n c
theorem L124_0_s0 (n : Nat) (l4283 : List (List V)) (z4284 : Int) (k4285 : Nat) (l4286 : List (List V)) : L124_0 (n + 1) (.s0 l4283 z4284 k4285 l4286) = (D124_0 l4283 z4284 k4285 l4286).ev (N124_0.nx n) := rfl
theorem N124_0.nx_s0 (n : Nat) (l4283 : List (List V)) (z4284 : Int) (k4285 : Nat) (l4286 : List (List V)) : N124_0.nx n (.s0 l4283 z4284 k4285 l4286) = L124_0 n (.s0 l4283 z4284 k4285 l4286) := rfl
theorem N124_0.nx_e0 (n : Nat) (k4295 : Nat) (l4296 : List (List V)) : N124_0.nx n (.e0 k4295 l4296) = some (.e0 k4295 l4296) := rfl
noncomputable def D124 (l4277 : List (List V)) : PT A124 :=
  .auto 1 <|
  .look RW28 (l4277[(0 : Nat)]?) fun e4299 =>
  .auto 1 <|
  .cut E124_0 (L124_0_ok 18446744073709551616 (.s0 (l4277) (0) (1) ([[i64 e4299.c0, i64 e4299.c1]])) rfl) fun (r : N124_0) => match r with
  | .e0 k4302 l4303 =>
   .auto 2 <|
   .ret (A124.a0 (true) (k4302) (l4303))
  | _ => .fail
noncomputable def F124 (l4277 : List (List V)) : Option A124 := (D124 l4277).ev some
theorem F124_ok (l4277 : List (List V)) : ∀ b, F124 l4277 = some b → UU 124 ([V.list 2 l4277]) ([]) = some (A124.out b) :=
  fn_ok (E := E124) (L := notIn []) rfl rfl (fun x => by kernel_rfl)
/-! ## F64 -/
noncomputable def D64 (z4275 : Int) (z4276 : Int) : PT A64 :=
  .auto 3 <|
  .ask E124 (F124_ok ([[i64 (w64 (0 - Int.fdiv z4275 2)), i64 (w64 (0 - Int.fdiv z4276 2))], [i64 (w64 (z4275 + w64 (0 - Int.fdiv z4275 2))), i64 (w64 (0 - Int.fdiv z4276 2))], [i64 (w64 (z4275 + w64 (0 - Int.fdiv z4275 2))), i64 (w64 (z4276 + w64 (0 - Int.fdiv z4276 2)))], [i64 (w64 (0 - Int.fdiv z4275 2)), i64 (w64 (z4276 + w64 (0 - Int.fdiv z4276 2)))]])) fun (r : A124) => match r with
  | .a0 b4304 k4305 l4306 =>
   .auto 1 <|
   .ret (A64.a0 (b4304) (k4305) (l4306))
noncomputable def F64 (z4275 : Int) (z4276 : Int) : Option A64 := (D64 z4275 z4276).ev some
theorem F64_ok (z4275 : Int) (z4276 : Int) : ∀ b, F64 z4275 z4276 = some b → UU 64 ([i64 z4275, i64 z4276]) ([]) = some (A64.out b) :=
  fn_ok (E := E64) (L := notIn []) rfl rfl (fun x => by kernel_rfl)
/-! ## F66 -/
noncomputable def D66 (z4316 : Int) (z4317 : Int) : PT A66 :=
  .auto 2 <|
  .ask E126 (F126_ok (Int.fdiv z4316 2) (36195)) fun (r : A126) => match r with
  | .a0 z4318 =>
   .ask E126 (F126_ok (Int.fdiv z4317 2) (36195)) fun (r : A126) => match r with
   | .a0 z4319 =>
    .auto 1 <|
    .ret (A66.a0 (true) (13) ([[i64 (Int.fdiv z4316 2), i64 0], [i64 (Int.fdiv z4316 2), i64 z4319], [i64 z4318, i64 (Int.fdiv z4317 2)], [i64 0, i64 (Int.fdiv z4317 2)], [i64 (w64 (0 - z4318)), i64 (Int.fdiv z4317 2)], [i64 (w64 (0 - Int.fdiv z4316 2)), i64 z4319], [i64 (w64 (0 - Int.fdiv z4316 2)), i64 0], [i64 (w64 (0 - Int.fdiv z4316 2)), i64 (w64 (0 - z4319))], [i64 (w64 (0 - z4318)), i64 (w64 (0 - Int.fdiv z4317 2))], [i64 0, i64 (w64 (0 - Int.fdiv z4317 2))], [i64 z4318, i64 (w64 (0 - Int.fdiv z4317 2))], [i64 (Int.fdiv z4316 2), i64 (w64 (0 - z4319))], [i64 (Int.fdiv z4316 2), i64 0]]))
noncomputable def F66 (z4316 : Int) (z4317 : Int) : Option A66 := (D66 z4316 z4317).ev some
theorem F66_ok (z4316 : Int) (z4317 : Int) : ∀ b, F66 z4316 z4317 = some b → UU 66 ([i64 z4316, i64 z4317]) ([]) = some (A66.out b) :=
  fn_ok (E := E66) (L := notIn []) rfl rfl (fun x => by kernel_rfl)
/-! ## F190 -/
noncomputable def D190 (z4345 : Int) : PT (Int) :=
  .auto 2 <|
  .ret (Int.tmod (w64 (Int.tmod z4345 23592960 + 23592960)) 23592960)
@[reducible] def O190 (z4346 : Int) : V × Store := (i64 z4346, [])
noncomputable def F190 (z4345 : Int) : Int := (D190 z4345).evT
theorem F190_ok (z4345 : Int) : UU 190 ([i64 z4345]) ([]) = some (O190 (F190 z4345)) :=
  fnT_ok (out := O190) (L := notIn []) rfl rfl (fun x => by kernel_rfl) (by simp [D190, PT.isT])
/-! ## F130 -/
noncomputable def D130 (z4348 : Int) : PT A130 :=
  .tot O190 (F190_ok (z4348)) fun z4349 =>
  .test (z4349 ≥ 11796480)
   (fun h0 =>
   .auto 1 <|
   .test (w64 (2654208000 - w64 (Int.tdiv (w64 (w64 (z4349 - 11796480) * w64 (11796480 - w64 (z4349 - 11796480)))) 65536)) = 0)
    (fun _ => .fail) -- none
    (fun h1 =>
    .known (decide_eq_true h0) <|
    .ret (A130.a0 (w64 (0 - w64 (Int.tdiv (w64 (w64 (4 * w64 (Int.tdiv (w64 (w64 (z4349 - 11796480) * w64 (11796480 - w64 (z4349 - 11796480)))) 65536)) * 65536)) (w64 (2654208000 - w64 (Int.tdiv (w64 (w64 (z4349 - 11796480) * w64 (11796480 - w64 (z4349 - 11796480)))) 65536)))))))
    )
   )
   (fun h0 =>
   .auto 1 <|
   .test (w64 (2654208000 - w64 (Int.tdiv (w64 (z4349 * w64 (11796480 - z4349))) 65536)) = 0)
    (fun _ => .fail) -- none
    (fun h1 =>
    .known (decide_eq_false h0) <|
    .ret (A130.a0 (w64 (Int.tdiv (w64 (w64 (4 * w64 (Int.tdiv (w64 (z4349 * w64 (11796480 - z4349))) 65536)) * 65536)) (w64 (2654208000 - w64 (Int.tdiv (w64 (z4349 * w64 (11796480 - z4349))) 65536))))))
    )
   )
noncomputable def F130 (z4348 : Int) : Option A130 := (D130 z4348).ev some
theorem F130_ok (z4348 : Int) : ∀ b, F130 z4348 = some b → UU 130 ([i64 z4348]) ([]) = some (A130.out b) :=
  fn_ok (E := E130) (L := notIn []) rfl rfl (fun x => by kernel_rfl)
/-! ## F129 -/
noncomputable def D129 (z4344 : Int) : PT A129 :=
  .tot O190 (F190_ok (z4344)) fun z4347 =>
  .ask E130 (F130_ok (w64 (z4347 + 5898240))) fun (r : A130) => match r with
  | .a0 z4351 =>
   .ret (A129.a0 (z4351))
noncomputable def F129 (z4344 : Int) : Option A129 := (D129 z4344).ev some
theorem F129_ok (z4344 : Int) : ∀ b, F129 z4344 = some b → UU 129 ([i64 z4344]) ([]) = some (A129.out b) :=
  fn_ok (E := E129) (L := notIn []) rfl rfl (fun x => by kernel_rfl)
/-! ## F68 -/
noncomputable abbrev B68 : Code := (Tryz.f68.body).getD .skip
inductive N68_c29 where
  | e0 (z4377 : Int) (z4378 : Int) (z4379 : Int) (k4380 : Nat) (z4381 : Int) (z4382 : Int) (z4383 : Int) (l4384 : List (List V))
@[reducible] def N68_c29.out : N68_c29 → VX × S
  | .e0 z4377 z4378 z4379 k4380 z4381 z4382 z4383 l4384 => (VX.normal, { T := i64 z4377 :: i64 z4378 :: i64 z4379 :: U :: U :: U :: V.ptr 0 0 0 :: V.hs 1 0 k4380 :: i64 z4381 :: i64 z4382 :: i64 z4383 :: un 34 [], σ := [Ob.cells true false 2 [[vb false, V.hs 2 0 0]], Ob.cells true true 2 l4384, Ob.cells true true 2 []] })
def N68_c29.ex (g : N68_c29 → Prop) : Prop := (∃ (z4377 : Int) (z4378 : Int) (z4379 : Int) (k4380 : Nat) (z4381 : Int) (z4382 : Int) (z4383 : Int) (l4384 : List (List V)), g (.e0 z4377 z4378 z4379 k4380 z4381 z4382 z4383 l4384))
theorem N68_c29.ok (g : N68_c29 → Prop) : N68_c29.ex g ↔ ∃ b, g b := ⟨fun h => match h with
  | ⟨_, _, _, _, _, _, _, _, h⟩ => ⟨_, h⟩, fun ⟨b, h⟩ => match b, h with
  | .e0 _ _ _ _ _ _ _ _, h => ⟨_, _, _, _, _, _, _, _, h⟩⟩
abbrev E68_c29 : Ent (VX × S) := ⟨N68_c29, N68_c29.out, N68_c29.ex, N68_c29.ok⟩
noncomputable def D68_c29 (z4369 : Int) (z4370 : Int) (z4371 : Int) (k4372 : Nat) (z4373 : Int) (z4374 : Int) (b4375 : Bool) (l4376 : List (List V)) : PT N68_c29 :=
  .testB (b4375)
   (fun h0 =>
   .ret (N68_c29.e0 (z4369) (z4370) (z4371) (k4372) (z4373) (z4374) (z4371) (l4376))
   )
   (fun h0 =>
   .ret (N68_c29.e0 (z4369) (z4370) (z4371) (k4372) (z4373) (z4374) (z4370) (l4376))
   )
noncomputable def J68_c29 (z4369 : Int) (z4370 : Int) (z4371 : Int) (k4372 : Nat) (z4373 : Int) (z4374 : Int) (b4375 : Bool) (l4376 : List (List V)) : Option N68_c29 := (D68_c29 z4369 z4370 z4371 k4372 z4373 z4374 b4375 l4376).ev some
theorem J68_c29_ok (z4369 : Int) (z4370 : Int) (z4371 : Int) (k4372 : Nat) (z4373 : Int) (z4374 : Int) (b4375 : Bool) (l4376 : List (List V)) : ∀ b, J68_c29 z4369 z4370 z4371 k4372 z4373 z4374 b4375 l4376 = some b → condP Tryz.prog X CC 68 (0) 18446744073709551616 B68 29 ({ T := i64 z4369 :: i64 z4370 :: i64 z4371 :: U :: U :: U :: V.ptr 0 0 0 :: V.hs 1 0 k4372 :: i64 z4373 :: i64 z4374 :: i64 z4370 :: un 18 (vb b4375 :: un 15 []), σ := [Ob.cells true false 2 [[vb false, V.hs 2 0 0]], Ob.cells true true 2 l4376, Ob.cells true true 2 []] }) = some (E68_c29.out b) :=
  cond_ok (E := E68_c29) (L := notIn []) (fun x => by kernel_rfl)
inductive N68_0 where
  | s0 (z4357 : Int) (z4358 : Int) (z4359 : Int) (k4360 : Nat) (z4361 : Int) (l4362 : List (List V))
  | e0 (k4397 : Nat) (l4398 : List (List V))
@[reducible] def N68_0.out : N68_0 → VX × S
  | .s0 z4357 z4358 z4359 k4360 z4361 l4362 => (VX.normal, { T := i64 z4357 :: i64 z4358 :: i64 z4359 :: U :: U :: U :: V.ptr 0 0 0 :: V.hs 1 0 k4360 :: i64 z4361 :: un 36 [], σ := [Ob.cells true false 2 [[vb false, V.hs 2 0 0]], Ob.cells true true 2 l4362, Ob.cells true true 2 []] })
  | .e0 k4397 l4398 => (VX.exit 0, { T := un 6 (V.ptr 0 0 0 :: V.hs 1 0 k4397 :: un 37 []), σ := [Ob.cells true false 2 [[vb false, V.hs 2 0 0]], Ob.cells true true 2 l4398, Ob.cells true true 2 []] })
def N68_0.ex (g : N68_0 → Prop) : Prop := (∃ (z4357 : Int) (z4358 : Int) (z4359 : Int) (k4360 : Nat) (z4361 : Int) (l4362 : List (List V)), g (.s0 z4357 z4358 z4359 k4360 z4361 l4362)) ∨ (∃ (k4397 : Nat) (l4398 : List (List V)), g (.e0 k4397 l4398))
theorem N68_0.ok (g : N68_0 → Prop) : N68_0.ex g ↔ ∃ b, g b := ⟨fun h => match h with
  | .inl ⟨_, _, _, _, _, _, h⟩ => ⟨_, h⟩
  | .inr (⟨_, _, h⟩) => ⟨_, h⟩, fun ⟨b, h⟩ => match b, h with
  | .s0 _ _ _ _ _ _, h => .inl ⟨_, _, _, _, _, _, h⟩
  | .e0 _ _, h => .inr (⟨_, _, h⟩)⟩
abbrev E68_0 : Ent (VX × S) := ⟨N68_0, N68_0.out, N68_0.ex, N68_0.ok⟩
noncomputable def D68_0 (z4357 : Int) (z4358 : Int) (z4359 : Int) (k4360 : Nat) (z4361 : Int) (l4362 : List (List V)) : PT N68_0 :=
  .test (z4361 < w64 (2 * z4357))
   (fun h0 =>
   .test (z4357 = 0)
    (fun _ => .fail) -- none
    (fun h1 =>
    .auto 1 <|
    .cut E68_c29 (J68_c29_ok (z4357) (z4358) (z4359) (k4360) (z4361) (w64 (w64 (Int.tdiv (w64 (w64 (z4361 * 180) * 65536)) z4357) - 5898240)) (Int.tmod z4361 2 == 1) (l4362)) fun (r : N68_c29) => match r with
    | .e0 z4404 z4405 z4406 k4407 z4408 z4409 z4410 l4411 =>
     .ask E129 (F129_ok (z4409)) fun (r : A129) => match r with
     | .a0 z4412 =>
      .ask E126 (F126_ok (z4410) (z4412)) fun (r : A126) => match r with
      | .a0 z4413 =>
       .ask E130 (F130_ok (z4409)) fun (r : A130) => match r with
       | .a0 z4414 =>
        .ask E126 (F126_ok (z4410) (z4414)) fun (r : A126) => match r with
        | .a0 z4415 =>
         .auto 1 <|
         .test (0 + k4407 ≤ List.length l4411 ∧ (k4407 + 1) * 16 ≤ 140737488355328 ∧ k4407 + 1 ≤ 140737488355328)
          (fun h2 =>
          .ret (N68_0.s0 (z4404) (z4405) (z4406) (k4407 + 1) (w64 (z4408 + 1)) (List.take k4407 l4411 ++ [[i64 z4413, i64 z4415]]))
          )
          (fun _ => .fail) -- none
    )
   )
   (fun h0 =>
   .ret (N68_0.e0 (k4360) (l4362))
   )
noncomputable def S68_0 : N68_0 → PT N68_0
  | .s0 z4357 z4358 z4359 k4360 z4361 l4362 => D68_0 z4357 z4358 z4359 k4360 z4361 l4362
  | _ => .fail
def N68_0.off : N68_0 → Bool
  | .s0 _ _ _ _ _ _ => false
  | _ => true
noncomputable def L68_0 (n : Nat) (b : N68_0) : Option N68_0 := PT.loop (S68_0) N68_0.off n b
theorem L68_0_ok : ∀ (n : Nat) (b : N68_0), N68_0.off b = false → ∀ c, L68_0 n b = some c → loopP Tryz.prog X CC 68 (0) 18446744073709551616 B68 0 n (E68_0.out b).2 = some (E68_0.out c) :=
  loop_ok (E := E68_0) (step := S68_0) (L := notIn []) (fun b hb => by cases b <;> first | (cases hb; done) | (intro x; kernel_rfl)) (fun b => by cases b <;> rfl)
noncomputable def N68_0.nx (n : Nat) (c : N68_0) : Option N68_0 := match N68_0.off c with
  | true => some c
  | false => L68_0 n c
theorem L68_0_s0 (n : Nat) (z4357 : Int) (z4358 : Int) (z4359 : Int) (k4360 : Nat) (z4361 : Int) (l4362 : List (List V)) : L68_0 (n + 1) (.s0 z4357 z4358 z4359 k4360 z4361 l4362) = (D68_0 z4357 z4358 z4359 k4360 z4361 l4362).ev (N68_0.nx n) := rfl
theorem N68_0.nx_s0 (n : Nat) (z4357 : Int) (z4358 : Int) (z4359 : Int) (k4360 : Nat) (z4361 : Int) (l4362 : List (List V)) : N68_0.nx n (.s0 z4357 z4358 z4359 k4360 z4361 l4362) = L68_0 n (.s0 z4357 z4358 z4359 k4360 z4361 l4362) := rfl
theorem N68_0.nx_e0 (n : Nat) (k4397 : Nat) (l4398 : List (List V)) : N68_0.nx n (.e0 k4397 l4398) = some (.e0 k4397 l4398) := rfl
noncomputable def D68 (z4326 : Int) (z4327 : Int) (z4328 : Int) : PT A68 :=
  .cut E68_0 (L68_0_ok 18446744073709551616 (.s0 (if 2 > if 16 < z4326 then 16 else z4326 then 2 else if 16 < z4326 then 16 else z4326) (z4327) (z4328) (0) (0) ([])) rfl) fun (r : N68_0) => match r with
  | .e0 k4416 l4417 =>
   .test (0 + k4416 ≤ List.length l4417)
    (fun h0 =>
    .ask E124 (F124_ok (List.take k4416 l4417)) fun (r : A124) => match r with
    | .a0 b4418 k4419 l4420 =>
     .auto 1 <|
     .ret (A68.a0 (b4418) (k4419) (l4420))
    )
    (fun _ => .fail) -- none
  | _ => .fail
noncomputable def F68 (z4326 : Int) (z4327 : Int) (z4328 : Int) : Option A68 := (D68 z4326 z4327 z4328).ev some
theorem F68_ok (z4326 : Int) (z4327 : Int) (z4328 : Int) : ∀ b, F68 z4326 z4327 z4328 = some b → UU 68 ([i64 z4326, i64 z4327, i64 z4328]) ([]) = some (A68.out b) :=
  fn_ok (E := E68) (L := notIn []) rfl rfl (fun x => by kernel_rfl)
/-! ## F176 -/
noncomputable abbrev B176 : Code := (Tryz.f176.body).getD .skip
inductive N176_0 where
  | s0 (z4458 : Int) (z4459 : Int) (b4460 : Bool) (l4461 : List (List V)) (b4462 : Bool) (l4463 : List (List V)) (k4464 : Nat) (l4465 : List (List V))
  | e0 (b4477 : Bool) (k4478 : Nat) (l4479 : List (List V))
@[reducible] def N176_0.out : N176_0 → VX × S
  | .s0 z4458 z4459 b4460 l4461 b4462 l4463 k4464 l4465 => (VX.normal, { T := U :: U :: i64 z4458 :: V.ptr 0 0 0 :: V.ptr 1 0 0 :: U :: V.ptr 2 0 0 :: V.ptr 3 0 0 :: i64 z4459 :: un 47 [], σ := [Ob.cells true false 2 [[vb b4460, V.list 2 l4461]], Ob.cells true false 2 [[vb b4462, V.list 2 l4463]], Ob.cells true false 2 [[vb false, V.hs 4 0 0]], Ob.cells true false 2 [[vb b4460, V.hs 5 0 k4464]], Ob.cells true true 2 [], Ob.cells true true 2 l4465] })
  | .e0 b4477 k4478 l4479 => (VX.exit 0, { T := un 6 (V.ptr 0 0 0 :: V.ptr 1 0 0 :: un 48 []), σ := [Ob.cells true false 2 [[vb false, V.hs 2 0 0]], Ob.cells true false 2 [[vb b4477, V.hs 3 0 k4478]], Ob.cells true true 2 [], Ob.cells true true 2 l4479] })
def N176_0.ex (g : N176_0 → Prop) : Prop := (∃ (z4458 : Int) (z4459 : Int) (b4460 : Bool) (l4461 : List (List V)) (b4462 : Bool) (l4463 : List (List V)) (k4464 : Nat) (l4465 : List (List V)), g (.s0 z4458 z4459 b4460 l4461 b4462 l4463 k4464 l4465)) ∨ (∃ (b4477 : Bool) (k4478 : Nat) (l4479 : List (List V)), g (.e0 b4477 k4478 l4479))
theorem N176_0.ok (g : N176_0 → Prop) : N176_0.ex g ↔ ∃ b, g b := ⟨fun h => match h with
  | .inl ⟨_, _, _, _, _, _, _, _, h⟩ => ⟨_, h⟩
  | .inr (⟨_, _, _, h⟩) => ⟨_, h⟩, fun ⟨b, h⟩ => match b, h with
  | .s0 _ _ _ _ _ _ _ _, h => .inl ⟨_, _, _, _, _, _, _, _, h⟩
  | .e0 _ _ _, h => .inr (⟨_, _, _, h⟩)⟩
abbrev E176_0 : Ent (VX × S) := ⟨N176_0, N176_0.out, N176_0.ex, N176_0.ok⟩
noncomputable def D176_0 (z4458 : Int) (z4459 : Int) (b4460 : Bool) (l4461 : List (List V)) (b4462 : Bool) (l4463 : List (List V)) (k4464 : Nat) (l4465 : List (List V)) : PT N176_0 :=
  .auto 1 <|
  .test (z4459 < (↑(List.length l4461) : Int))
   (fun h0 =>
   .auto 1 <|
   .test (0 ≤ z4459)
    (fun h1 =>
    .look RW28 (l4461[Int.toNat z4459]?) fun e4483 =>
    .auto 3 <|
    .tot O120 (F120_ok (b4460) (l4461) (b4462) (l4463)) fun b4484 =>
    .testB (b4484)
     (fun h2 =>
     .auto 2 <|
     .known (decide_eq_true h1) <|
     .look RW28 (l4463[Int.toNat z4459]?) fun e4485 =>
     .ask E173 (F173_ok (e4483.c0) (e4485.c0) (z4458)) fun (r : A173) => match r with
     | .a0 z4486 =>
      .auto 2 <|
      .known (decide_eq_true h1) <|
      .look RW28 (l4463[Int.toNat z4459]?) fun e4487 =>
      .ask E173 (F173_ok (e4483.c1) (e4487.c1) (z4458)) fun (r : A173) => match r with
      | .a0 z4488 =>
       .auto 4 <|
       .test (0 + k4464 ≤ List.length l4465 ∧ (k4464 + 1) * 16 ≤ 140737488355328 ∧ k4464 + 1 ≤ 140737488355328)
        (fun h3 =>
        .auto 1 <|
        .ret (N176_0.s0 (z4458) (w64 (z4459 + 1)) (b4460) (l4461) (b4462) (l4463) (k4464 + 1) (List.take k4464 l4465 ++ [[i64 z4486, i64 z4488]]))
        )
        (fun _ => .fail) -- none
     )
     (fun h2 =>
     .auto 3 <|
     .test (0 + k4464 ≤ List.length l4465 ∧ (k4464 + 1) * 16 ≤ 140737488355328 ∧ k4464 + 1 ≤ 140737488355328)
      (fun h3 =>
      .auto 1 <|
      .ret (N176_0.s0 (z4458) (w64 (z4459 + 1)) (b4460) (l4461) (b4462) (l4463) (k4464 + 1) (List.take k4464 l4465 ++ [[i64 e4483.c0, i64 e4483.c1]]))
      )
      (fun _ => .fail) -- none
     )
    )
    (fun _ => .fail) -- none
   )
   (fun h0 =>
   .ret (N176_0.e0 (b4460) (k4464) (l4465))
   )
noncomputable def S176_0 : N176_0 → PT N176_0
  | .s0 z4458 z4459 b4460 l4461 b4462 l4463 k4464 l4465 => D176_0 z4458 z4459 b4460 l4461 b4462 l4463 k4464 l4465
  | _ => .fail
def N176_0.off : N176_0 → Bool
  | .s0 _ _ _ _ _ _ _ _ => false
  | _ => true
noncomputable def L176_0 (n : Nat) (b : N176_0) : Option N176_0 := PT.loop (S176_0) N176_0.off n b
theorem L176_0_ok : ∀ (n : Nat) (b : N176_0), N176_0.off b = false → ∀ c, L176_0 n b = some c → loopP Tryz.prog X CC 176 (0) 18446744073709551616 B176 0 n (E176_0.out b).2 = some (E176_0.out c) :=
  loop_ok (E := E176_0) (step := S176_0) (L := notIn []) (fun b hb => by cases b <;> first | (cases hb; done) | (intro x; kernel_rfl)) (fun b => by cases b <;> rfl)
noncomputable def N176_0.nx (n : Nat) (c : N176_0) : Option N176_0 := match N176_0.off c with
  | true => some c
  | false => L176_0 n c
theorem L176_0_s0 (n : Nat) (z4458 : Int) (z4459 : Int) (b4460 : Bool) (l4461 : List (List V)) (b4462 : Bool) (l4463 : List (List V)) (k4464 : Nat) (l4465 : List (List V)) : L176_0 (n + 1) (.s0 z4458 z4459 b4460 l4461 b4462 l4463 k4464 l4465) = (D176_0 z4458 z4459 b4460 l4461 b4462 l4463 k4464 l4465).ev (N176_0.nx n) := rfl
theorem N176_0.nx_s0 (n : Nat) (z4458 : Int) (z4459 : Int) (b4460 : Bool) (l4461 : List (List V)) (b4462 : Bool) (l4463 : List (List V)) (k4464 : Nat) (l4465 : List (List V)) : N176_0.nx n (.s0 z4458 z4459 b4460 l4461 b4462 l4463 k4464 l4465) = L176_0 n (.s0 z4458 z4459 b4460 l4461 b4462 l4463 k4464 l4465) := rfl
theorem N176_0.nx_e0 (n : Nat) (b4477 : Bool) (k4478 : Nat) (l4479 : List (List V)) : N176_0.nx n (.e0 b4477 k4478 l4479) = some (.e0 b4477 k4478 l4479) := rfl
noncomputable def D176 (b4442 : Bool) (l4443 : List (List V)) (b4444 : Bool) (l4445 : List (List V)) (z4446 : Int) : PT A176 :=
  .auto 2 <|
  .cut E176_0 (L176_0_ok 18446744073709551616 (.s0 (z4446) (0) (b4442) (l4443) (b4444) (l4445) (0) ([])) rfl) fun (r : N176_0) => match r with
  | .e0 b4489 k4490 l4491 =>
   .auto 2 <|
   .ret (A176.a0 (b4489) (k4490) (l4491))
  | _ => .fail
noncomputable def F176 (b4442 : Bool) (l4443 : List (List V)) (b4444 : Bool) (l4445 : List (List V)) (z4446 : Int) : Option A176 := (D176 b4442 l4443 b4444 l4445 z4446).ev some
theorem F176_ok (b4442 : Bool) (l4443 : List (List V)) (b4444 : Bool) (l4445 : List (List V)) (z4446 : Int) : ∀ b, F176 b4442 l4443 b4444 l4445 z4446 = some b → UU 176 ([V.agg [vb b4442, V.list 2 l4443], V.agg [vb b4444, V.list 2 l4445], i64 z4446]) ([]) = some (A176.out b) :=
  fn_ok (E := E176) (L := notIn []) rfl rfl (fun x => by kernel_rfl)
/-! ## F111 -/
noncomputable abbrev B111 : Code := (Tryz.f111.body).getD .skip
inductive N111_0 where
  | s0 (l4432 : List (List V)) (z4433 : Int) (z4434 : Int) (z4435 : Int)
  | e0 (l4496 : List (List V)) (z4497 : Int) (z4498 : Int)
@[reducible] def N111_0.out : N111_0 → VX × S
  | .s0 l4432 z4433 z4434 z4435 => (VX.normal, { T := V.list 8 l4432 :: i64 z4433 :: U :: U :: V.ptr 0 0 0 :: i64 z4434 :: i64 z4435 :: un 81 [], σ := [Ob.cells true false 2 [[vb false, V.hs 1 0 0]], Ob.cells true true 2 []] })
  | .e0 l4496 z4497 z4498 => (VX.exit 0, { T := V.list 8 l4496 :: i64 z4497 :: U :: U :: V.ptr 0 0 0 :: i64 z4498 :: un 82 [], σ := [Ob.cells true false 2 [[vb false, V.hs 1 0 0]], Ob.cells true true 2 []] })
def N111_0.ex (g : N111_0 → Prop) : Prop := (∃ (l4432 : List (List V)) (z4433 : Int) (z4434 : Int) (z4435 : Int), g (.s0 l4432 z4433 z4434 z4435)) ∨ (∃ (l4496 : List (List V)) (z4497 : Int) (z4498 : Int), g (.e0 l4496 z4497 z4498))
theorem N111_0.ok (g : N111_0 → Prop) : N111_0.ex g ↔ ∃ b, g b := ⟨fun h => match h with
  | .inl ⟨_, _, _, _, h⟩ => ⟨_, h⟩
  | .inr (⟨_, _, _, h⟩) => ⟨_, h⟩, fun ⟨b, h⟩ => match b, h with
  | .s0 _ _ _ _, h => .inl ⟨_, _, _, _, h⟩
  | .e0 _ _ _, h => .inr (⟨_, _, _, h⟩)⟩
abbrev E111_0 : Ent (VX × S) := ⟨N111_0, N111_0.out, N111_0.ex, N111_0.ok⟩
noncomputable def D111_0 (l4432 : List (List V)) (z4433 : Int) (z4434 : Int) (z4435 : Int) : PT N111_0 :=
  .test (z4435 < (↑(List.length l4432) : Int))
   (fun h0 =>
   .test (0 ≤ z4435)
    (fun h1 =>
    .look RW100 (l4432[Int.toNat z4435]?) fun e4523 =>
    .test (e4523.c0 ≤ z4433)
     (fun h2 =>
     .ret (N111_0.s0 (l4432) (z4433) (z4435) (w64 (z4435 + 1)))
     )
     (fun h2 =>
     .ret (N111_0.s0 (l4432) (z4433) (z4434) (w64 (z4435 + 1)))
     )
    )
    (fun _ => .fail) -- none
   )
   (fun h0 =>
   .ret (N111_0.e0 (l4432) (z4433) (z4434))
   )
noncomputable def S111_0 : N111_0 → PT N111_0
  | .s0 l4432 z4433 z4434 z4435 => D111_0 l4432 z4433 z4434 z4435
  | _ => .fail
def N111_0.off : N111_0 → Bool
  | .s0 _ _ _ _ => false
  | _ => true
noncomputable def L111_0 (n : Nat) (b : N111_0) : Option N111_0 := PT.loop (S111_0) N111_0.off n b
theorem L111_0_ok : ∀ (n : Nat) (b : N111_0), N111_0.off b = false → ∀ c, L111_0 n b = some c → loopP Tryz.prog X CC 111 (0) 18446744073709551616 B111 0 n (E111_0.out b).2 = some (E111_0.out c) :=
  loop_ok (E := E111_0) (step := S111_0) (L := notIn []) (fun b hb => by cases b <;> first | (cases hb; done) | (intro x; kernel_rfl)) (fun b => by cases b <;> rfl)
noncomputable def N111_0.nx (n : Nat) (c : N111_0) : Option N111_0 := match N111_0.off c with
  | true => some c
  | false => L111_0 n c
theorem L111_0_s0 (n : Nat) (l4432 : List (List V)) (z4433 : Int) (z4434 : Int) (z4435 : Int) : L111_0 (n + 1) (.s0 l4432 z4433 z4434 z4435) = (D111_0 l4432 z4433 z4434 z4435).ev (N111_0.nx n) := rfl
theorem N111_0.nx_s0 (n : Nat) (l4432 : List (List V)) (z4433 : Int) (z4434 : Int) (z4435 : Int) : N111_0.nx n (.s0 l4432 z4433 z4434 z4435) = L111_0 n (.s0 l4432 z4433 z4434 z4435) := rfl
theorem N111_0.nx_e0 (n : Nat) (l4496 : List (List V)) (z4497 : Int) (z4498 : Int) : N111_0.nx n (.e0 l4496 z4497 z4498) = some (.e0 l4496 z4497 z4498) := rfl
noncomputable def D111 (l4424 : List (List V)) (z4425 : Int) : PT A111 :=
  .testB ((↑(List.length l4424) : Int) == 0)
   (fun h0 =>
   .auto 1 <|
   .ret (A111.a0 (false) (0) ([]))
   )
   (fun h0 =>
   .cut E111_0 (L111_0_ok 18446744073709551616 (.s0 (l4424) (z4425) (-1) (0)) rfl) fun (r : N111_0) => match r with
   | .e0 l4524 z4525 z4526 =>
    .test (z4526 < 0)
     (fun h1 =>
     .auto 1 <|
     .look RW100 (l4524[(0 : Nat)]?) fun e4527 =>
     .auto 1 <|
     .look RW100 (l4524[(0 : Nat)]?) fun e4528 =>
     .ask E176 (F176_ok (e4527.c1) (e4527.c2) (e4528.c1) (e4528.c2) (0)) fun (r : A176) => match r with
     | .a0 b4529 k4530 l4531 =>
      .auto 1 <|
      .ret (A111.a0 (b4529) (k4530) (l4531))
     )
     (fun h1 =>
     .testB (z4526 == w64 ((↑(List.length l4524) : Int) - 1))
      (fun h2 =>
      .test (0 ≤ z4526)
       (fun h3 =>
       .look RW100 (l4524[Int.toNat z4526]?) fun e4532 =>
       .known (decide_eq_true h3) <|
       .look RW100 (l4524[Int.toNat z4526]?) fun e4533 =>
       .ask E176 (F176_ok (e4532.c1) (e4532.c2) (e4533.c1) (e4533.c2) (0)) fun (r : A176) => match r with
       | .a0 b4534 k4535 l4536 =>
        .auto 1 <|
        .ret (A111.a0 (b4534) (k4535) (l4536))
       )
       (fun _ => .fail) -- none
      )
      (fun h2 =>
      .test (0 ≤ z4526)
       (fun h3 =>
       .look RW100 (l4524[Int.toNat z4526]?) fun e4537 =>
       .test (0 ≤ w64 (z4526 + 1))
        (fun h4 =>
        .look RW100 (l4524[Int.toNat (w64 (z4526 + (1 : Int)))]?) fun e4538 =>
        .known (decide_eq_true h3) <|
        .look RW100 (l4524[Int.toNat z4526]?) fun e4539 =>
        .known (decide_eq_true h3) <|
        .look RW100 (l4524[Int.toNat z4526]?) fun e4540 =>
        .known (decide_eq_true h3) <|
        .look RW100 (l4524[Int.toNat z4526]?) fun e4541 =>
        .known (decide_eq_true h4) <|
        .look RW100 (l4524[Int.toNat (w64 (z4526 + (1 : Int)))]?) fun e4542 =>
        .ask E175 (F175_ok (e4541.c0) (e4542.c0) (z4525)) fun (r : A175) => match r with
        | .a0 z4543 =>
         .ask E174 (F174_ok (e4539.c3) (e4540.c4) (e4540.c5) (e4540.c6) (e4540.c7) (z4543)) fun (r : A174) => match r with
         | .a0 z4544 =>
          .ask E176 (F176_ok (e4537.c1) (e4537.c2) (e4538.c1) (e4538.c2) (z4544)) fun (r : A176) => match r with
          | .a0 b4545 k4546 l4547 =>
           .auto 1 <|
           .ret (A111.a0 (b4545) (k4546) (l4547))
        )
        (fun _ => .fail) -- none
       )
       (fun _ => .fail) -- none
      )
     )
   | _ => .fail
   )
noncomputable def F111 (l4424 : List (List V)) (z4425 : Int) : Option A111 := (D111 l4424 z4425).ev some
theorem F111_ok (l4424 : List (List V)) (z4425 : Int) : ∀ b, F111 l4424 z4425 = some b → UU 111 ([V.list 8 l4424, i64 z4425]) ([]) = some (A111.out b) :=
  fn_ok (E := E111) (L := notIn []) rfl rfl (fun x => by kernel_rfl)
/-! ## F52 -/
noncomputable def D52 (z3995 : Int) (z3996 : Int) (l3997 : List (List V)) (l3998 : List (List V)) (l3999 : List (List V)) (b4000 : Bool) (z4001 : Int) (z4002 : Int) (z4003 : Int) (z4004 : Int) (z4005 : Int) (z4006 : Int) (z4007 : Int) (z4008 : Int) (z4009 : Int) (z4010 : Int) (z4011 : Int) (z4012 : Int) (z4013 : Int) (z4014 : Int) (z4015 : Int) (l4016 : List (List V)) (b4017 : Bool) (l4018 : List (List V)) (z4019 : Int) (z4020 : Int) (z4021 : Int) (z4022 : Int) (z4023 : Int) (l4024 : List (List V)) (l4025 : List (List V)) (l4026 : List (List V)) (z4027 : Int) : PT A52 :=
  .auto 1 <|
  .ask E110 (F110_ok (l3997) (z4027) (0)) fun (r : A110) => match r with
  | .a0 z4273 =>
   .auto 1 <|
   .ask E110 (F110_ok (l3998) (z4027) (0)) fun (r : A110) => match r with
   | .a0 z4274 =>
    .auto 1 <|
    .testB (z3995 == 0)
     (fun h0 =>
     .ask E64 (F64_ok (z4273) (z4274)) fun (r : A64) => match r with
     | .a0 b4310 k4311 l4312 =>
      .auto 1 <|
      .ret (A52.a0 (b4310) (k4311) (l4312))
     )
     (fun h0 =>
     .testB (z3995 == 1)
      (fun h1 =>
      .ask E66 (F66_ok (z4273) (z4274)) fun (r : A66) => match r with
      | .a0 b4323 k4324 l4325 =>
       .auto 1 <|
       .ret (A52.a0 (b4323) (k4324) (l4325))
      )
      (fun h1 =>
      .testB (z3995 == 2)
       (fun h2 =>
       .auto 1 <|
       .ask E68 (F68_ok (z3996) (z4273) (z4274)) fun (r : A68) => match r with
       | .a0 b4421 k4422 l4423 =>
        .auto 1 <|
        .ret (A52.a0 (b4421) (k4422) (l4423))
       )
       (fun h2 =>
       .testB (z3995 == 3)
        (fun h3 =>
        .auto 1 <|
        .ask E111 (F111_ok (l3999) (z4027)) fun (r : A111) => match r with
        | .a0 b4548 k4549 l4550 =>
         .auto 1 <|
         .ret (A52.a0 (b4548) (k4549) (l4550))
        )
        (fun h3 =>
        .auto 1 <|
        .ret (A52.a0 (false) (0) ([]))
        )
       )
      )
     )
noncomputable def F52 (z3995 : Int) (z3996 : Int) (l3997 : List (List V)) (l3998 : List (List V)) (l3999 : List (List V)) (b4000 : Bool) (z4001 : Int) (z4002 : Int) (z4003 : Int) (z4004 : Int) (z4005 : Int) (z4006 : Int) (z4007 : Int) (z4008 : Int) (z4009 : Int) (z4010 : Int) (z4011 : Int) (z4012 : Int) (z4013 : Int) (z4014 : Int) (z4015 : Int) (l4016 : List (List V)) (b4017 : Bool) (l4018 : List (List V)) (z4019 : Int) (z4020 : Int) (z4021 : Int) (z4022 : Int) (z4023 : Int) (l4024 : List (List V)) (l4025 : List (List V)) (l4026 : List (List V)) (z4027 : Int) : Option A52 := (D52 z3995 z3996 l3997 l3998 l3999 b4000 z4001 z4002 z4003 z4004 z4005 z4006 z4007 z4008 z4009 z4010 z4011 z4012 z4013 z4014 z4015 l4016 b4017 l4018 z4019 z4020 z4021 z4022 z4023 l4024 l4025 l4026 z4027).ev some
theorem F52_ok (z3995 : Int) (z3996 : Int) (l3997 : List (List V)) (l3998 : List (List V)) (l3999 : List (List V)) (b4000 : Bool) (z4001 : Int) (z4002 : Int) (z4003 : Int) (z4004 : Int) (z4005 : Int) (z4006 : Int) (z4007 : Int) (z4008 : Int) (z4009 : Int) (z4010 : Int) (z4011 : Int) (z4012 : Int) (z4013 : Int) (z4014 : Int) (z4015 : Int) (l4016 : List (List V)) (b4017 : Bool) (l4018 : List (List V)) (z4019 : Int) (z4020 : Int) (z4021 : Int) (z4022 : Int) (z4023 : Int) (l4024 : List (List V)) (l4025 : List (List V)) (l4026 : List (List V)) (z4027 : Int) : ∀ b, F52 z3995 z3996 l3997 l3998 l3999 b4000 z4001 z4002 z4003 z4004 z4005 z4006 z4007 z4008 z4009 z4010 z4011 z4012 z4013 z4014 z4015 l4016 b4017 l4018 z4019 z4020 z4021 z4022 z4023 l4024 l4025 l4026 z4027 = some b → UU 52 ([V.agg [i64 z3995, i64 z3996, V.list 7 l3997, V.list 7 l3998, V.list 8 l3999, vb b4000, i64 z4001, i64 z4002, u8 z4003, u8 z4004, u8 z4005, u8 z4006, u8 z4007, u8 z4008, u8 z4009, u8 z4010, i64 z4011, i64 z4012, i64 z4013, i64 z4014, i64 z4015, V.list 10 l4016, vb b4017, V.list 7 l4018, u8 z4019, u8 z4020, u8 z4021, u8 z4022, i64 z4023, V.list 1 l4024, V.list 7 l4025, V.list 7 l4026], i64 z4027]) ([]) = some (A52.out b) :=
  fn_ok (E := E52) (L := notIn []) rfl rfl (fun x => by kernel_rfl)
/-! ## F108 -/
noncomputable abbrev B108 : Code := (Tryz.f108.body).getD .skip
inductive N108_0 where
  | s0 (l4565 : List (List V)) (l4566 : List (List V)) (z4567 : Int)
  | e0
  | e1
@[reducible] def N108_0.out : N108_0 → VX × S
  | .s0 l4565 l4566 z4567 => (VX.normal, { T := V.list 2 l4565 :: V.list 2 l4566 :: U :: U :: U :: i64 z4567 :: un 20 [], σ := [] })
  | .e0 => (VX.ret, { T := un 4 (vb false :: un 21 []), σ := [] })
  | .e1 => (VX.exit 0, { T := un 26 [], σ := [] })
def N108_0.ex (g : N108_0 → Prop) : Prop := (∃ (l4565 : List (List V)) (l4566 : List (List V)) (z4567 : Int), g (.s0 l4565 l4566 z4567)) ∨ g .e0 ∨ g .e1
theorem N108_0.ok (g : N108_0 → Prop) : N108_0.ex g ↔ ∃ b, g b := ⟨fun h => match h with
  | .inl ⟨_, _, _, h⟩ => ⟨_, h⟩
  | .inr (.inl h) => ⟨_, h⟩
  | .inr (.inr (h)) => ⟨_, h⟩, fun ⟨b, h⟩ => match b, h with
  | .s0 _ _ _, h => .inl ⟨_, _, _, h⟩
  | .e0, h => .inr (.inl h)
  | .e1, h => .inr (.inr (h))⟩
abbrev E108_0 : Ent (VX × S) := ⟨N108_0, N108_0.out, N108_0.ex, N108_0.ok⟩
noncomputable def D108_0 (l4565 : List (List V)) (l4566 : List (List V)) (z4567 : Int) : PT N108_0 :=
  .test (z4567 < (↑(List.length l4565) : Int))
   (fun h0 =>
   .test (0 ≤ z4567)
    (fun h1 =>
    .look RW28 (l4565[Int.toNat z4567]?) fun e4568 =>
    .known (decide_eq_true h1) <|
    .look RW28 (l4566[Int.toNat z4567]?) fun e4569 =>
    .testB (!(e4568.c0 == e4569.c0 && (e4568.c1 == e4569.c1 && true)))
     (fun h2 =>
     .ret (N108_0.e0)
     )
     (fun h2 =>
     .ret (N108_0.s0 (l4565) (l4566) (w64 (z4567 + 1)))
     )
    )
    (fun _ => .fail) -- none
   )
   (fun h0 =>
   .ret (N108_0.e1)
   )
noncomputable def S108_0 : N108_0 → PT N108_0
  | .s0 l4565 l4566 z4567 => D108_0 l4565 l4566 z4567
  | _ => .fail
def N108_0.off : N108_0 → Bool
  | .s0 _ _ _ => false
  | _ => true
noncomputable def L108_0 (n : Nat) (b : N108_0) : Option N108_0 := PT.loop (S108_0) N108_0.off n b
theorem L108_0_ok : ∀ (n : Nat) (b : N108_0), N108_0.off b = false → ∀ c, L108_0 n b = some c → loopP Tryz.prog X CC 108 (0) 18446744073709551616 B108 0 n (E108_0.out b).2 = some (E108_0.out c) :=
  loop_ok (E := E108_0) (step := S108_0) (L := notIn []) (fun b hb => by cases b <;> first | (cases hb; done) | (intro x; kernel_rfl)) (fun b => by cases b <;> rfl)
noncomputable def N108_0.nx (n : Nat) (c : N108_0) : Option N108_0 := match N108_0.off c with
  | true => some c
  | false => L108_0 n c
theorem L108_0_s0 (n : Nat) (l4565 : List (List V)) (l4566 : List (List V)) (z4567 : Int) : L108_0 (n + 1) (.s0 l4565 l4566 z4567) = (D108_0 l4565 l4566 z4567).ev (N108_0.nx n) := rfl
theorem N108_0.nx_s0 (n : Nat) (l4565 : List (List V)) (l4566 : List (List V)) (z4567 : Int) : N108_0.nx n (.s0 l4565 l4566 z4567) = L108_0 n (.s0 l4565 l4566 z4567) := rfl
theorem N108_0.nx_e0 (n : Nat) : N108_0.nx n (.e0) = some (.e0) := rfl
theorem N108_0.nx_e1 (n : Nat) : N108_0.nx n (.e1) = some (.e1) := rfl
noncomputable def D108 (l4558 : List (List V)) (l4559 : List (List V)) : PT A108 :=
  .testB ((↑(List.length l4558) : Int) != (↑(List.length l4559) : Int))
   (fun h0 =>
   .ret (A108.a0 (false))
   )
   (fun h0 =>
   .cut E108_0 (L108_0_ok 18446744073709551616 (.s0 (l4558) (l4559) (0)) rfl) fun (r : N108_0) => match r with
   | .e0 =>
    .ret (A108.a0 (false))
   | .e1 =>
    .ret (A108.a0 (true))
   | _ => .fail
   )
noncomputable def F108 (l4558 : List (List V)) (l4559 : List (List V)) : Option A108 := (D108 l4558 l4559).ev some
theorem F108_ok (l4558 : List (List V)) (l4559 : List (List V)) : ∀ b, F108 l4558 l4559 = some b → UU 108 ([V.list 2 l4558, V.list 2 l4559]) ([]) = some (A108.out b) :=
  fn_ok (E := E108) (L := notIn []) rfl rfl (fun x => by kernel_rfl)
/-! ## F50 -/
noncomputable def D50 (b4554 : Bool) (l4555 : List (List V)) (b4556 : Bool) (l4557 : List (List V)) : PT A50 :=
  .auto 2 <|
  .testB (b4554 == b4556)
   (fun h0 =>
   .auto 6 <|
   .ask E108 (F108_ok (l4555) (l4557)) fun (r : A108) => match r with
   | .a0 b4570 =>
    .auto 1 <|
    .ret (A50.a0 (b4570))
   )
   (fun h0 =>
   .auto 5 <|
   .ret (A50.a0 (false))
   )
noncomputable def F50 (b4554 : Bool) (l4555 : List (List V)) (b4556 : Bool) (l4557 : List (List V)) : Option A50 := (D50 b4554 l4555 b4556 l4557).ev some
theorem F50_ok (b4554 : Bool) (l4555 : List (List V)) (b4556 : Bool) (l4557 : List (List V)) : ∀ b, F50 b4554 l4555 b4556 l4557 = some b → UU 50 ([V.agg [vb b4554, V.list 2 l4555], V.agg [vb b4556, V.list 2 l4557]]) ([]) = some (A50.out b) :=
  fn_ok (E := E50) (L := notIn []) rfl rfl (fun x => by kernel_rfl)
end Go.Proofs.YtifalphladcdcaaGreat.H
