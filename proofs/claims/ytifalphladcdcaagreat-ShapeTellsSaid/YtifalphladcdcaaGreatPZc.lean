/- What the functions compute, and that they do so over the machine of plain values (printed by this session's program wip/vm/Walk.lean). No condition beyond those stated. -/
import Derived.Test.YtifalphladcdcaaGreatWk
import Derived.Test.YtifalphladcdcaaGreatPZb
set_option linter.unusedVariables false
set_option linter.unusedSimpArgs false
namespace Go.Proofs.YtifalphladcdcaaGreat.H
open Go Go.VM
set_option maxRecDepth 100000
/-! ## F54 -/
noncomputable abbrev B54 : Code := (Tryz.f54.body).getD .skip
inductive N54_r1 where
  | e0 (b2830 : Bool) (z2831 : Int) (z2832 : Int) (z2833 : Int) (z2834 : Int) (z2835 : Int) (z2836 : Int) (z2837 : Int) (z2838 : Int) (z2839 : Int) (z2840 : Int) (z2841 : Int) (z2842 : Int) (z2843 : Int) (z2844 : Int)
@[reducible] def N54_r1.out : N54_r1 → VX × S
  | .e0 b2830 z2831 z2832 z2833 z2834 z2835 z2836 z2837 z2838 z2839 z2840 z2841 z2842 z2843 z2844 => (VX.normal, { T := U :: V.ptr 0 0 0 :: U :: vb b2830 :: un 38 [], σ := [Ob.cells true false 14 [[i64 z2831, u8 z2832, u8 z2833, u8 z2834, u8 z2835, u8 z2836, u8 z2837, u8 z2838, u8 z2839, i64 z2840, i64 z2841, i64 z2842, i64 z2843, i64 z2844]]] })
def N54_r1.ex (g : N54_r1 → Prop) : Prop := (∃ (b2830 : Bool) (z2831 : Int) (z2832 : Int) (z2833 : Int) (z2834 : Int) (z2835 : Int) (z2836 : Int) (z2837 : Int) (z2838 : Int) (z2839 : Int) (z2840 : Int) (z2841 : Int) (z2842 : Int) (z2843 : Int) (z2844 : Int), g (.e0 b2830 z2831 z2832 z2833 z2834 z2835 z2836 z2837 z2838 z2839 z2840 z2841 z2842 z2843 z2844))
theorem N54_r1.ok (g : N54_r1 → Prop) : N54_r1.ex g ↔ ∃ b, g b := ⟨fun h => match h with
  | ⟨_, _, _, _, _, _, _, _, _, _, _, _, _, _, _, h⟩ => ⟨_, h⟩, fun ⟨b, h⟩ => match b, h with
  | .e0 _ _ _ _ _ _ _ _ _ _ _ _ _ _ _, h => ⟨_, _, _, _, _, _, _, _, _, _, _, _, _, _, _, h⟩⟩
abbrev E54_r1 : Ent (VX × S) := ⟨N54_r1, N54_r1.out, N54_r1.ex, N54_r1.ok⟩
noncomputable def D54_r1 (z2810 : Int) (z2811 : Int) (z2812 : Int) (z2813 : Int) (z2814 : Int) (z2815 : Int) (z2816 : Int) (z2817 : Int) (z2818 : Int) (z2819 : Int) (z2820 : Int) (z2821 : Int) (z2822 : Int) (z2823 : Int) : PT N54_r1 :=
  .auto 1 <|
  .tot O113 (F113_ok (z2819)) fun b2862 =>
  .testB (b2862)
   (fun h0 =>
   .auto 4 <|
   .tot O113 (F113_ok (z2820)) fun b2863 =>
   .auto 1 <|
   .testB (b2863)
    (fun h1 =>
    .auto 4 <|
    .tot O113 (F113_ok (z2821)) fun b2864 =>
    .auto 1 <|
    .testB (b2864)
     (fun h2 =>
     .auto 4 <|
     .tot O113 (F113_ok (z2822)) fun b2865 =>
     .auto 1 <|
     .ret (N54_r1.e0 (b2865) (z2810) (z2811) (z2812) (z2813) (z2814) (z2815) (z2816) (z2817) (z2818) (z2819) (z2820) (z2821) (z2822) (z2823))
     )
     (fun h2 =>
     .auto 4 <|
     .ret (N54_r1.e0 (false) (z2810) (z2811) (z2812) (z2813) (z2814) (z2815) (z2816) (z2817) (z2818) (z2819) (z2820) (z2821) (z2822) (z2823))
     )
    )
    (fun h1 =>
    .auto 9 <|
    .ret (N54_r1.e0 (false) (z2810) (z2811) (z2812) (z2813) (z2814) (z2815) (z2816) (z2817) (z2818) (z2819) (z2820) (z2821) (z2822) (z2823))
    )
   )
   (fun h0 =>
   .auto 14 <|
   .ret (N54_r1.e0 (false) (z2810) (z2811) (z2812) (z2813) (z2814) (z2815) (z2816) (z2817) (z2818) (z2819) (z2820) (z2821) (z2822) (z2823))
   )
noncomputable def J54_r1 (z2810 : Int) (z2811 : Int) (z2812 : Int) (z2813 : Int) (z2814 : Int) (z2815 : Int) (z2816 : Int) (z2817 : Int) (z2818 : Int) (z2819 : Int) (z2820 : Int) (z2821 : Int) (z2822 : Int) (z2823 : Int) : Option N54_r1 := (D54_r1 z2810 z2811 z2812 z2813 z2814 z2815 z2816 z2817 z2818 z2819 z2820 z2821 z2822 z2823).ev some
theorem J54_r1_ok (z2810 : Int) (z2811 : Int) (z2812 : Int) (z2813 : Int) (z2814 : Int) (z2815 : Int) (z2816 : Int) (z2817 : Int) (z2818 : Int) (z2819 : Int) (z2820 : Int) (z2821 : Int) (z2822 : Int) (z2823 : Int) : ∀ b, J54_r1 z2810 z2811 z2812 z2813 z2814 z2815 z2816 z2817 z2818 z2819 z2820 z2821 z2822 z2823 = some b → regP Tryz.prog X CC 54 (0) B54 1 ({ T := U :: V.ptr 0 0 0 :: un 40 [], σ := [Ob.cells true false 14 [[i64 z2810, u8 z2811, u8 z2812, u8 z2813, u8 z2814, u8 z2815, u8 z2816, u8 z2817, u8 z2818, i64 z2819, i64 z2820, i64 z2821, i64 z2822, i64 z2823]]] }) = some (E54_r1.out b) :=
  reg_ok (E := E54_r1) (fun x => by kernel_rfl)
noncomputable def D54 (z2796 : Int) (z2797 : Int) (z2798 : Int) (z2799 : Int) (z2800 : Int) (z2801 : Int) (z2802 : Int) (z2803 : Int) (z2804 : Int) (z2805 : Int) (z2806 : Int) (z2807 : Int) (z2808 : Int) (z2809 : Int) : PT A54 :=
  .cut E54_r1 (J54_r1_ok (z2796) (z2797) (z2798) (z2799) (z2800) (z2801) (z2802) (z2803) (z2804) (z2805) (z2806) (z2807) (z2808) (z2809)) fun (r : N54_r1) => match r with
  | .e0 b2866 z2867 z2868 z2869 z2870 z2871 z2872 z2873 z2874 z2875 z2876 z2877 z2878 z2879 z2880 =>
   .auto 1 <|
   .test (z2867 ≥ 0)
    (fun h0 =>
    .auto 4 <|
    .test (z2867 ≤ 2)
     (fun h1 =>
     .auto 1 <|
     .testB (b2866)
      (fun h2 =>
      .auto 3 <|
      .tot O113 (F113_ok (z2880)) fun b2881 =>
      .auto 1 <|
      .ret (A54.a0 (b2881))
      )
      (fun h2 =>
      .auto 3 <|
      .ret (A54.a0 (false))
      )
     )
     (fun h1 =>
     .auto 5 <|
     .ret (A54.a0 (false))
     )
    )
    (fun h0 =>
    .auto 9 <|
    .ret (A54.a0 (false))
    )
noncomputable def F54 (z2796 : Int) (z2797 : Int) (z2798 : Int) (z2799 : Int) (z2800 : Int) (z2801 : Int) (z2802 : Int) (z2803 : Int) (z2804 : Int) (z2805 : Int) (z2806 : Int) (z2807 : Int) (z2808 : Int) (z2809 : Int) : Option A54 := (D54 z2796 z2797 z2798 z2799 z2800 z2801 z2802 z2803 z2804 z2805 z2806 z2807 z2808 z2809).ev some
theorem F54_ok (z2796 : Int) (z2797 : Int) (z2798 : Int) (z2799 : Int) (z2800 : Int) (z2801 : Int) (z2802 : Int) (z2803 : Int) (z2804 : Int) (z2805 : Int) (z2806 : Int) (z2807 : Int) (z2808 : Int) (z2809 : Int) : ∀ b, F54 z2796 z2797 z2798 z2799 z2800 z2801 z2802 z2803 z2804 z2805 z2806 z2807 z2808 z2809 = some b → UU 54 ([V.agg [i64 z2796, u8 z2797, u8 z2798, u8 z2799, u8 z2800, u8 z2801, u8 z2802, u8 z2803, u8 z2804, i64 z2805, i64 z2806, i64 z2807, i64 z2808, i64 z2809]]) ([]) = some (A54.out b) :=
  fn_ok (E := E54) (L := notIn []) rfl rfl (fun x => by kernel_rfl)
/-! ## F55 -/
noncomputable abbrev B55 : Code := (Tryz.f55.body).getD .skip
inductive N55_0 where
  | s0 (l2888 : List (List V)) (z2889 : Int) (z2890 : Int) (z2891 : Int)
  | e0
  | e1 (l2892 : List (List V))
@[reducible] def N55_0.out : N55_0 → VX × S
  | .s0 l2888 z2889 z2890 z2891 => (VX.normal, { T := V.list 10 l2888 :: U :: U :: i64 z2889 :: U :: U :: V.list 10 l2888 :: i64 z2890 :: i64 z2891 :: un 20 [], σ := [] })
  | .e0 => (VX.ret, { T := U :: U :: vb false :: un 26 [], σ := [] })
  | .e1 l2892 => (VX.exit 0, { T := V.list 10 l2892 :: un 28 [], σ := [] })
def N55_0.ex (g : N55_0 → Prop) : Prop := (∃ (l2888 : List (List V)) (z2889 : Int) (z2890 : Int) (z2891 : Int), g (.s0 l2888 z2889 z2890 z2891)) ∨ g .e0 ∨ (∃ (l2892 : List (List V)), g (.e1 l2892))
theorem N55_0.ok (g : N55_0 → Prop) : N55_0.ex g ↔ ∃ b, g b := ⟨fun h => match h with
  | .inl ⟨_, _, _, _, h⟩ => ⟨_, h⟩
  | .inr (.inl h) => ⟨_, h⟩
  | .inr (.inr (⟨_, h⟩)) => ⟨_, h⟩, fun ⟨b, h⟩ => match b, h with
  | .s0 _ _ _ _, h => .inl ⟨_, _, _, _, h⟩
  | .e0, h => .inr (.inl h)
  | .e1 _, h => .inr (.inr (⟨_, h⟩))⟩
abbrev E55_0 : Ent (VX × S) := ⟨N55_0, N55_0.out, N55_0.ex, N55_0.ok⟩
noncomputable def D55_0 (l2888 : List (List V)) (z2889 : Int) (z2890 : Int) (z2891 : Int) : PT N55_0 :=
  .test (z2891 < z2890)
   (fun h0 =>
   .test (0 ≤ z2891)
    (fun h1 =>
    .look RW108 (l2888[Int.toNat z2891]?) fun e2895 =>
    .auto 4 <|
    .ask E114 (F114_ok (z2891) (z2889) (e2895.c0) (e2895.c5) (e2895.c6) (e2895.c7) (e2895.c8) (e2895.c9)) fun (r : A114) => match r with
    | .a0 b2896 =>
     .testB (!b2896)
      (fun h2 =>
      .ret (N55_0.e0)
      )
      (fun h2 =>
      .auto 1 <|
      .ret (N55_0.s0 (l2888) (e2895.c0) (z2890) (w64 (z2891 + 1)))
      )
    )
    (fun _ => .fail) -- none
   )
   (fun h0 =>
   .ret (N55_0.e1 (l2888))
   )
noncomputable def S55_0 : N55_0 → PT N55_0
  | .s0 l2888 z2889 z2890 z2891 => D55_0 l2888 z2889 z2890 z2891
  | _ => .fail
def N55_0.off : N55_0 → Bool
  | .s0 _ _ _ _ => false
  | _ => true
noncomputable def L55_0 (n : Nat) (b : N55_0) : Option N55_0 := PT.loop (S55_0) N55_0.off n b
theorem L55_0_ok : ∀ (n : Nat) (b : N55_0), N55_0.off b = false → ∀ c, L55_0 n b = some c → loopP Tryz.prog X CC 55 (0) 18446744073709551616 B55 0 n (E55_0.out b).2 = some (E55_0.out c) :=
  loop_ok (E := E55_0) (step := S55_0) (L := notIn []) (fun b hb => by cases b <;> first | (cases hb; done) | (intro x; kernel_rfl)) (fun b => by cases b <;> rfl)
noncomputable def N55_0.nx (n : Nat) (c : N55_0) : Option N55_0 := match N55_0.off c with
  | true => some c
  | false => L55_0 n c
theorem L55_0_s0 (n : Nat) (l2888 : List (List V)) (z2889 : Int) (z2890 : Int) (z2891 : Int) : L55_0 (n + 1) (.s0 l2888 z2889 z2890 z2891) = (D55_0 l2888 z2889 z2890 z2891).ev (N55_0.nx n) := rfl
theorem N55_0.nx_s0 (n : Nat) (l2888 : List (List V)) (z2889 : Int) (z2890 : Int) (z2891 : Int) : N55_0.nx n (.s0 l2888 z2889 z2890 z2891) = L55_0 n (.s0 l2888 z2889 z2890 z2891) := rfl
theorem N55_0.nx_e0 (n : Nat) : N55_0.nx n (.e0) = some (.e0) := rfl
theorem N55_0.nx_e1 (n : Nat) (l2892 : List (List V)) : N55_0.nx n (.e1 l2892) = some (.e1 l2892) := rfl
noncomputable def D55 (l2883 : List (List V)) : PT A55 :=
  .cut E55_0 (L55_0_ok 18446744073709551616 (.s0 (l2883) (0) ((↑(List.length l2883) : Int)) (0)) rfl) fun (r : N55_0) => match r with
  | .e0 =>
   .ret (A55.a0 (false))
  | .e1 l2897 =>
   .ret (A55.a0 (decide ((↑(List.length l2897) : Int) ≤ 32)))
  | _ => .fail
noncomputable def F55 (l2883 : List (List V)) : Option A55 := (D55 l2883).ev some
theorem F55_ok (l2883 : List (List V)) : ∀ b, F55 l2883 = some b → UU 55 ([V.list 10 l2883]) ([]) = some (A55.out b) :=
  fn_ok (E := E55) (L := notIn []) rfl rfl (fun x => by kernel_rfl)
/-! ## F116 -/
noncomputable def D116 (z2908 : Int) : PT (Bool) :=
  .test (z2908 < 65536)
   (fun h0 =>
   .auto 2 <|
   .ret (true)
   )
   (fun h0 =>
   .auto 2 <|
   .ret (decide (z2908 > 67108864))
   )
@[reducible] def O116 (b2909 : Bool) : V × Store := (vb b2909, [])
noncomputable def F116 (z2908 : Int) : Bool := (D116 z2908).evT
theorem F116_ok (z2908 : Int) : UU 116 ([i64 z2908]) ([]) = some (O116 (F116 z2908)) :=
  fnT_ok (out := O116) (L := notIn []) rfl rfl (fun x => by kernel_rfl) (by simp [D116, PT.isT])
/-! ## F180 -/
noncomputable abbrev B180 : Code := (Tryz.f180.body).getD .skip
inductive N180_0 where
  | s0 (l2911 : List (List V)) (z2912 : Int) (z2913 : Int)
  | e0 (z2917 : Int)
  | e1
@[reducible] def N180_0.out : N180_0 → VX × S
  | .s0 l2911 z2912 z2913 => (VX.normal, { T := V.list 1 l2911 :: V.fn 116 [] :: un 5 (i64 z2912 :: i64 z2913 :: un 10 []), σ := [] })
  | .e0 z2917 => (VX.ret, { T := un 4 (i64 z2917 :: un 14 []), σ := [] })
  | .e1 => (VX.exit 0, { T := un 19 [], σ := [] })
def N180_0.ex (g : N180_0 → Prop) : Prop := (∃ (l2911 : List (List V)) (z2912 : Int) (z2913 : Int), g (.s0 l2911 z2912 z2913)) ∨ (∃ (z2917 : Int), g (.e0 z2917)) ∨ g .e1
theorem N180_0.ok (g : N180_0 → Prop) : N180_0.ex g ↔ ∃ b, g b := ⟨fun h => match h with
  | .inl ⟨_, _, _, h⟩ => ⟨_, h⟩
  | .inr (.inl ⟨_, h⟩) => ⟨_, h⟩
  | .inr (.inr (h)) => ⟨_, h⟩, fun ⟨b, h⟩ => match b, h with
  | .s0 _ _ _, h => .inl ⟨_, _, _, h⟩
  | .e0 _, h => .inr (.inl ⟨_, h⟩)
  | .e1, h => .inr (.inr (h))⟩
abbrev E180_0 : Ent (VX × S) := ⟨N180_0, N180_0.out, N180_0.ex, N180_0.ok⟩
noncomputable def D180_0 (l2911 : List (List V)) (z2912 : Int) (z2913 : Int) : PT N180_0 :=
  .test (z2913 < z2912)
   (fun h0 =>
   .test (0 ≤ z2913)
    (fun h1 =>
    .look RW2 (l2911[Int.toNat z2913]?) fun e2919 =>
    .tot O116 (F116_ok (e2919.c0)) fun b2920 =>
    .testB (b2920)
     (fun h2 =>
     .ret (N180_0.e0 (z2913))
     )
     (fun h2 =>
     .ret (N180_0.s0 (l2911) (z2912) (w64 (z2913 + 1)))
     )
    )
    (fun _ => .fail) -- none
   )
   (fun h0 =>
   .ret (N180_0.e1)
   )
noncomputable def S180_0 : N180_0 → PT N180_0
  | .s0 l2911 z2912 z2913 => D180_0 l2911 z2912 z2913
  | _ => .fail
def N180_0.off : N180_0 → Bool
  | .s0 _ _ _ => false
  | _ => true
noncomputable def L180_0 (n : Nat) (b : N180_0) : Option N180_0 := PT.loop (S180_0) N180_0.off n b
theorem L180_0_ok : ∀ (n : Nat) (b : N180_0), N180_0.off b = false → ∀ c, L180_0 n b = some c → loopP Tryz.prog X CC 180 (0) 18446744073709551616 B180 0 n (E180_0.out b).2 = some (E180_0.out c) :=
  loop_ok (E := E180_0) (step := S180_0) (L := notIn []) (fun b hb => by cases b <;> first | (cases hb; done) | (intro x; kernel_rfl)) (fun b => by cases b <;> rfl)
noncomputable def N180_0.nx (n : Nat) (c : N180_0) : Option N180_0 := match N180_0.off c with
  | true => some c
  | false => L180_0 n c
theorem L180_0_s0 (n : Nat) (l2911 : List (List V)) (z2912 : Int) (z2913 : Int) : L180_0 (n + 1) (.s0 l2911 z2912 z2913) = (D180_0 l2911 z2912 z2913).ev (N180_0.nx n) := rfl
theorem N180_0.nx_s0 (n : Nat) (l2911 : List (List V)) (z2912 : Int) (z2913 : Int) : N180_0.nx n (.s0 l2911 z2912 z2913) = L180_0 n (.s0 l2911 z2912 z2913) := rfl
theorem N180_0.nx_e0 (n : Nat) (z2917 : Int) : N180_0.nx n (.e0 z2917) = some (.e0 z2917) := rfl
theorem N180_0.nx_e1 (n : Nat) : N180_0.nx n (.e1) = some (.e1) := rfl
noncomputable def D180 (l2904 : List (List V)) : PT A180 :=
  .cut E180_0 (L180_0_ok 18446744073709551616 (.s0 (l2904) ((↑(List.length l2904) : Int)) (0)) rfl) fun (r : N180_0) => match r with
  | .e0 z2921 =>
   .ret (A180.a0 (z2921))
  | .e1 =>
   .ret (A180.a0 (-1))
  | _ => .fail
noncomputable def F180 (l2904 : List (List V)) : Option A180 := (D180 l2904).ev some
theorem F180_ok (l2904 : List (List V)) : ∀ b, F180 l2904 = some b → UU 180 ([V.list 1 l2904, V.fn 116 []]) ([]) = some (A180.out b) :=
  fn_ok (E := E180) (L := notIn []) rfl rfl (fun x => by kernel_rfl)
/-! ## F115 -/
noncomputable def D115 (l2903 : List (List V)) : PT A115 :=
  .ask E180 (F180_ok (l2903)) fun (r : A180) => match r with
  | .a0 z2922 =>
   .ret (A115.a0 (decide (z2922 ≥ 0)))
noncomputable def F115 (l2903 : List (List V)) : Option A115 := (D115 l2903).ev some
theorem F115_ok (l2903 : List (List V)) : ∀ b, F115 l2903 = some b → UU 115 ([V.list 1 l2903, V.fn 116 []]) ([]) = some (A115.out b) :=
  fn_ok (E := E115) (L := notIn []) rfl rfl (fun x => by kernel_rfl)
/-! ## F57 -/
noncomputable def D57 (l2902 : List (List V)) : PT A57 :=
  .test ((↑(List.length l2902) : Int) ≤ 8)
   (fun h0 =>
   .auto 1 <|
   .ask E115 (F115_ok (l2902)) fun (r : A115) => match r with
   | .a0 b2924 =>
    .auto 2 <|
    .ret (A57.a0 (!b2924))
   )
   (fun h0 =>
   .auto 3 <|
   .ret (A57.a0 (false))
   )
noncomputable def F57 (l2902 : List (List V)) : Option A57 := (D57 l2902).ev some
theorem F57_ok (l2902 : List (List V)) : ∀ b, F57 l2902 = some b → UU 57 ([V.list 1 l2902]) ([]) = some (A57.out b) :=
  fn_ok (E := E57) (L := notIn []) rfl rfl (fun x => by kernel_rfl)
/-! ## F15 -/
noncomputable def D15 (z1969 : Int) (z1970 : Int) (l1971 : List (List V)) (l1972 : List (List V)) (l1973 : List (List V)) (b1974 : Bool) (z1975 : Int) (z1976 : Int) (z1977 : Int) (z1978 : Int) (z1979 : Int) (z1980 : Int) (z1981 : Int) (z1982 : Int) (z1983 : Int) (z1984 : Int) (z1985 : Int) (z1986 : Int) (z1987 : Int) (z1988 : Int) (z1989 : Int) (l1990 : List (List V)) (b1991 : Bool) (l1992 : List (List V)) (z1993 : Int) (z1994 : Int) (z1995 : Int) (z1996 : Int) (z1997 : Int) (l1998 : List (List V)) (l1999 : List (List V)) (l2000 : List (List V)) : PT A15 :=
  .auto 1 <|
  .ask E53 (F53_ok (z1969) (z1970) (l1971) (l1972) (l1973) (b1974) (z1975) (z1976) (z1977) (z1978) (z1979) (z1980) (z1981) (z1982) (z1983) (z1984) (z1985) (z1986) (z1987) (z1988) (z1989) (l1990) (b1991) (l1992) (z1993) (z1994) (z1995) (z1996) (z1997) (l1998) (l1999) (l2000)) fun (r : A53) => match r with
  | .a0 b2795 =>
   .testB (b2795)
    (fun h0 =>
    .auto 4 <|
    .testB (z1975 == 0)
     (fun h1 =>
     .auto 9 <|
     .ask E54 (F54_ok (z1976) (z1977) (z1978) (z1979) (z1980) (z1981) (z1982) (z1983) (z1984) (z1985) (z1986) (z1987) (z1988) (z1989)) fun (r : A54) => match r with
     | .a0 b2882 =>
      .auto 1 <|
      .testB (b2882)
       (fun h2 =>
       .auto 3 <|
       .ask E55 (F55_ok (l1990)) fun (r : A55) => match r with
       | .a0 b2898 =>
        .auto 1 <|
        .testB (b2898)
         (fun h3 =>
         .auto 3 <|
         .ask E56 (F56_ok (l1992)) fun (r : A56) => match r with
         | .a0 b2899 =>
          .auto 1 <|
          .testB (b2899)
           (fun h4 =>
           .auto 3 <|
           .ask E56 (F56_ok (l1999)) fun (r : A56) => match r with
           | .a0 b2900 =>
            .auto 1 <|
            .testB (b2900)
             (fun h5 =>
             .auto 3 <|
             .ask E56 (F56_ok (l2000)) fun (r : A56) => match r with
             | .a0 b2901 =>
              .auto 1 <|
              .testB (b2901)
               (fun h6 =>
               .auto 4 <|
               .testB (z1997 == 0)
                (fun h7 =>
                .auto 9 <|
                .ask E57 (F57_ok (l1998)) fun (r : A57) => match r with
                | .a0 b2926 =>
                 .auto 1 <|
                 .ret (A15.a0 (b2926))
                )
                (fun h7 =>
                .auto 6 <|
                .testB (z1997 == 1)
                 (fun h8 =>
                 .auto 3 <|
                 .ask E57 (F57_ok (l1998)) fun (r : A57) => match r with
                 | .a0 b2928 =>
                  .auto 1 <|
                  .ret (A15.a0 (b2928))
                 )
                 (fun h8 =>
                 .auto 3 <|
                 .ret (A15.a0 (false))
                 )
                )
               )
               (fun h6 =>
               .auto 9 <|
               .ret (A15.a0 (false))
               )
             )
             (fun h5 =>
             .auto 13 <|
             .ret (A15.a0 (false))
             )
           )
           (fun h4 =>
           .auto 17 <|
           .ret (A15.a0 (false))
           )
         )
         (fun h3 =>
         .auto 21 <|
         .ret (A15.a0 (false))
         )
       )
       (fun h2 =>
       .auto 25 <|
       .ret (A15.a0 (false))
       )
     )
     (fun h1 =>
     .auto 6 <|
     .testB (z1975 == 1)
      (fun h2 =>
      .auto 3 <|
      .ask E54 (F54_ok (z1976) (z1977) (z1978) (z1979) (z1980) (z1981) (z1982) (z1983) (z1984) (z1985) (z1986) (z1987) (z1988) (z1989)) fun (r : A54) => match r with
      | .a0 b2929 =>
       .auto 1 <|
       .testB (b2929)
        (fun h3 =>
        .auto 3 <|
        .ask E55 (F55_ok (l1990)) fun (r : A55) => match r with
        | .a0 b2930 =>
         .auto 1 <|
         .testB (b2930)
          (fun h4 =>
          .auto 3 <|
          .ask E56 (F56_ok (l1992)) fun (r : A56) => match r with
          | .a0 b2931 =>
           .auto 1 <|
           .testB (b2931)
            (fun h5 =>
            .auto 3 <|
            .ask E56 (F56_ok (l1999)) fun (r : A56) => match r with
            | .a0 b2932 =>
             .auto 1 <|
             .testB (b2932)
              (fun h6 =>
              .auto 3 <|
              .ask E56 (F56_ok (l2000)) fun (r : A56) => match r with
              | .a0 b2933 =>
               .auto 1 <|
               .testB (b2933)
                (fun h7 =>
                .auto 4 <|
                .testB (z1997 == 0)
                 (fun h8 =>
                 .auto 9 <|
                 .ask E57 (F57_ok (l1998)) fun (r : A57) => match r with
                 | .a0 b2934 =>
                  .auto 1 <|
                  .ret (A15.a0 (b2934))
                 )
                 (fun h8 =>
                 .auto 6 <|
                 .testB (z1997 == 1)
                  (fun h9 =>
                  .auto 3 <|
                  .ask E57 (F57_ok (l1998)) fun (r : A57) => match r with
                  | .a0 b2935 =>
                   .auto 1 <|
                   .ret (A15.a0 (b2935))
                  )
                  (fun h9 =>
                  .auto 3 <|
                  .ret (A15.a0 (false))
                  )
                 )
                )
                (fun h7 =>
                .auto 9 <|
                .ret (A15.a0 (false))
                )
              )
              (fun h6 =>
              .auto 13 <|
              .ret (A15.a0 (false))
              )
            )
            (fun h5 =>
            .auto 17 <|
            .ret (A15.a0 (false))
            )
          )
          (fun h4 =>
          .auto 21 <|
          .ret (A15.a0 (false))
          )
        )
        (fun h3 =>
        .auto 25 <|
        .ret (A15.a0 (false))
        )
      )
      (fun h2 =>
      .auto 29 <|
      .ret (A15.a0 (false))
      )
     )
    )
    (fun h0 =>
    .auto 35 <|
    .ret (A15.a0 (false))
    )
noncomputable def F15 (z1969 : Int) (z1970 : Int) (l1971 : List (List V)) (l1972 : List (List V)) (l1973 : List (List V)) (b1974 : Bool) (z1975 : Int) (z1976 : Int) (z1977 : Int) (z1978 : Int) (z1979 : Int) (z1980 : Int) (z1981 : Int) (z1982 : Int) (z1983 : Int) (z1984 : Int) (z1985 : Int) (z1986 : Int) (z1987 : Int) (z1988 : Int) (z1989 : Int) (l1990 : List (List V)) (b1991 : Bool) (l1992 : List (List V)) (z1993 : Int) (z1994 : Int) (z1995 : Int) (z1996 : Int) (z1997 : Int) (l1998 : List (List V)) (l1999 : List (List V)) (l2000 : List (List V)) : Option A15 := (D15 z1969 z1970 l1971 l1972 l1973 b1974 z1975 z1976 z1977 z1978 z1979 z1980 z1981 z1982 z1983 z1984 z1985 z1986 z1987 z1988 z1989 l1990 b1991 l1992 z1993 z1994 z1995 z1996 z1997 l1998 l1999 l2000).ev some
theorem F15_ok (z1969 : Int) (z1970 : Int) (l1971 : List (List V)) (l1972 : List (List V)) (l1973 : List (List V)) (b1974 : Bool) (z1975 : Int) (z1976 : Int) (z1977 : Int) (z1978 : Int) (z1979 : Int) (z1980 : Int) (z1981 : Int) (z1982 : Int) (z1983 : Int) (z1984 : Int) (z1985 : Int) (z1986 : Int) (z1987 : Int) (z1988 : Int) (z1989 : Int) (l1990 : List (List V)) (b1991 : Bool) (l1992 : List (List V)) (z1993 : Int) (z1994 : Int) (z1995 : Int) (z1996 : Int) (z1997 : Int) (l1998 : List (List V)) (l1999 : List (List V)) (l2000 : List (List V)) : ∀ b, F15 z1969 z1970 l1971 l1972 l1973 b1974 z1975 z1976 z1977 z1978 z1979 z1980 z1981 z1982 z1983 z1984 z1985 z1986 z1987 z1988 z1989 l1990 b1991 l1992 z1993 z1994 z1995 z1996 z1997 l1998 l1999 l2000 = some b → UU 15 ([V.agg [i64 z1969, i64 z1970, V.list 7 l1971, V.list 7 l1972, V.list 8 l1973, vb b1974, i64 z1975, i64 z1976, u8 z1977, u8 z1978, u8 z1979, u8 z1980, u8 z1981, u8 z1982, u8 z1983, u8 z1984, i64 z1985, i64 z1986, i64 z1987, i64 z1988, i64 z1989, V.list 10 l1990, vb b1991, V.list 7 l1992, u8 z1993, u8 z1994, u8 z1995, u8 z1996, i64 z1997, V.list 1 l1998, V.list 7 l1999, V.list 7 l2000]]) ([]) = some (A15.out b) :=
  fn_ok (E := E15) (L := notIn []) rfl rfl (fun x => by kernel_rfl)
/-! ## F118 -/
noncomputable def D118 (z3143 : Int) (z3144 : Int) (z3145 : Int) : PT (Bool) :=
  .test (z3143 ≥ z3144)
   (fun h0 =>
   .auto 3 <|
   .ret (decide (z3143 ≤ z3145))
   )
   (fun h0 =>
   .auto 3 <|
   .ret (false)
   )
@[reducible] def O118 (b3146 : Bool) : V × Store := (vb b3146, [])
noncomputable def F118 (z3143 : Int) (z3144 : Int) (z3145 : Int) : Bool := (D118 z3143 z3144 z3145).evT
theorem F118_ok (z3143 : Int) (z3144 : Int) (z3145 : Int) : UU 118 ([i64 z3143, i64 z3144, i64 z3145]) ([]) = some (O118 (F118 z3143 z3144 z3145)) :=
  fnT_ok (out := O118) (L := notIn []) rfl rfl (fun x => by kernel_rfl) (by simp [D118, PT.isT])
/-! ## F181 -/
noncomputable def D181 (z3149 : Int) (z3150 : Int) (z3151 : Int) (z3152 : Int) : PT (Bool) :=
  .auto 1 <|
  .tot O118 (F118_ok (z3149) (0) (65536)) fun b3153 =>
  .testB (b3153)
   (fun h0 =>
   .auto 3 <|
   .tot O118 (F118_ok (z3151) (0) (65536)) fun b3154 =>
   .auto 1 <|
   .testB (b3154)
    (fun h1 =>
    .auto 3 <|
    .tot O118 (F118_ok (z3150) (-131072) (196608)) fun b3155 =>
    .auto 1 <|
    .testB (b3155)
     (fun h2 =>
     .auto 3 <|
     .tot O118 (F118_ok (z3152) (-131072) (196608)) fun b3156 =>
     .auto 1 <|
     .ret (b3156)
     )
     (fun h2 =>
     .auto 3 <|
     .ret (false)
     )
    )
    (fun h1 =>
    .auto 7 <|
    .ret (false)
    )
   )
   (fun h0 =>
   .auto 11 <|
   .ret (false)
   )
@[reducible] def O181 (b3157 : Bool) : V × Store := (vb b3157, [])
noncomputable def F181 (z3149 : Int) (z3150 : Int) (z3151 : Int) (z3152 : Int) : Bool := (D181 z3149 z3150 z3151 z3152).evT
theorem F181_ok (z3149 : Int) (z3150 : Int) (z3151 : Int) (z3152 : Int) : UU 181 ([V.agg [i64 z3149, i64 z3150, i64 z3151, i64 z3152]]) ([]) = some (O181 (F181 z3149 z3150 z3151 z3152)) :=
  fnT_ok (out := O181) (L := notIn []) rfl rfl (fun x => by kernel_rfl) (by simp [D181, PT.isT])
/-! ## F117 -/
noncomputable def D117 (z3137 : Int) (z3138 : Int) (z3139 : Int) (z3140 : Int) (z3141 : Int) (z3142 : Int) : PT (Bool) :=
  .tot O118 (F118_ok (z3137) (-1073741824) (1073741824)) fun b3147 =>
  .testB (!b3147)
   (fun h0 =>
   .ret (false)
   )
   (fun h0 =>
   .testB (z3138 == 2)
    (fun h1 =>
    .auto 1 <|
    .tot O181 (F181_ok (z3139) (z3140) (z3141) (z3142)) fun b3158 =>
    .ret (b3158)
    )
    (fun h1 =>
    .testB (z3138 == 0)
     (fun h2 =>
     .auto 7 <|
     .ret (z3139 == 0 && (z3140 == 0 && (z3141 == 0 && (z3142 == 0 && true))))
     )
     (fun h2 =>
     .auto 2 <|
     .testB (z3138 == 1)
      (fun h3 =>
      .auto 4 <|
      .ret (z3139 == 0 && (z3140 == 0 && (z3141 == 0 && (z3142 == 0 && true))))
      )
      (fun h3 =>
      .auto 3 <|
      .ret (false)
      )
     )
    )
   )
@[reducible] def O117 (b3148 : Bool) : V × Store := (vb b3148, [])
noncomputable def F117 (z3137 : Int) (z3138 : Int) (z3139 : Int) (z3140 : Int) (z3141 : Int) (z3142 : Int) : Bool := (D117 z3137 z3138 z3139 z3140 z3141 z3142).evT
theorem F117_ok (z3137 : Int) (z3138 : Int) (z3139 : Int) (z3140 : Int) (z3141 : Int) (z3142 : Int) : UU 117 ([i64 z3137, i64 z3138, V.agg [i64 z3139, i64 z3140, i64 z3141, i64 z3142]]) ([]) = some (O117 (F117 z3137 z3138 z3139 z3140 z3141 z3142)) :=
  fnT_ok (out := O117) (L := notIn []) rfl rfl (fun x => by kernel_rfl) (by simp [D117, PT.isT])
/-! ## F58 -/
noncomputable abbrev B58 : Code := (Tryz.f58.body).getD .skip
inductive N58_0 where
  | s0 (l3162 : List (List V)) (z3163 : Int)
  | e0
  | e1 (l3164 : List (List V))
@[reducible] def N58_0.out : N58_0 → VX × S
  | .s0 l3162 z3163 => (VX.normal, { T := V.list 7 l3162 :: U :: U :: i64 z3163 :: un 53 [], σ := [] })
  | .e0 => (VX.ret, { T := U :: U :: vb false :: un 54 [], σ := [] })
  | .e1 l3164 => (VX.exit 0, { T := V.list 7 l3164 :: un 56 [], σ := [] })
def N58_0.ex (g : N58_0 → Prop) : Prop := (∃ (l3162 : List (List V)) (z3163 : Int), g (.s0 l3162 z3163)) ∨ g .e0 ∨ (∃ (l3164 : List (List V)), g (.e1 l3164))
theorem N58_0.ok (g : N58_0 → Prop) : N58_0.ex g ↔ ∃ b, g b := ⟨fun h => match h with
  | .inl ⟨_, _, h⟩ => ⟨_, h⟩
  | .inr (.inl h) => ⟨_, h⟩
  | .inr (.inr (⟨_, h⟩)) => ⟨_, h⟩, fun ⟨b, h⟩ => match b, h with
  | .s0 _ _, h => .inl ⟨_, _, h⟩
  | .e0, h => .inr (.inl h)
  | .e1 _, h => .inr (.inr (⟨_, h⟩))⟩
abbrev E58_0 : Ent (VX × S) := ⟨N58_0, N58_0.out, N58_0.ex, N58_0.ok⟩
noncomputable def D58_0 (l3162 : List (List V)) (z3163 : Int) : PT N58_0 :=
  .test (z3163 < (↑(List.length l3162) : Int))
   (fun h0 =>
   .test (0 ≤ z3163)
    (fun h1 =>
    .look RW74 (l3162[Int.toNat z3163]?) fun e3167 =>
    .known (decide_eq_true h1) <|
    .look RW74 (l3162[Int.toNat z3163]?) fun e3168 =>
    .known (decide_eq_true h1) <|
    .look RW74 (l3162[Int.toNat z3163]?) fun e3169 =>
    .tot O117 (F117_ok (e3167.c0) (e3168.c2) (e3169.c3) (e3169.c4) (e3169.c5) (e3169.c6)) fun b3170 =>
    .testB (!b3170)
     (fun h2 =>
     .auto 13 <|
     .ret (N58_0.e0)
     )
     (fun h2 =>
     .auto 2 <|
     .known (decide_eq_true h1) <|
     .look RW74 (l3162[Int.toNat z3163]?) fun e3171 =>
     .auto 3 <|
     .tot O118 (F118_ok (e3171.c1) (-67108864) (67108864)) fun b3172 =>
     .auto 2 <|
     .testB (!b3172)
      (fun h3 =>
      .auto 5 <|
      .ret (N58_0.e0)
      )
      (fun h3 =>
      .auto 2 <|
      .test (z3163 > 0)
       (fun h4 =>
       .auto 3 <|
       .test (0 ≤ w64 (z3163 - 1))
        (fun h5 =>
        .look RW74 (l3162[Int.toNat (w64 (z3163 - (1 : Int)))]?) fun e3173 =>
        .auto 5 <|
        .known (decide_eq_true h1) <|
        .look RW74 (l3162[Int.toNat z3163]?) fun e3174 =>
        .auto 6 <|
        .test (e3173.c0 ≥ e3174.c0)
         (fun h6 =>
         .ret (N58_0.e0)
         )
         (fun h6 =>
         .ret (N58_0.s0 (l3162) (w64 (z3163 + 1)))
         )
        )
        (fun _ => .fail) -- none
       )
       (fun h4 =>
       .auto 15 <|
       .ret (N58_0.s0 (l3162) (w64 (z3163 + 1)))
       )
      )
     )
    )
    (fun _ => .fail) -- none
   )
   (fun h0 =>
   .ret (N58_0.e1 (l3162))
   )
noncomputable def S58_0 : N58_0 → PT N58_0
  | .s0 l3162 z3163 => D58_0 l3162 z3163
  | _ => .fail
def N58_0.off : N58_0 → Bool
  | .s0 _ _ => false
  | _ => true
noncomputable def L58_0 (n : Nat) (b : N58_0) : Option N58_0 := PT.loop (S58_0) N58_0.off n b
theorem L58_0_ok : ∀ (n : Nat) (b : N58_0), N58_0.off b = false → ∀ c, L58_0 n b = some c → loopP Tryz.prog X CC 58 (0) 18446744073709551616 B58 0 n (E58_0.out b).2 = some (E58_0.out c) :=
  loop_ok (E := E58_0) (step := S58_0) (L := notIn []) (fun b hb => by cases b <;> first | (cases hb; done) | (intro x; kernel_rfl)) (fun b => by cases b <;> rfl)
noncomputable def N58_0.nx (n : Nat) (c : N58_0) : Option N58_0 := match N58_0.off c with
  | true => some c
  | false => L58_0 n c
theorem L58_0_s0 (n : Nat) (l3162 : List (List V)) (z3163 : Int) : L58_0 (n + 1) (.s0 l3162 z3163) = (D58_0 l3162 z3163).ev (N58_0.nx n) := rfl
theorem N58_0.nx_s0 (n : Nat) (l3162 : List (List V)) (z3163 : Int) : N58_0.nx n (.s0 l3162 z3163) = L58_0 n (.s0 l3162 z3163) := rfl
theorem N58_0.nx_e0 (n : Nat) : N58_0.nx n (.e0) = some (.e0) := rfl
theorem N58_0.nx_e1 (n : Nat) (l3164 : List (List V)) : N58_0.nx n (.e1 l3164) = some (.e1 l3164) := rfl
noncomputable def D58 (l3132 : List (List V)) : PT A58 :=
  .cut E58_0 (L58_0_ok 18446744073709551616 (.s0 (l3132) (0)) rfl) fun (r : N58_0) => match r with
  | .e0 =>
   .ret (A58.a0 (false))
  | .e1 l3175 =>
   .ret (A58.a0 (decide ((↑(List.length l3175) : Int) ≤ 32)))
  | _ => .fail
noncomputable def F58 (l3132 : List (List V)) : Option A58 := (D58 l3132).ev some
theorem F58_ok (l3132 : List (List V)) : ∀ b, F58 l3132 = some b → UU 58 ([V.list 7 l3132]) ([]) = some (A58.out b) :=
  fn_ok (E := E58) (L := notIn []) rfl rfl (fun x => by kernel_rfl)
/-! ## F182 -/
noncomputable def D182 (z3224 : Int) (z3225 : Int) : PT (Bool) :=
  .auto 1 <|
  .test (z3224 ≥ -67108864)
   (fun h0 =>
   .auto 4 <|
   .test (z3224 ≤ 67108864)
    (fun h1 =>
    .auto 4 <|
    .test (z3225 ≥ -67108864)
     (fun h2 =>
     .auto 4 <|
     .ret (decide (z3225 ≤ 67108864))
     )
     (fun h2 =>
     .auto 3 <|
     .ret (false)
     )
    )
    (fun h1 =>
    .auto 7 <|
    .ret (false)
    )
   )
   (fun h0 =>
   .auto 11 <|
   .ret (false)
   )
@[reducible] def O182 (b3226 : Bool) : V × Store := (vb b3226, [])
noncomputable def F182 (z3224 : Int) (z3225 : Int) : Bool := (D182 z3224 z3225).evT
theorem F182_ok (z3224 : Int) (z3225 : Int) : UU 182 ([V.agg [i64 z3224, i64 z3225]]) ([]) = some (O182 (F182 z3224 z3225)) :=
  fnT_ok (out := O182) (L := notIn []) rfl rfl (fun x => by kernel_rfl) (by simp [D182, PT.isT])
/-! ## F119 -/
noncomputable abbrev B119 : Code := (Tryz.f119.body).getD .skip
inductive N119_0 where
  | s0 (z3228 : Int) (z3229 : Int) (b3230 : Bool) (l3231 : List (List V))
  | e0
  | e1 (z3232 : Int)
@[reducible] def N119_0.out : N119_0 → VX × S
  | .s0 z3228 z3229 b3230 l3231 => (VX.normal, { T := U :: V.ptr 0 0 0 :: U :: i64 z3228 :: i64 z3229 :: un 31 [], σ := [Ob.cells true false 2 [[vb b3230, V.list 2 l3231]]] })
  | .e0 => (VX.ret, { T := U :: U :: vb false :: un 33 [], σ := [] })
  | .e1 z3232 => (VX.exit 0, { T := U :: U :: U :: i64 z3232 :: un 32 [], σ := [] })
def N119_0.ex (g : N119_0 → Prop) : Prop := (∃ (z3228 : Int) (z3229 : Int) (b3230 : Bool) (l3231 : List (List V)), g (.s0 z3228 z3229 b3230 l3231)) ∨ g .e0 ∨ (∃ (z3232 : Int), g (.e1 z3232))
theorem N119_0.ok (g : N119_0 → Prop) : N119_0.ex g ↔ ∃ b, g b := ⟨fun h => match h with
  | .inl ⟨_, _, _, _, h⟩ => ⟨_, h⟩
  | .inr (.inl h) => ⟨_, h⟩
  | .inr (.inr (⟨_, h⟩)) => ⟨_, h⟩, fun ⟨b, h⟩ => match b, h with
  | .s0 _ _ _ _, h => .inl ⟨_, _, _, _, h⟩
  | .e0, h => .inr (.inl h)
  | .e1 _, h => .inr (.inr (⟨_, h⟩))⟩
abbrev E119_0 : Ent (VX × S) := ⟨N119_0, N119_0.out, N119_0.ex, N119_0.ok⟩
noncomputable def D119_0 (z3228 : Int) (z3229 : Int) (b3230 : Bool) (l3231 : List (List V)) : PT N119_0 :=
  .test (z3229 < z3228)
   (fun h0 =>
   .auto 1 <|
   .test (0 ≤ z3229)
    (fun h1 =>
    .look RW28 (l3231[Int.toNat z3229]?) fun e3234 =>
    .tot O182 (F182_ok (e3234.c0) (e3234.c1)) fun b3235 =>
    .testB (!b3235)
     (fun h2 =>
     .ret (N119_0.e0)
     )
     (fun h2 =>
     .ret (N119_0.s0 (z3228) (w64 (z3229 + 1)) (b3230) (l3231))
     )
    )
    (fun _ => .fail) -- none
   )
   (fun h0 =>
   .ret (N119_0.e1 (z3228))
   )
noncomputable def S119_0 : N119_0 → PT N119_0
  | .s0 z3228 z3229 b3230 l3231 => D119_0 z3228 z3229 b3230 l3231
  | _ => .fail
def N119_0.off : N119_0 → Bool
  | .s0 _ _ _ _ => false
  | _ => true
noncomputable def L119_0 (n : Nat) (b : N119_0) : Option N119_0 := PT.loop (S119_0) N119_0.off n b
theorem L119_0_ok : ∀ (n : Nat) (b : N119_0), N119_0.off b = false → ∀ c, L119_0 n b = some c → loopP Tryz.prog X CC 119 (0) 18446744073709551616 B119 0 n (E119_0.out b).2 = some (E119_0.out c) :=
  loop_ok (E := E119_0) (step := S119_0) (L := notIn []) (fun b hb => by cases b <;> first | (cases hb; done) | (intro x; kernel_rfl)) (fun b => by cases b <;> rfl)
noncomputable def N119_0.nx (n : Nat) (c : N119_0) : Option N119_0 := match N119_0.off c with
  | true => some c
  | false => L119_0 n c
theorem L119_0_s0 (n : Nat) (z3228 : Int) (z3229 : Int) (b3230 : Bool) (l3231 : List (List V)) : L119_0 (n + 1) (.s0 z3228 z3229 b3230 l3231) = (D119_0 z3228 z3229 b3230 l3231).ev (N119_0.nx n) := rfl
theorem N119_0.nx_s0 (n : Nat) (z3228 : Int) (z3229 : Int) (b3230 : Bool) (l3231 : List (List V)) : N119_0.nx n (.s0 z3228 z3229 b3230 l3231) = L119_0 n (.s0 z3228 z3229 b3230 l3231) := rfl
theorem N119_0.nx_e0 (n : Nat) : N119_0.nx n (.e0) = some (.e0) := rfl
theorem N119_0.nx_e1 (n : Nat) (z3232 : Int) : N119_0.nx n (.e1 z3232) = some (.e1 z3232) := rfl
noncomputable def D119 (b3217 : Bool) (l3218 : List (List V)) : PT A119 :=
  .auto 1 <|
  .testB ((↑(List.length l3218) : Int) == 0)
   (fun h0 =>
   .auto 1 <|
   .ret (A119.a0 (!b3217))
   )
   (fun h0 =>
   .cut E119_0 (L119_0_ok 18446744073709551616 (.s0 ((↑(List.length l3218) : Int)) (0) (b3217) (l3218)) rfl) fun (r : N119_0) => match r with
   | .e0 =>
    .ret (A119.a0 (false))
   | .e1 z3236 =>
    .test (z3236 ≥ 4)
     (fun h1 =>
     .auto 2 <|
     .test (z3236 ≤ 97)
      (fun h2 =>
      .auto 4 <|
      .ret (A119.a0 (Int.tmod z3236 3 == 1))
      )
      (fun h2 =>
      .auto 3 <|
      .ret (A119.a0 (false))
      )
     )
     (fun h1 =>
     .auto 6 <|
     .ret (A119.a0 (false))
     )
   | _ => .fail
   )
noncomputable def F119 (b3217 : Bool) (l3218 : List (List V)) : Option A119 := (D119 b3217 l3218).ev some
theorem F119_ok (b3217 : Bool) (l3218 : List (List V)) : ∀ b, F119 b3217 l3218 = some b → UU 119 ([V.agg [vb b3217, V.list 2 l3218]]) ([]) = some (A119.out b) :=
  fn_ok (E := E119) (L := notIn []) rfl rfl (fun x => by kernel_rfl)
/-! ## F120 -/
noncomputable def D120 (b3241 : Bool) (l3242 : List (List V)) (b3243 : Bool) (l3244 : List (List V)) : PT (Bool) :=
  .auto 2 <|
  .testB ((↑(List.length l3242) : Int) == (↑(List.length l3244) : Int))
   (fun h0 =>
   .auto 7 <|
   .ret (b3241 == b3243)
   )
   (fun h0 =>
   .auto 5 <|
   .ret (false)
   )
@[reducible] def O120 (b3245 : Bool) : V × Store := (vb b3245, [])
noncomputable def F120 (b3241 : Bool) (l3242 : List (List V)) (b3243 : Bool) (l3244 : List (List V)) : Bool := (D120 b3241 l3242 b3243 l3244).evT
theorem F120_ok (b3241 : Bool) (l3242 : List (List V)) (b3243 : Bool) (l3244 : List (List V)) : UU 120 ([V.agg [vb b3241, V.list 2 l3242], V.agg [vb b3243, V.list 2 l3244]]) ([]) = some (O120 (F120 b3241 l3242 b3243 l3244)) :=
  fnT_ok (out := O120) (L := notIn []) rfl rfl (fun x => by kernel_rfl) (by simp [D120, PT.isT])
/-! ## F59 -/
noncomputable abbrev B59 : Code := (Tryz.f59.body).getD .skip
inductive N59_0 where
  | s0 (l3247 : List (List V)) (z3248 : Int)
  | e0
  | e1 (l3249 : List (List V))
@[reducible] def N59_0.out : N59_0 → VX × S
  | .s0 l3247 z3248 => (VX.normal, { T := V.list 8 l3247 :: U :: U :: i64 z3248 :: un 76 [], σ := [] })
  | .e0 => (VX.ret, { T := U :: U :: vb false :: un 77 [], σ := [] })
  | .e1 l3249 => (VX.exit 0, { T := V.list 8 l3249 :: un 79 [], σ := [] })
def N59_0.ex (g : N59_0 → Prop) : Prop := (∃ (l3247 : List (List V)) (z3248 : Int), g (.s0 l3247 z3248)) ∨ g .e0 ∨ (∃ (l3249 : List (List V)), g (.e1 l3249))
theorem N59_0.ok (g : N59_0 → Prop) : N59_0.ex g ↔ ∃ b, g b := ⟨fun h => match h with
  | .inl ⟨_, _, h⟩ => ⟨_, h⟩
  | .inr (.inl h) => ⟨_, h⟩
  | .inr (.inr (⟨_, h⟩)) => ⟨_, h⟩, fun ⟨b, h⟩ => match b, h with
  | .s0 _ _, h => .inl ⟨_, _, h⟩
  | .e0, h => .inr (.inl h)
  | .e1 _, h => .inr (.inr (⟨_, h⟩))⟩
abbrev E59_0 : Ent (VX × S) := ⟨N59_0, N59_0.out, N59_0.ex, N59_0.ok⟩
noncomputable def D59_0 (l3247 : List (List V)) (z3248 : Int) : PT N59_0 :=
  .test (z3248 < (↑(List.length l3247) : Int))
   (fun h0 =>
   .test (0 ≤ z3248)
    (fun h1 =>
    .look RW100 (l3247[Int.toNat z3248]?) fun e3252 =>
    .known (decide_eq_true h1) <|
    .look RW100 (l3247[Int.toNat z3248]?) fun e3253 =>
    .known (decide_eq_true h1) <|
    .look RW100 (l3247[Int.toNat z3248]?) fun e3254 =>
    .tot O117 (F117_ok (e3252.c0) (e3253.c3) (e3254.c4) (e3254.c5) (e3254.c6) (e3254.c7)) fun b3255 =>
    .testB (!b3255)
     (fun h2 =>
     .auto 34 <|
     .ret (N59_0.e0)
     )
     (fun h2 =>
     .auto 2 <|
     .test (z3248 > 0)
      (fun h3 =>
      .auto 3 <|
      .test (0 ≤ w64 (z3248 - 1))
       (fun h4 =>
       .look RW100 (l3247[Int.toNat (w64 (z3248 - (1 : Int)))]?) fun e3256 =>
       .auto 5 <|
       .known (decide_eq_true h1) <|
       .look RW100 (l3247[Int.toNat z3248]?) fun e3257 =>
       .auto 6 <|
       .test (e3256.c0 ≥ e3257.c0)
        (fun h5 =>
        .auto 29 <|
        .ret (N59_0.e0)
        )
        (fun h5 =>
        .auto 2 <|
        .known (decide_eq_true h1) <|
        .look RW100 (l3247[Int.toNat z3248]?) fun e3258 =>
        .auto 3 <|
        .ask E119 (F119_ok (e3258.c1) (e3258.c2)) fun (r : A119) => match r with
        | .a0 b3259 =>
         .auto 2 <|
         .testB (!b3259)
          (fun h6 =>
          .auto 21 <|
          .ret (N59_0.e0)
          )
          (fun h6 =>
          .auto 2 <|
          .known (decide_eq_true h1) <|
          .look RW100 (l3247[Int.toNat z3248]?) fun e3260 =>
          .auto 6 <|
          .testB ((↑(List.length e3260.c2) : Int) == 0)
           (fun h7 =>
           .auto 12 <|
           .ret (N59_0.e0)
           )
           (fun h7 =>
           .auto 2 <|
           .known (decide_eq_true h1) <|
           .look RW100 (l3247[Int.toNat z3248]?) fun e3261 =>
           .auto 5 <|
           .look RW100 (l3247[(0 : Nat)]?) fun e3262 =>
           .auto 3 <|
           .tot O120 (F120_ok (e3261.c1) (e3261.c2) (e3262.c1) (e3262.c2)) fun b3263 =>
           .auto 2 <|
           .testB (!b3263)
            (fun h8 =>
            .ret (N59_0.e0)
            )
            (fun h8 =>
            .ret (N59_0.s0 (l3247) (w64 (z3248 + 1)))
            )
           )
          )
        )
       )
       (fun _ => .fail) -- none
      )
      (fun h3 =>
      .auto 17 <|
      .known (decide_eq_true h1) <|
      .look RW100 (l3247[Int.toNat z3248]?) fun e3264 =>
      .auto 3 <|
      .ask E119 (F119_ok (e3264.c1) (e3264.c2)) fun (r : A119) => match r with
      | .a0 b3265 =>
       .auto 2 <|
       .testB (!b3265)
        (fun h4 =>
        .auto 21 <|
        .ret (N59_0.e0)
        )
        (fun h4 =>
        .auto 2 <|
        .known (decide_eq_true h1) <|
        .look RW100 (l3247[Int.toNat z3248]?) fun e3266 =>
        .auto 6 <|
        .testB ((↑(List.length e3266.c2) : Int) == 0)
         (fun h5 =>
         .auto 12 <|
         .ret (N59_0.e0)
         )
         (fun h5 =>
         .auto 2 <|
         .known (decide_eq_true h1) <|
         .look RW100 (l3247[Int.toNat z3248]?) fun e3267 =>
         .auto 5 <|
         .look RW100 (l3247[(0 : Nat)]?) fun e3268 =>
         .auto 3 <|
         .tot O120 (F120_ok (e3267.c1) (e3267.c2) (e3268.c1) (e3268.c2)) fun b3269 =>
         .auto 2 <|
         .testB (!b3269)
          (fun h6 =>
          .ret (N59_0.e0)
          )
          (fun h6 =>
          .ret (N59_0.s0 (l3247) (w64 (z3248 + 1)))
          )
         )
        )
      )
     )
    )
    (fun _ => .fail) -- none
   )
   (fun h0 =>
   .ret (N59_0.e1 (l3247))
   )
noncomputable def S59_0 : N59_0 → PT N59_0
  | .s0 l3247 z3248 => D59_0 l3247 z3248
  | _ => .fail
def N59_0.off : N59_0 → Bool
  | .s0 _ _ => false
  | _ => true
noncomputable def L59_0 (n : Nat) (b : N59_0) : Option N59_0 := PT.loop (S59_0) N59_0.off n b
theorem L59_0_ok : ∀ (n : Nat) (b : N59_0), N59_0.off b = false → ∀ c, L59_0 n b = some c → loopP Tryz.prog X CC 59 (0) 18446744073709551616 B59 0 n (E59_0.out b).2 = some (E59_0.out c) :=
  loop_ok (E := E59_0) (step := S59_0) (L := notIn []) (fun b hb => by cases b <;> first | (cases hb; done) | (intro x; kernel_rfl)) (fun b => by cases b <;> rfl)
noncomputable def N59_0.nx (n : Nat) (c : N59_0) : Option N59_0 := match N59_0.off c with
  | true => some c
  | false => L59_0 n c
theorem L59_0_s0 (n : Nat) (l3247 : List (List V)) (z3248 : Int) : L59_0 (n + 1) (.s0 l3247 z3248) = (D59_0 l3247 z3248).ev (N59_0.nx n) := rfl
theorem N59_0.nx_s0 (n : Nat) (l3247 : List (List V)) (z3248 : Int) : N59_0.nx n (.s0 l3247 z3248) = L59_0 n (.s0 l3247 z3248) := rfl
theorem N59_0.nx_e0 (n : Nat) : N59_0.nx n (.e0) = some (.e0) := rfl
theorem N59_0.nx_e1 (n : Nat) (l3249 : List (List V)) : N59_0.nx n (.e1 l3249) = some (.e1 l3249) := rfl
noncomputable def D59 (l3210 : List (List V)) : PT A59 :=
  .cut E59_0 (L59_0_ok 18446744073709551616 (.s0 (l3210) (0)) rfl) fun (r : N59_0) => match r with
  | .e0 =>
   .ret (A59.a0 (false))
  | .e1 l3270 =>
   .ret (A59.a0 (decide ((↑(List.length l3270) : Int) ≤ 32)))
  | _ => .fail
noncomputable def F59 (l3210 : List (List V)) : Option A59 := (D59 l3210).ev some
theorem F59_ok (l3210 : List (List V)) : ∀ b, F59 l3210 = some b → UU 59 ([V.list 8 l3210]) ([]) = some (A59.out b) :=
  fn_ok (E := E59) (L := notIn []) rfl rfl (fun x => by kernel_rfl)
/-! ## F121 -/
noncomputable def D121 (z3352 : Int) : PT (Bool) :=
  .test (z3352 ≥ -67108864)
   (fun h0 =>
   .auto 2 <|
   .ret (decide (z3352 ≤ 67108864))
   )
   (fun h0 =>
   .auto 2 <|
   .ret (false)
   )
@[reducible] def O121 (b3353 : Bool) : V × Store := (vb b3353, [])
noncomputable def F121 (z3352 : Int) : Bool := (D121 z3352).evT
theorem F121_ok (z3352 : Int) : UU 121 ([i64 z3352]) ([]) = some (O121 (F121 z3352)) :=
  fnT_ok (out := O121) (L := notIn []) rfl rfl (fun x => by kernel_rfl) (by simp [D121, PT.isT])
/-! ## F60 -/
noncomputable def D60 (z3338 : Int) (z3339 : Int) (z3340 : Int) (z3341 : Int) (z3342 : Int) (z3343 : Int) (z3344 : Int) (z3345 : Int) (z3346 : Int) (z3347 : Int) (z3348 : Int) (z3349 : Int) (z3350 : Int) (z3351 : Int) : PT (Bool) :=
  .auto 1 <|
  .test (z3338 ≥ 0)
   (fun h0 =>
   .auto 4 <|
   .test (z3338 ≤ 2)
    (fun h1 =>
    .auto 4 <|
    .tot O121 (F121_ok (z3347)) fun b3354 =>
    .auto 1 <|
    .testB (b3354)
     (fun h2 =>
     .auto 4 <|
     .tot O121 (F121_ok (z3348)) fun b3355 =>
     .auto 1 <|
     .testB (b3355)
      (fun h3 =>
      .auto 4 <|
      .tot O121 (F121_ok (z3349)) fun b3356 =>
      .auto 1 <|
      .testB (b3356)
       (fun h4 =>
       .auto 4 <|
       .tot O121 (F121_ok (z3350)) fun b3357 =>
       .auto 1 <|
       .testB (b3357)
        (fun h5 =>
        .auto 3 <|
        .tot O121 (F121_ok (z3351)) fun b3358 =>
        .auto 1 <|
        .ret (b3358)
        )
        (fun h5 =>
        .auto 3 <|
        .ret (false)
        )
       )
       (fun h4 =>
       .auto 8 <|
       .ret (false)
       )
      )
      (fun h3 =>
      .auto 13 <|
      .ret (false)
      )
     )
     (fun h2 =>
     .auto 18 <|
     .ret (false)
     )
    )
    (fun h1 =>
    .auto 23 <|
    .ret (false)
    )
   )
   (fun h0 =>
   .auto 27 <|
   .ret (false)
   )
@[reducible] def O60 (b3359 : Bool) : V × Store := (vb b3359, [])
noncomputable def F60 (z3338 : Int) (z3339 : Int) (z3340 : Int) (z3341 : Int) (z3342 : Int) (z3343 : Int) (z3344 : Int) (z3345 : Int) (z3346 : Int) (z3347 : Int) (z3348 : Int) (z3349 : Int) (z3350 : Int) (z3351 : Int) : Bool := (D60 z3338 z3339 z3340 z3341 z3342 z3343 z3344 z3345 z3346 z3347 z3348 z3349 z3350 z3351).evT
theorem F60_ok (z3338 : Int) (z3339 : Int) (z3340 : Int) (z3341 : Int) (z3342 : Int) (z3343 : Int) (z3344 : Int) (z3345 : Int) (z3346 : Int) (z3347 : Int) (z3348 : Int) (z3349 : Int) (z3350 : Int) (z3351 : Int) : UU 60 ([V.agg [i64 z3338, u8 z3339, u8 z3340, u8 z3341, u8 z3342, u8 z3343, u8 z3344, u8 z3345, u8 z3346, i64 z3347, i64 z3348, i64 z3349, i64 z3350, i64 z3351]]) ([]) = some (O60 (F60 z3338 z3339 z3340 z3341 z3342 z3343 z3344 z3345 z3346 z3347 z3348 z3349 z3350 z3351)) :=
  fnT_ok (out := O60) (L := notIn []) rfl rfl (fun x => by kernel_rfl) (by simp [D60, PT.isT])
/-! ## F61 -/
noncomputable abbrev B61 : Code := (Tryz.f61.body).getD .skip
inductive N61_0 where
  | s0 (l3367 : List (List V)) (z3368 : Int)
  | e0
  | e1 (l3369 : List (List V))
@[reducible] def N61_0.out : N61_0 → VX × S
  | .s0 l3367 z3368 => (VX.normal, { T := V.list 10 l3367 :: U :: U :: i64 z3368 :: un 44 [], σ := [] })
  | .e0 => (VX.ret, { T := U :: U :: vb false :: un 45 [], σ := [] })
  | .e1 l3369 => (VX.exit 0, { T := V.list 10 l3369 :: un 47 [], σ := [] })
def N61_0.ex (g : N61_0 → Prop) : Prop := (∃ (l3367 : List (List V)) (z3368 : Int), g (.s0 l3367 z3368)) ∨ g .e0 ∨ (∃ (l3369 : List (List V)), g (.e1 l3369))
theorem N61_0.ok (g : N61_0 → Prop) : N61_0.ex g ↔ ∃ b, g b := ⟨fun h => match h with
  | .inl ⟨_, _, h⟩ => ⟨_, h⟩
  | .inr (.inl h) => ⟨_, h⟩
  | .inr (.inr (⟨_, h⟩)) => ⟨_, h⟩, fun ⟨b, h⟩ => match b, h with
  | .s0 _ _, h => .inl ⟨_, _, h⟩
  | .e0, h => .inr (.inl h)
  | .e1 _, h => .inr (.inr (⟨_, h⟩))⟩
abbrev E61_0 : Ent (VX × S) := ⟨N61_0, N61_0.out, N61_0.ex, N61_0.ok⟩
noncomputable def D61_0 (l3367 : List (List V)) (z3368 : Int) : PT N61_0 :=
  .test (z3368 < (↑(List.length l3367) : Int))
   (fun h0 =>
   .test (0 ≤ z3368)
    (fun h1 =>
    .look RW108 (l3367[Int.toNat z3368]?) fun e3372 =>
    .known (decide_eq_true h1) <|
    .look RW108 (l3367[Int.toNat z3368]?) fun e3373 =>
    .known (decide_eq_true h1) <|
    .look RW108 (l3367[Int.toNat z3368]?) fun e3374 =>
    .tot O117 (F117_ok (e3372.c0) (e3373.c5) (e3374.c6) (e3374.c7) (e3374.c8) (e3374.c9)) fun b3375 =>
    .testB (!b3375)
     (fun h2 =>
     .auto 5 <|
     .ret (N61_0.e0)
     )
     (fun h2 =>
     .auto 2 <|
     .test (z3368 > 0)
      (fun h3 =>
      .auto 3 <|
      .test (0 ≤ w64 (z3368 - 1))
       (fun h4 =>
       .look RW108 (l3367[Int.toNat (w64 (z3368 - (1 : Int)))]?) fun e3376 =>
       .auto 5 <|
       .known (decide_eq_true h1) <|
       .look RW108 (l3367[Int.toNat z3368]?) fun e3377 =>
       .auto 6 <|
       .test (e3376.c0 ≥ e3377.c0)
        (fun h5 =>
        .ret (N61_0.e0)
        )
        (fun h5 =>
        .ret (N61_0.s0 (l3367) (w64 (z3368 + 1)))
        )
       )
       (fun _ => .fail) -- none
      )
      (fun h3 =>
      .auto 15 <|
      .ret (N61_0.s0 (l3367) (w64 (z3368 + 1)))
      )
     )
    )
    (fun _ => .fail) -- none
   )
   (fun h0 =>
   .ret (N61_0.e1 (l3367))
   )
noncomputable def S61_0 : N61_0 → PT N61_0
  | .s0 l3367 z3368 => D61_0 l3367 z3368
  | _ => .fail
def N61_0.off : N61_0 → Bool
  | .s0 _ _ => false
  | _ => true
noncomputable def L61_0 (n : Nat) (b : N61_0) : Option N61_0 := PT.loop (S61_0) N61_0.off n b
theorem L61_0_ok : ∀ (n : Nat) (b : N61_0), N61_0.off b = false → ∀ c, L61_0 n b = some c → loopP Tryz.prog X CC 61 (0) 18446744073709551616 B61 0 n (E61_0.out b).2 = some (E61_0.out c) :=
  loop_ok (E := E61_0) (step := S61_0) (L := notIn []) (fun b hb => by cases b <;> first | (cases hb; done) | (intro x; kernel_rfl)) (fun b => by cases b <;> rfl)
noncomputable def N61_0.nx (n : Nat) (c : N61_0) : Option N61_0 := match N61_0.off c with
  | true => some c
  | false => L61_0 n c
theorem L61_0_s0 (n : Nat) (l3367 : List (List V)) (z3368 : Int) : L61_0 (n + 1) (.s0 l3367 z3368) = (D61_0 l3367 z3368).ev (N61_0.nx n) := rfl
theorem N61_0.nx_s0 (n : Nat) (l3367 : List (List V)) (z3368 : Int) : N61_0.nx n (.s0 l3367 z3368) = L61_0 n (.s0 l3367 z3368) := rfl
theorem N61_0.nx_e0 (n : Nat) : N61_0.nx n (.e0) = some (.e0) := rfl
theorem N61_0.nx_e1 (n : Nat) (l3369 : List (List V)) : N61_0.nx n (.e1 l3369) = some (.e1 l3369) := rfl
noncomputable def D61 (l3361 : List (List V)) : PT A61 :=
  .cut E61_0 (L61_0_ok 18446744073709551616 (.s0 (l3361) (0)) rfl) fun (r : N61_0) => match r with
  | .e0 =>
   .ret (A61.a0 (false))
  | .e1 l3378 =>
   .ret (A61.a0 (decide ((↑(List.length l3378) : Int) ≤ 32)))
  | _ => .fail
noncomputable def F61 (l3361 : List (List V)) : Option A61 := (D61 l3361).ev some
theorem F61_ok (l3361 : List (List V)) : ∀ b, F61 l3361 = some b → UU 61 ([V.list 10 l3361]) ([]) = some (A61.out b) :=
  fn_ok (E := E61) (L := notIn []) rfl rfl (fun x => by kernel_rfl)
/-! ## F62 -/
noncomputable abbrev B62 : Code := (Tryz.f62.body).getD .skip
inductive N62_0 where
  | s0 (l3387 : List (List V)) (z3388 : Int)
  | e0
  | e1 (l3389 : List (List V))
@[reducible] def N62_0.out : N62_0 → VX × S
  | .s0 l3387 z3388 => (VX.normal, { T := V.list 1 l3387 :: U :: U :: i64 z3388 :: un 21 [], σ := [] })
  | .e0 => (VX.ret, { T := U :: U :: vb false :: un 22 [], σ := [] })
  | .e1 l3389 => (VX.exit 0, { T := V.list 1 l3389 :: un 24 [], σ := [] })
def N62_0.ex (g : N62_0 → Prop) : Prop := (∃ (l3387 : List (List V)) (z3388 : Int), g (.s0 l3387 z3388)) ∨ g .e0 ∨ (∃ (l3389 : List (List V)), g (.e1 l3389))
theorem N62_0.ok (g : N62_0 → Prop) : N62_0.ex g ↔ ∃ b, g b := ⟨fun h => match h with
  | .inl ⟨_, _, h⟩ => ⟨_, h⟩
  | .inr (.inl h) => ⟨_, h⟩
  | .inr (.inr (⟨_, h⟩)) => ⟨_, h⟩, fun ⟨b, h⟩ => match b, h with
  | .s0 _ _, h => .inl ⟨_, _, h⟩
  | .e0, h => .inr (.inl h)
  | .e1 _, h => .inr (.inr (⟨_, h⟩))⟩
abbrev E62_0 : Ent (VX × S) := ⟨N62_0, N62_0.out, N62_0.ex, N62_0.ok⟩
noncomputable def D62_0 (l3387 : List (List V)) (z3388 : Int) : PT N62_0 :=
  .test (z3388 < (↑(List.length l3387) : Int))
   (fun h0 =>
   .test (0 ≤ z3388)
    (fun h1 =>
    .look RW2 (l3387[Int.toNat z3388]?) fun e3392 =>
    .test (e3392.c0 < 65536)
     (fun h2 =>
     .auto 6 <|
     .ret (N62_0.e0)
     )
     (fun h2 =>
     .auto 2 <|
     .known (decide_eq_true h1) <|
     .look RW2 (l3387[Int.toNat z3388]?) fun e3393 =>
     .auto 3 <|
     .test (e3393.c0 > 67108864)
      (fun h3 =>
      .ret (N62_0.e0)
      )
      (fun h3 =>
      .ret (N62_0.s0 (l3387) (w64 (z3388 + 1)))
      )
     )
    )
    (fun _ => .fail) -- none
   )
   (fun h0 =>
   .ret (N62_0.e1 (l3387))
   )
noncomputable def S62_0 : N62_0 → PT N62_0
  | .s0 l3387 z3388 => D62_0 l3387 z3388
  | _ => .fail
def N62_0.off : N62_0 → Bool
  | .s0 _ _ => false
  | _ => true
noncomputable def L62_0 (n : Nat) (b : N62_0) : Option N62_0 := PT.loop (S62_0) N62_0.off n b
theorem L62_0_ok : ∀ (n : Nat) (b : N62_0), N62_0.off b = false → ∀ c, L62_0 n b = some c → loopP Tryz.prog X CC 62 (0) 18446744073709551616 B62 0 n (E62_0.out b).2 = some (E62_0.out c) :=
  loop_ok (E := E62_0) (step := S62_0) (L := notIn []) (fun b hb => by cases b <;> first | (cases hb; done) | (intro x; kernel_rfl)) (fun b => by cases b <;> rfl)
noncomputable def N62_0.nx (n : Nat) (c : N62_0) : Option N62_0 := match N62_0.off c with
  | true => some c
  | false => L62_0 n c
theorem L62_0_s0 (n : Nat) (l3387 : List (List V)) (z3388 : Int) : L62_0 (n + 1) (.s0 l3387 z3388) = (D62_0 l3387 z3388).ev (N62_0.nx n) := rfl
theorem N62_0.nx_s0 (n : Nat) (l3387 : List (List V)) (z3388 : Int) : N62_0.nx n (.s0 l3387 z3388) = L62_0 n (.s0 l3387 z3388) := rfl
theorem N62_0.nx_e0 (n : Nat) : N62_0.nx n (.e0) = some (.e0) := rfl
theorem N62_0.nx_e1 (n : Nat) (l3389 : List (List V)) : N62_0.nx n (.e1 l3389) = some (.e1 l3389) := rfl
noncomputable def D62 (l3383 : List (List V)) : PT A62 :=
  .cut E62_0 (L62_0_ok 18446744073709551616 (.s0 (l3383) (0)) rfl) fun (r : N62_0) => match r with
  | .e0 =>
   .ret (A62.a0 (false))
  | .e1 l3394 =>
   .ret (A62.a0 (decide ((↑(List.length l3394) : Int) ≤ 8)))
  | _ => .fail
noncomputable def F62 (l3383 : List (List V)) : Option A62 := (D62 l3383).ev some
theorem F62_ok (l3383 : List (List V)) : ∀ b, F62 l3383 = some b → UU 62 ([V.list 1 l3383]) ([]) = some (A62.out b) :=
  fn_ok (E := E62) (L := notIn []) rfl rfl (fun x => by kernel_rfl)
/-! ## F16 -/
noncomputable abbrev B16 : Code := (Tryz.f16.body).getD .skip
inductive N16_r3 where
  | e0 (b3272 : Bool) (z3273 : Int) (z3274 : Int) (l3275 : List (List V)) (l3276 : List (List V)) (l3277 : List (List V)) (b3278 : Bool) (z3279 : Int) (z3280 : Int) (z3281 : Int) (z3282 : Int) (z3283 : Int) (z3284 : Int) (z3285 : Int) (z3286 : Int) (z3287 : Int) (z3288 : Int) (z3289 : Int) (z3290 : Int) (z3291 : Int) (z3292 : Int) (z3293 : Int) (l3294 : List (List V)) (b3295 : Bool) (l3296 : List (List V)) (z3297 : Int) (z3298 : Int) (z3299 : Int) (z3300 : Int) (z3301 : Int) (l3302 : List (List V)) (l3303 : List (List V)) (l3304 : List (List V))
@[reducible] def N16_r3.out : N16_r3 → VX × S
  | .e0 b3272 z3273 z3274 l3275 l3276 l3277 b3278 z3279 z3280 z3281 z3282 z3283 z3284 z3285 z3286 z3287 z3288 z3289 z3290 z3291 z3292 z3293 l3294 b3295 l3296 z3297 z3298 z3299 z3300 z3301 l3302 l3303 l3304 => (VX.normal, { T := U :: V.ptr 0 0 0 :: un 75 (vb b3272 :: un 48 []), σ := [Ob.cells true false 32 [[i64 z3273, i64 z3274, V.list 7 l3275, V.list 7 l3276, V.list 8 l3277, vb b3278, i64 z3279, i64 z3280, u8 z3281, u8 z3282, u8 z3283, u8 z3284, u8 z3285, u8 z3286, u8 z3287, u8 z3288, i64 z3289, i64 z3290, i64 z3291, i64 z3292, i64 z3293, V.list 10 l3294, vb b3295, V.list 7 l3296, u8 z3297, u8 z3298, u8 z3299, u8 z3300, i64 z3301, V.list 1 l3302, V.list 7 l3303, V.list 7 l3304]]] })
def N16_r3.ex (g : N16_r3 → Prop) : Prop := (∃ (b3272 : Bool) (z3273 : Int) (z3274 : Int) (l3275 : List (List V)) (l3276 : List (List V)) (l3277 : List (List V)) (b3278 : Bool) (z3279 : Int) (z3280 : Int) (z3281 : Int) (z3282 : Int) (z3283 : Int) (z3284 : Int) (z3285 : Int) (z3286 : Int) (z3287 : Int) (z3288 : Int) (z3289 : Int) (z3290 : Int) (z3291 : Int) (z3292 : Int) (z3293 : Int) (l3294 : List (List V)) (b3295 : Bool) (l3296 : List (List V)) (z3297 : Int) (z3298 : Int) (z3299 : Int) (z3300 : Int) (z3301 : Int) (l3302 : List (List V)) (l3303 : List (List V)) (l3304 : List (List V)), g (.e0 b3272 z3273 z3274 l3275 l3276 l3277 b3278 z3279 z3280 z3281 z3282 z3283 z3284 z3285 z3286 z3287 z3288 z3289 z3290 z3291 z3292 z3293 l3294 b3295 l3296 z3297 z3298 z3299 z3300 z3301 l3302 l3303 l3304))
theorem N16_r3.ok (g : N16_r3 → Prop) : N16_r3.ex g ↔ ∃ b, g b := ⟨fun h => match h with
  | ⟨_, _, _, _, _, _, _, _, _, _, _, _, _, _, _, _, _, _, _, _, _, _, _, _, _, _, _, _, _, _, _, _, _, h⟩ => ⟨_, h⟩, fun ⟨b, h⟩ => match b, h with
  | .e0 _ _ _ _ _ _ _ _ _ _ _ _ _ _ _ _ _ _ _ _ _ _ _ _ _ _ _ _ _ _ _ _ _, h => ⟨_, _, _, _, _, _, _, _, _, _, _, _, _, _, _, _, _, _, _, _, _, _, _, _, _, _, _, _, _, _, _, _, _, h⟩⟩
abbrev E16_r3 : Ent (VX × S) := ⟨N16_r3, N16_r3.out, N16_r3.ex, N16_r3.ok⟩
noncomputable def D16_r3 (z3100 : Int) (z3101 : Int) (l3102 : List (List V)) (l3103 : List (List V)) (l3104 : List (List V)) (b3105 : Bool) (z3106 : Int) (z3107 : Int) (z3108 : Int) (z3109 : Int) (z3110 : Int) (z3111 : Int) (z3112 : Int) (z3113 : Int) (z3114 : Int) (z3115 : Int) (z3116 : Int) (z3117 : Int) (z3118 : Int) (z3119 : Int) (z3120 : Int) (l3121 : List (List V)) (b3122 : Bool) (l3123 : List (List V)) (z3124 : Int) (z3125 : Int) (z3126 : Int) (z3127 : Int) (z3128 : Int) (l3129 : List (List V)) (l3130 : List (List V)) (l3131 : List (List V)) : PT N16_r3 :=
  .auto 1 <|
  .ask E58 (F58_ok (l3102)) fun (r : A58) => match r with
  | .a0 b3437 =>
   .testB (!b3437)
    (fun h0 =>
    .auto 21 <|
    .ret (N16_r3.e0 (true) (z3100) (z3101) (l3102) (l3103) (l3104) (b3105) (z3106) (z3107) (z3108) (z3109) (z3110) (z3111) (z3112) (z3113) (z3114) (z3115) (z3116) (z3117) (z3118) (z3119) (z3120) (l3121) (b3122) (l3123) (z3124) (z3125) (z3126) (z3127) (z3128) (l3129) (l3130) (l3131))
    )
    (fun h0 =>
    .auto 3 <|
    .ask E58 (F58_ok (l3103)) fun (r : A58) => match r with
    | .a0 b3438 =>
     .auto 2 <|
     .testB (!b3438)
      (fun h1 =>
      .auto 16 <|
      .ret (N16_r3.e0 (true) (z3100) (z3101) (l3102) (l3103) (l3104) (b3105) (z3106) (z3107) (z3108) (z3109) (z3110) (z3111) (z3112) (z3113) (z3114) (z3115) (z3116) (z3117) (z3118) (z3119) (z3120) (l3121) (b3122) (l3123) (z3124) (z3125) (z3126) (z3127) (z3128) (l3129) (l3130) (l3131))
      )
      (fun h1 =>
      .auto 3 <|
      .ask E59 (F59_ok (l3104)) fun (r : A59) => match r with
      | .a0 b3439 =>
       .auto 2 <|
       .testB (!b3439)
        (fun h2 =>
        .auto 11 <|
        .ret (N16_r3.e0 (true) (z3100) (z3101) (l3102) (l3103) (l3104) (b3105) (z3106) (z3107) (z3108) (z3109) (z3110) (z3111) (z3112) (z3113) (z3114) (z3115) (z3116) (z3117) (z3118) (z3119) (z3120) (l3121) (b3122) (l3123) (z3124) (z3125) (z3126) (z3127) (z3128) (l3129) (l3130) (l3131))
        )
        (fun h2 =>
        .auto 4 <|
        .testB (z3100 == 3)
         (fun h3 =>
         .auto 12 <|
         .test (w64 ((↑(List.length l3102) : Int) + (↑(List.length l3103) : Int)) > 0)
          (fun h4 =>
          .auto 5 <|
          .ret (N16_r3.e0 (true) (z3100) (z3101) (l3102) (l3103) (l3104) (b3105) (z3106) (z3107) (z3108) (z3109) (z3110) (z3111) (z3112) (z3113) (z3114) (z3115) (z3116) (z3117) (z3118) (z3119) (z3120) (l3121) (b3122) (l3123) (z3124) (z3125) (z3126) (z3127) (z3128) (l3129) (l3130) (l3131))
          )
          (fun h4 =>
          .auto 4 <|
          .testB (z3100 != 3)
           (fun h5 =>
           .auto 7 <|
           .ret (N16_r3.e0 (decide ((↑(List.length l3104) : Int) > 0)) (z3100) (z3101) (l3102) (l3103) (l3104) (b3105) (z3106) (z3107) (z3108) (z3109) (z3110) (z3111) (z3112) (z3113) (z3114) (z3115) (z3116) (z3117) (z3118) (z3119) (z3120) (l3121) (b3122) (l3123) (z3124) (z3125) (z3126) (z3127) (z3128) (l3129) (l3130) (l3131))
           )
           (fun h5 =>
           .auto 6 <|
           .ret (N16_r3.e0 (false) (z3100) (z3101) (l3102) (l3103) (l3104) (b3105) (z3106) (z3107) (z3108) (z3109) (z3110) (z3111) (z3112) (z3113) (z3114) (z3115) (z3116) (z3117) (z3118) (z3119) (z3120) (l3121) (b3122) (l3123) (z3124) (z3125) (z3126) (z3127) (z3128) (l3129) (l3130) (l3131))
           )
          )
         )
         (fun h3 =>
         .auto 15 <|
         .testB (z3100 != 3)
          (fun h4 =>
          .auto 7 <|
          .ret (N16_r3.e0 (decide ((↑(List.length l3104) : Int) > 0)) (z3100) (z3101) (l3102) (l3103) (l3104) (b3105) (z3106) (z3107) (z3108) (z3109) (z3110) (z3111) (z3112) (z3113) (z3114) (z3115) (z3116) (z3117) (z3118) (z3119) (z3120) (l3121) (b3122) (l3123) (z3124) (z3125) (z3126) (z3127) (z3128) (l3129) (l3130) (l3131))
          )
          (fun h4 =>
          .auto 6 <|
          .ret (N16_r3.e0 (false) (z3100) (z3101) (l3102) (l3103) (l3104) (b3105) (z3106) (z3107) (z3108) (z3109) (z3110) (z3111) (z3112) (z3113) (z3114) (z3115) (z3116) (z3117) (z3118) (z3119) (z3120) (l3121) (b3122) (l3123) (z3124) (z3125) (z3126) (z3127) (z3128) (l3129) (l3130) (l3131))
          )
         )
        )
      )
    )
noncomputable def J16_r3 (z3100 : Int) (z3101 : Int) (l3102 : List (List V)) (l3103 : List (List V)) (l3104 : List (List V)) (b3105 : Bool) (z3106 : Int) (z3107 : Int) (z3108 : Int) (z3109 : Int) (z3110 : Int) (z3111 : Int) (z3112 : Int) (z3113 : Int) (z3114 : Int) (z3115 : Int) (z3116 : Int) (z3117 : Int) (z3118 : Int) (z3119 : Int) (z3120 : Int) (l3121 : List (List V)) (b3122 : Bool) (l3123 : List (List V)) (z3124 : Int) (z3125 : Int) (z3126 : Int) (z3127 : Int) (z3128 : Int) (l3129 : List (List V)) (l3130 : List (List V)) (l3131 : List (List V)) : Option N16_r3 := (D16_r3 z3100 z3101 l3102 l3103 l3104 b3105 z3106 z3107 z3108 z3109 z3110 z3111 z3112 z3113 z3114 z3115 z3116 z3117 z3118 z3119 z3120 l3121 b3122 l3123 z3124 z3125 z3126 z3127 z3128 l3129 l3130 l3131).ev some
theorem J16_r3_ok (z3100 : Int) (z3101 : Int) (l3102 : List (List V)) (l3103 : List (List V)) (l3104 : List (List V)) (b3105 : Bool) (z3106 : Int) (z3107 : Int) (z3108 : Int) (z3109 : Int) (z3110 : Int) (z3111 : Int) (z3112 : Int) (z3113 : Int) (z3114 : Int) (z3115 : Int) (z3116 : Int) (z3117 : Int) (z3118 : Int) (z3119 : Int) (z3120 : Int) (l3121 : List (List V)) (b3122 : Bool) (l3123 : List (List V)) (z3124 : Int) (z3125 : Int) (z3126 : Int) (z3127 : Int) (z3128 : Int) (l3129 : List (List V)) (l3130 : List (List V)) (l3131 : List (List V)) : ∀ b, J16_r3 z3100 z3101 l3102 l3103 l3104 b3105 z3106 z3107 z3108 z3109 z3110 z3111 z3112 z3113 z3114 z3115 z3116 z3117 z3118 z3119 z3120 l3121 b3122 l3123 z3124 z3125 z3126 z3127 z3128 l3129 l3130 l3131 = some b → regP Tryz.prog X CC 16 (0) B16 3 ({ T := U :: V.ptr 0 0 0 :: un 124 [], σ := [Ob.cells true false 32 [[i64 z3100, i64 z3101, V.list 7 l3102, V.list 7 l3103, V.list 8 l3104, vb b3105, i64 z3106, i64 z3107, u8 z3108, u8 z3109, u8 z3110, u8 z3111, u8 z3112, u8 z3113, u8 z3114, u8 z3115, i64 z3116, i64 z3117, i64 z3118, i64 z3119, i64 z3120, V.list 10 l3121, vb b3122, V.list 7 l3123, u8 z3124, u8 z3125, u8 z3126, u8 z3127, i64 z3128, V.list 1 l3129, V.list 7 l3130, V.list 7 l3131]]] }) = some (E16_r3.out b) :=
  reg_ok (E := E16_r3) (fun x => by kernel_rfl)
inductive N16_r1 where
  | e0 (b3033 : Bool) (z3034 : Int) (z3035 : Int) (l3036 : List (List V)) (l3037 : List (List V)) (l3038 : List (List V)) (b3039 : Bool) (z3040 : Int) (z3041 : Int) (z3042 : Int) (z3043 : Int) (z3044 : Int) (z3045 : Int) (z3046 : Int) (z3047 : Int) (z3048 : Int) (z3049 : Int) (z3050 : Int) (z3051 : Int) (z3052 : Int) (z3053 : Int) (z3054 : Int) (l3055 : List (List V)) (b3056 : Bool) (l3057 : List (List V)) (z3058 : Int) (z3059 : Int) (z3060 : Int) (z3061 : Int) (z3062 : Int) (l3063 : List (List V)) (l3064 : List (List V)) (l3065 : List (List V))
@[reducible] def N16_r1.out : N16_r1 → VX × S
  | .e0 b3033 z3034 z3035 l3036 l3037 l3038 b3039 z3040 z3041 z3042 z3043 z3044 z3045 z3046 z3047 z3048 z3049 z3050 z3051 z3052 z3053 z3054 l3055 b3056 l3057 z3058 z3059 z3060 z3061 z3062 l3063 l3064 l3065 => (VX.normal, { T := U :: V.ptr 0 0 0 :: un 33 (vb b3033 :: un 90 []), σ := [Ob.cells true false 32 [[i64 z3034, i64 z3035, V.list 7 l3036, V.list 7 l3037, V.list 8 l3038, vb b3039, i64 z3040, i64 z3041, u8 z3042, u8 z3043, u8 z3044, u8 z3045, u8 z3046, u8 z3047, u8 z3048, u8 z3049, i64 z3050, i64 z3051, i64 z3052, i64 z3053, i64 z3054, V.list 10 l3055, vb b3056, V.list 7 l3057, u8 z3058, u8 z3059, u8 z3060, u8 z3061, i64 z3062, V.list 1 l3063, V.list 7 l3064, V.list 7 l3065]]] })
def N16_r1.ex (g : N16_r1 → Prop) : Prop := (∃ (b3033 : Bool) (z3034 : Int) (z3035 : Int) (l3036 : List (List V)) (l3037 : List (List V)) (l3038 : List (List V)) (b3039 : Bool) (z3040 : Int) (z3041 : Int) (z3042 : Int) (z3043 : Int) (z3044 : Int) (z3045 : Int) (z3046 : Int) (z3047 : Int) (z3048 : Int) (z3049 : Int) (z3050 : Int) (z3051 : Int) (z3052 : Int) (z3053 : Int) (z3054 : Int) (l3055 : List (List V)) (b3056 : Bool) (l3057 : List (List V)) (z3058 : Int) (z3059 : Int) (z3060 : Int) (z3061 : Int) (z3062 : Int) (l3063 : List (List V)) (l3064 : List (List V)) (l3065 : List (List V)), g (.e0 b3033 z3034 z3035 l3036 l3037 l3038 b3039 z3040 z3041 z3042 z3043 z3044 z3045 z3046 z3047 z3048 z3049 z3050 z3051 z3052 z3053 z3054 l3055 b3056 l3057 z3058 z3059 z3060 z3061 z3062 l3063 l3064 l3065))
theorem N16_r1.ok (g : N16_r1 → Prop) : N16_r1.ex g ↔ ∃ b, g b := ⟨fun h => match h with
  | ⟨_, _, _, _, _, _, _, _, _, _, _, _, _, _, _, _, _, _, _, _, _, _, _, _, _, _, _, _, _, _, _, _, _, h⟩ => ⟨_, h⟩, fun ⟨b, h⟩ => match b, h with
  | .e0 _ _ _ _ _ _ _ _ _ _ _ _ _ _ _ _ _ _ _ _ _ _ _ _ _ _ _ _ _ _ _ _ _, h => ⟨_, _, _, _, _, _, _, _, _, _, _, _, _, _, _, _, _, _, _, _, _, _, _, _, _, _, _, _, _, _, _, _, _, h⟩⟩
abbrev E16_r1 : Ent (VX × S) := ⟨N16_r1, N16_r1.out, N16_r1.ex, N16_r1.ok⟩
noncomputable def D16_r1 (z2969 : Int) (z2970 : Int) (l2971 : List (List V)) (l2972 : List (List V)) (l2973 : List (List V)) (b2974 : Bool) (z2975 : Int) (z2976 : Int) (z2977 : Int) (z2978 : Int) (z2979 : Int) (z2980 : Int) (z2981 : Int) (z2982 : Int) (z2983 : Int) (z2984 : Int) (z2985 : Int) (z2986 : Int) (z2987 : Int) (z2988 : Int) (z2989 : Int) (l2990 : List (List V)) (b2991 : Bool) (l2992 : List (List V)) (z2993 : Int) (z2994 : Int) (z2995 : Int) (z2996 : Int) (z2997 : Int) (l2998 : List (List V)) (l2999 : List (List V)) (l3000 : List (List V)) : PT N16_r1 :=
  .auto 1 <|
  .test (z2969 < 0)
   (fun h0 =>
   .auto 15 <|
   .ret (N16_r1.e0 (true) (z2969) (z2970) (l2971) (l2972) (l2973) (b2974) (z2975) (z2976) (z2977) (z2978) (z2979) (z2980) (z2981) (z2982) (z2983) (z2984) (z2985) (z2986) (z2987) (z2988) (z2989) (l2990) (b2991) (l2992) (z2993) (z2994) (z2995) (z2996) (z2997) (l2998) (l2999) (l3000))
   )
   (fun h0 =>
   .auto 4 <|
   .test (z2969 > 3)
    (fun h1 =>
    .auto 11 <|
    .ret (N16_r1.e0 (true) (z2969) (z2970) (l2971) (l2972) (l2973) (b2974) (z2975) (z2976) (z2977) (z2978) (z2979) (z2980) (z2981) (z2982) (z2983) (z2984) (z2985) (z2986) (z2987) (z2988) (z2989) (l2990) (b2991) (l2992) (z2993) (z2994) (z2995) (z2996) (z2997) (l2998) (l2999) (l3000))
    )
    (fun h1 =>
    .auto 4 <|
    .testB (z2969 == 2)
     (fun h2 =>
     .auto 4 <|
     .test (z2970 < 2)
      (fun h3 =>
      .auto 13 <|
      .ret (N16_r1.e0 (true) (z2969) (z2970) (l2971) (l2972) (l2973) (b2974) (z2975) (z2976) (z2977) (z2978) (z2979) (z2980) (z2981) (z2982) (z2983) (z2984) (z2985) (z2986) (z2987) (z2988) (z2989) (l2990) (b2991) (l2992) (z2993) (z2994) (z2995) (z2996) (z2997) (l2998) (l2999) (l3000))
      )
      (fun h3 =>
      .auto 8 <|
      .test (z2970 > 16)
       (fun h4 =>
       .auto 5 <|
       .ret (N16_r1.e0 (true) (z2969) (z2970) (l2971) (l2972) (l2973) (b2974) (z2975) (z2976) (z2977) (z2978) (z2979) (z2980) (z2981) (z2982) (z2983) (z2984) (z2985) (z2986) (z2987) (z2988) (z2989) (l2990) (b2991) (l2992) (z2993) (z2994) (z2995) (z2996) (z2997) (l2998) (l2999) (l3000))
       )
       (fun h4 =>
       .auto 4 <|
       .testB (z2969 != 2)
        (fun h5 =>
        .auto 6 <|
        .ret (N16_r1.e0 (z2970 != 0) (z2969) (z2970) (l2971) (l2972) (l2973) (b2974) (z2975) (z2976) (z2977) (z2978) (z2979) (z2980) (z2981) (z2982) (z2983) (z2984) (z2985) (z2986) (z2987) (z2988) (z2989) (l2990) (b2991) (l2992) (z2993) (z2994) (z2995) (z2996) (z2997) (l2998) (l2999) (l3000))
        )
        (fun h5 =>
        .auto 5 <|
        .ret (N16_r1.e0 (false) (z2969) (z2970) (l2971) (l2972) (l2973) (b2974) (z2975) (z2976) (z2977) (z2978) (z2979) (z2980) (z2981) (z2982) (z2983) (z2984) (z2985) (z2986) (z2987) (z2988) (z2989) (l2990) (b2991) (l2992) (z2993) (z2994) (z2995) (z2996) (z2997) (l2998) (l2999) (l3000))
        )
       )
      )
     )
     (fun h2 =>
     .auto 12 <|
     .testB (z2969 != 2)
      (fun h3 =>
      .auto 6 <|
      .ret (N16_r1.e0 (z2970 != 0) (z2969) (z2970) (l2971) (l2972) (l2973) (b2974) (z2975) (z2976) (z2977) (z2978) (z2979) (z2980) (z2981) (z2982) (z2983) (z2984) (z2985) (z2986) (z2987) (z2988) (z2989) (l2990) (b2991) (l2992) (z2993) (z2994) (z2995) (z2996) (z2997) (l2998) (l2999) (l3000))
      )
      (fun h3 =>
      .auto 5 <|
      .ret (N16_r1.e0 (false) (z2969) (z2970) (l2971) (l2972) (l2973) (b2974) (z2975) (z2976) (z2977) (z2978) (z2979) (z2980) (z2981) (z2982) (z2983) (z2984) (z2985) (z2986) (z2987) (z2988) (z2989) (l2990) (b2991) (l2992) (z2993) (z2994) (z2995) (z2996) (z2997) (l2998) (l2999) (l3000))
      )
     )
    )
   )
noncomputable def J16_r1 (z2969 : Int) (z2970 : Int) (l2971 : List (List V)) (l2972 : List (List V)) (l2973 : List (List V)) (b2974 : Bool) (z2975 : Int) (z2976 : Int) (z2977 : Int) (z2978 : Int) (z2979 : Int) (z2980 : Int) (z2981 : Int) (z2982 : Int) (z2983 : Int) (z2984 : Int) (z2985 : Int) (z2986 : Int) (z2987 : Int) (z2988 : Int) (z2989 : Int) (l2990 : List (List V)) (b2991 : Bool) (l2992 : List (List V)) (z2993 : Int) (z2994 : Int) (z2995 : Int) (z2996 : Int) (z2997 : Int) (l2998 : List (List V)) (l2999 : List (List V)) (l3000 : List (List V)) : Option N16_r1 := (D16_r1 z2969 z2970 l2971 l2972 l2973 b2974 z2975 z2976 z2977 z2978 z2979 z2980 z2981 z2982 z2983 z2984 z2985 z2986 z2987 z2988 z2989 l2990 b2991 l2992 z2993 z2994 z2995 z2996 z2997 l2998 l2999 l3000).ev some
theorem J16_r1_ok (z2969 : Int) (z2970 : Int) (l2971 : List (List V)) (l2972 : List (List V)) (l2973 : List (List V)) (b2974 : Bool) (z2975 : Int) (z2976 : Int) (z2977 : Int) (z2978 : Int) (z2979 : Int) (z2980 : Int) (z2981 : Int) (z2982 : Int) (z2983 : Int) (z2984 : Int) (z2985 : Int) (z2986 : Int) (z2987 : Int) (z2988 : Int) (z2989 : Int) (l2990 : List (List V)) (b2991 : Bool) (l2992 : List (List V)) (z2993 : Int) (z2994 : Int) (z2995 : Int) (z2996 : Int) (z2997 : Int) (l2998 : List (List V)) (l2999 : List (List V)) (l3000 : List (List V)) : ∀ b, J16_r1 z2969 z2970 l2971 l2972 l2973 b2974 z2975 z2976 z2977 z2978 z2979 z2980 z2981 z2982 z2983 z2984 z2985 z2986 z2987 z2988 z2989 l2990 b2991 l2992 z2993 z2994 z2995 z2996 z2997 l2998 l2999 l3000 = some b → regP Tryz.prog X CC 16 (0) B16 1 ({ T := U :: V.ptr 0 0 0 :: un 124 [], σ := [Ob.cells true false 32 [[i64 z2969, i64 z2970, V.list 7 l2971, V.list 7 l2972, V.list 8 l2973, vb b2974, i64 z2975, i64 z2976, u8 z2977, u8 z2978, u8 z2979, u8 z2980, u8 z2981, u8 z2982, u8 z2983, u8 z2984, i64 z2985, i64 z2986, i64 z2987, i64 z2988, i64 z2989, V.list 10 l2990, vb b2991, V.list 7 l2992, u8 z2993, u8 z2994, u8 z2995, u8 z2996, i64 z2997, V.list 1 l2998, V.list 7 l2999, V.list 7 l3000]]] }) = some (E16_r1.out b) :=
  reg_ok (E := E16_r1) (fun x => by kernel_rfl)
noncomputable def D16 (z2937 : Int) (z2938 : Int) (l2939 : List (List V)) (l2940 : List (List V)) (l2941 : List (List V)) (b2942 : Bool) (z2943 : Int) (z2944 : Int) (z2945 : Int) (z2946 : Int) (z2947 : Int) (z2948 : Int) (z2949 : Int) (z2950 : Int) (z2951 : Int) (z2952 : Int) (z2953 : Int) (z2954 : Int) (z2955 : Int) (z2956 : Int) (z2957 : Int) (l2958 : List (List V)) (b2959 : Bool) (l2960 : List (List V)) (z2961 : Int) (z2962 : Int) (z2963 : Int) (z2964 : Int) (z2965 : Int) (l2966 : List (List V)) (l2967 : List (List V)) (l2968 : List (List V)) : PT A16 :=
  .cut E16_r1 (J16_r1_ok (z2937) (z2938) (l2939) (l2940) (l2941) (b2942) (z2943) (z2944) (z2945) (z2946) (z2947) (z2948) (z2949) (z2950) (z2951) (z2952) (z2953) (z2954) (z2955) (z2956) (z2957) (l2958) (b2959) (l2960) (z2961) (z2962) (z2963) (z2964) (z2965) (l2966) (l2967) (l2968)) fun (r : N16_r1) => match r with
  | .e0 b3404 z3405 z3406 l3407 l3408 l3409 b3410 z3411 z3412 z3413 z3414 z3415 z3416 z3417 z3418 z3419 z3420 z3421 z3422 z3423 z3424 z3425 l3426 b3427 l3428 z3429 z3430 z3431 z3432 z3433 l3434 l3435 l3436 =>
   .testB (b3404)
    (fun h0 =>
    .ret (A16.a0 (false))
    )
    (fun h0 =>
    .cut E16_r3 (J16_r3_ok (z3405) (z3406) (l3407) (l3408) (l3409) (b3410) (z3411) (z3412) (z3413) (z3414) (z3415) (z3416) (z3417) (z3418) (z3419) (z3420) (z3421) (z3422) (z3423) (z3424) (z3425) (l3426) (b3427) (l3428) (z3429) (z3430) (z3431) (z3432) (z3433) (l3434) (l3435) (l3436)) fun (r : N16_r3) => match r with
    | .e0 b3440 z3441 z3442 l3443 l3444 l3445 b3446 z3447 z3448 z3449 z3450 z3451 z3452 z3453 z3454 z3455 z3456 z3457 z3458 z3459 z3460 z3461 l3462 b3463 l3464 z3465 z3466 z3467 z3468 z3469 l3470 l3471 l3472 =>
     .testB (b3440)
      (fun h1 =>
      .ret (A16.a0 (false))
      )
      (fun h1 =>
      .auto 1 <|
      .testB (z3447 == 0)
       (fun h2 =>
       .auto 7 <|
       .tot O60 (F60_ok (z3448) (z3449) (z3450) (z3451) (z3452) (z3453) (z3454) (z3455) (z3456) (z3457) (z3458) (z3459) (z3460) (z3461)) fun b3473 =>
       .auto 1 <|
       .testB (b3473)
        (fun h3 =>
        .auto 3 <|
        .ask E61 (F61_ok (l3462)) fun (r : A61) => match r with
        | .a0 b3474 =>
         .auto 1 <|
         .testB (b3474)
          (fun h4 =>
          .auto 3 <|
          .ask E58 (F58_ok (l3464)) fun (r : A58) => match r with
          | .a0 b3475 =>
           .auto 1 <|
           .testB (b3475)
            (fun h5 =>
            .auto 3 <|
            .ask E58 (F58_ok (l3471)) fun (r : A58) => match r with
            | .a0 b3476 =>
             .auto 1 <|
             .testB (b3476)
              (fun h6 =>
              .auto 3 <|
              .ask E58 (F58_ok (l3472)) fun (r : A58) => match r with
              | .a0 b3477 =>
               .auto 1 <|
               .testB (b3477)
                (fun h7 =>
                .auto 4 <|
                .testB (z3469 == 0)
                 (fun h8 =>
                 .auto 9 <|
                 .ask E62 (F62_ok (l3470)) fun (r : A62) => match r with
                 | .a0 b3478 =>
                  .auto 1 <|
                  .ret (A16.a0 (b3478))
                 )
                 (fun h8 =>
                 .auto 6 <|
                 .testB (z3469 == 1)
                  (fun h9 =>
                  .auto 3 <|
                  .ask E62 (F62_ok (l3470)) fun (r : A62) => match r with
                  | .a0 b3479 =>
                   .auto 1 <|
                   .ret (A16.a0 (b3479))
                  )
                  (fun h9 =>
                  .auto 3 <|
                  .ret (A16.a0 (false))
                  )
                 )
                )
                (fun h7 =>
                .auto 9 <|
                .ret (A16.a0 (false))
                )
              )
              (fun h6 =>
              .auto 13 <|
              .ret (A16.a0 (false))
              )
            )
            (fun h5 =>
            .auto 17 <|
            .ret (A16.a0 (false))
            )
          )
          (fun h4 =>
          .auto 21 <|
          .ret (A16.a0 (false))
          )
        )
        (fun h3 =>
        .auto 25 <|
        .ret (A16.a0 (false))
        )
       )
       (fun h2 =>
       .auto 4 <|
       .testB (z3447 == 1)
        (fun h3 =>
        .auto 3 <|
        .tot O60 (F60_ok (z3448) (z3449) (z3450) (z3451) (z3452) (z3453) (z3454) (z3455) (z3456) (z3457) (z3458) (z3459) (z3460) (z3461)) fun b3480 =>
        .auto 1 <|
        .testB (b3480)
         (fun h4 =>
         .auto 3 <|
         .ask E61 (F61_ok (l3462)) fun (r : A61) => match r with
         | .a0 b3481 =>
          .auto 1 <|
          .testB (b3481)
           (fun h5 =>
           .auto 3 <|
           .ask E58 (F58_ok (l3464)) fun (r : A58) => match r with
           | .a0 b3482 =>
            .auto 1 <|
            .testB (b3482)
             (fun h6 =>
             .auto 3 <|
             .ask E58 (F58_ok (l3471)) fun (r : A58) => match r with
             | .a0 b3483 =>
              .auto 1 <|
              .testB (b3483)
               (fun h7 =>
               .auto 3 <|
               .ask E58 (F58_ok (l3472)) fun (r : A58) => match r with
               | .a0 b3484 =>
                .auto 1 <|
                .testB (b3484)
                 (fun h8 =>
                 .auto 4 <|
                 .testB (z3469 == 0)
                  (fun h9 =>
                  .auto 9 <|
                  .ask E62 (F62_ok (l3470)) fun (r : A62) => match r with
                  | .a0 b3485 =>
                   .auto 1 <|
                   .ret (A16.a0 (b3485))
                  )
                  (fun h9 =>
                  .auto 6 <|
                  .testB (z3469 == 1)
                   (fun h10 =>
                   .auto 3 <|
                   .ask E62 (F62_ok (l3470)) fun (r : A62) => match r with
                   | .a0 b3486 =>
                    .auto 1 <|
                    .ret (A16.a0 (b3486))
                   )
                   (fun h10 =>
                   .auto 3 <|
                   .ret (A16.a0 (false))
                   )
                  )
                 )
                 (fun h8 =>
                 .auto 9 <|
                 .ret (A16.a0 (false))
                 )
               )
               (fun h7 =>
               .auto 13 <|
               .ret (A16.a0 (false))
               )
             )
             (fun h6 =>
             .auto 17 <|
             .ret (A16.a0 (false))
             )
           )
           (fun h5 =>
           .auto 21 <|
           .ret (A16.a0 (false))
           )
         )
         (fun h4 =>
         .auto 25 <|
         .ret (A16.a0 (false))
         )
        )
        (fun h3 =>
        .auto 29 <|
        .ret (A16.a0 (false))
        )
       )
      )
    )
noncomputable def F16 (z2937 : Int) (z2938 : Int) (l2939 : List (List V)) (l2940 : List (List V)) (l2941 : List (List V)) (b2942 : Bool) (z2943 : Int) (z2944 : Int) (z2945 : Int) (z2946 : Int) (z2947 : Int) (z2948 : Int) (z2949 : Int) (z2950 : Int) (z2951 : Int) (z2952 : Int) (z2953 : Int) (z2954 : Int) (z2955 : Int) (z2956 : Int) (z2957 : Int) (l2958 : List (List V)) (b2959 : Bool) (l2960 : List (List V)) (z2961 : Int) (z2962 : Int) (z2963 : Int) (z2964 : Int) (z2965 : Int) (l2966 : List (List V)) (l2967 : List (List V)) (l2968 : List (List V)) : Option A16 := (D16 z2937 z2938 l2939 l2940 l2941 b2942 z2943 z2944 z2945 z2946 z2947 z2948 z2949 z2950 z2951 z2952 z2953 z2954 z2955 z2956 z2957 l2958 b2959 l2960 z2961 z2962 z2963 z2964 z2965 l2966 l2967 l2968).ev some
theorem F16_ok (z2937 : Int) (z2938 : Int) (l2939 : List (List V)) (l2940 : List (List V)) (l2941 : List (List V)) (b2942 : Bool) (z2943 : Int) (z2944 : Int) (z2945 : Int) (z2946 : Int) (z2947 : Int) (z2948 : Int) (z2949 : Int) (z2950 : Int) (z2951 : Int) (z2952 : Int) (z2953 : Int) (z2954 : Int) (z2955 : Int) (z2956 : Int) (z2957 : Int) (l2958 : List (List V)) (b2959 : Bool) (l2960 : List (List V)) (z2961 : Int) (z2962 : Int) (z2963 : Int) (z2964 : Int) (z2965 : Int) (l2966 : List (List V)) (l2967 : List (List V)) (l2968 : List (List V)) : ∀ b, F16 z2937 z2938 l2939 l2940 l2941 b2942 z2943 z2944 z2945 z2946 z2947 z2948 z2949 z2950 z2951 z2952 z2953 z2954 z2955 z2956 z2957 l2958 b2959 l2960 z2961 z2962 z2963 z2964 z2965 l2966 l2967 l2968 = some b → UU 16 ([V.agg [i64 z2937, i64 z2938, V.list 7 l2939, V.list 7 l2940, V.list 8 l2941, vb b2942, i64 z2943, i64 z2944, u8 z2945, u8 z2946, u8 z2947, u8 z2948, u8 z2949, u8 z2950, u8 z2951, u8 z2952, i64 z2953, i64 z2954, i64 z2955, i64 z2956, i64 z2957, V.list 10 l2958, vb b2959, V.list 7 l2960, u8 z2961, u8 z2962, u8 z2963, u8 z2964, i64 z2965, V.list 1 l2966, V.list 7 l2967, V.list 7 l2968]]) ([]) = some (A16.out b) :=
  fn_ok (E := E16) (L := notIn []) rfl rfl (fun x => by kernel_rfl)
/-! ## F133 -/
noncomputable abbrev B133 : Code := (Tryz.f133.body).getD .skip
inductive N133_0 where
  | s0 (l3527 : List (List V)) (z3528 : Int) (z3529 : Int)
  | e0 (z3531 : Int)
  | e1
@[reducible] def N133_0.out : N133_0 → VX × S
  | .s0 l3527 z3528 z3529 => (VX.normal, { T := V.list 7 l3527 :: i64 z3528 :: U :: U :: U :: i64 z3529 :: un 15 [], σ := [] })
  | .e0 z3531 => (VX.ret, { T := un 4 (i64 z3531 :: un 16 []), σ := [] })
  | .e1 => (VX.exit 0, { T := un 21 [], σ := [] })
def N133_0.ex (g : N133_0 → Prop) : Prop := (∃ (l3527 : List (List V)) (z3528 : Int) (z3529 : Int), g (.s0 l3527 z3528 z3529)) ∨ (∃ (z3531 : Int), g (.e0 z3531)) ∨ g .e1
theorem N133_0.ok (g : N133_0 → Prop) : N133_0.ex g ↔ ∃ b, g b := ⟨fun h => match h with
  | .inl ⟨_, _, _, h⟩ => ⟨_, h⟩
  | .inr (.inl ⟨_, h⟩) => ⟨_, h⟩
  | .inr (.inr (h)) => ⟨_, h⟩, fun ⟨b, h⟩ => match b, h with
  | .s0 _ _ _, h => .inl ⟨_, _, _, h⟩
  | .e0 _, h => .inr (.inl ⟨_, h⟩)
  | .e1, h => .inr (.inr (h))⟩
abbrev E133_0 : Ent (VX × S) := ⟨N133_0, N133_0.out, N133_0.ex, N133_0.ok⟩
noncomputable def D133_0 (l3527 : List (List V)) (z3528 : Int) (z3529 : Int) : PT N133_0 :=
  .test (z3529 ≥ 0)
   (fun h0 =>
   .test (0 ≤ z3529)
    (fun h1 =>
    .look RW74 (l3527[Int.toNat z3529]?) fun e3534 =>
    .test (e3534.c0 ≤ z3528)
     (fun h2 =>
     .ret (N133_0.e0 (z3529))
     )
     (fun h2 =>
     .ret (N133_0.s0 (l3527) (z3528) (w64 (z3529 - 1)))
     )
    )
    (fun _ => .fail) -- none
   )
   (fun h0 =>
   .ret (N133_0.e1)
   )
noncomputable def S133_0 : N133_0 → PT N133_0
  | .s0 l3527 z3528 z3529 => D133_0 l3527 z3528 z3529
  | _ => .fail
def N133_0.off : N133_0 → Bool
  | .s0 _ _ _ => false
  | _ => true
noncomputable def L133_0 (n : Nat) (b : N133_0) : Option N133_0 := PT.loop (S133_0) N133_0.off n b
theorem L133_0_ok : ∀ (n : Nat) (b : N133_0), N133_0.off b = false → ∀ c, L133_0 n b = some c → loopP Tryz.prog X CC 133 (0) 18446744073709551616 B133 0 n (E133_0.out b).2 = some (E133_0.out c) :=
  loop_ok (E := E133_0) (step := S133_0) (L := notIn []) (fun b hb => by cases b <;> first | (cases hb; done) | (intro x; kernel_rfl)) (fun b => by cases b <;> rfl)
noncomputable def N133_0.nx (n : Nat) (c : N133_0) : Option N133_0 := match N133_0.off c with
  | true => some c
  | false => L133_0 n c
theorem L133_0_s0 (n : Nat) (l3527 : List (List V)) (z3528 : Int) (z3529 : Int) : L133_0 (n + 1) (.s0 l3527 z3528 z3529) = (D133_0 l3527 z3528 z3529).ev (N133_0.nx n) := rfl
theorem N133_0.nx_s0 (n : Nat) (l3527 : List (List V)) (z3528 : Int) (z3529 : Int) : N133_0.nx n (.s0 l3527 z3528 z3529) = L133_0 n (.s0 l3527 z3528 z3529) := rfl
theorem N133_0.nx_e0 (n : Nat) (z3531 : Int) : N133_0.nx n (.e0 z3531) = some (.e0 z3531) := rfl
theorem N133_0.nx_e1 (n : Nat) : N133_0.nx n (.e1) = some (.e1) := rfl
noncomputable def D133 (l3525 : List (List V)) (z3526 : Int) : PT A133 :=
  .cut E133_0 (L133_0_ok 18446744073709551616 (.s0 (l3525) (z3526) (w64 ((↑(List.length l3525) : Int) - 1))) rfl) fun (r : N133_0) => match r with
  | .e0 z3535 =>
   .ret (A133.a0 (z3535))
  | .e1 =>
   .ret (A133.a0 (-1))
  | _ => .fail
noncomputable def F133 (l3525 : List (List V)) (z3526 : Int) : Option A133 := (D133 l3525 z3526).ev some
theorem F133_ok (l3525 : List (List V)) (z3526 : Int) : ∀ b, F133 l3525 z3526 = some b → UU 133 ([V.list 7 l3525, i64 z3526]) ([]) = some (A133.out b) :=
  fn_ok (E := E133) (L := notIn []) rfl rfl (fun x => by kernel_rfl)
/-! ## F74 -/
noncomputable def D74 (z3545 : Int) (z3546 : Int) (z3547 : Int) : PT (Int) :=
  .test (z3545 < z3546)
   (fun h0 =>
   .ret (z3546)
   )
   (fun h0 =>
   .test (z3545 > z3547)
    (fun h1 =>
    .ret (z3547)
    )
    (fun h1 =>
    .ret (z3545)
    )
   )
@[reducible] def O74 (z3548 : Int) : V × Store := (i64 z3548, [])
noncomputable def F74 (z3545 : Int) (z3546 : Int) (z3547 : Int) : Int := (D74 z3545 z3546 z3547).evT
theorem F74_ok (z3545 : Int) (z3546 : Int) (z3547 : Int) : UU 74 ([i64 z3545, i64 z3546, i64 z3547]) ([]) = some (O74 (F74 z3545 z3546 z3547)) :=
  fnT_ok (out := O74) (L := notIn []) rfl rfl (fun x => by kernel_rfl) (by simp [D74, PT.isT])
/-! ## F132 -/
noncomputable def D132 (z3544 : Int) : PT (Int) :=
  .tot O74 (F74_ok (z3544) (-1099511627776) (1099511627776)) fun z3549 =>
  .ret (z3549)
@[reducible] def O132 (z3550 : Int) : V × Store := (i64 z3550, [])
noncomputable def F132 (z3544 : Int) : Int := (D132 z3544).evT
theorem F132_ok (z3544 : Int) : UU 132 ([i64 z3544]) ([]) = some (O132 (F132 z3544)) :=
  fnT_ok (out := O132) (L := notIn []) rfl rfl (fun x => by kernel_rfl) (by simp [D132, PT.isT])
/-! ## F136 -/
noncomputable def D136 (z3541 : Int) (z3542 : Int) (z3543 : Int) : PT A136 :=
  .tot O132 (F132_ok (z3541)) fun z3551 =>
  .tot O132 (F132_ok (z3542)) fun z3552 =>
  .tot O132 (F132_ok (z3543)) fun z3553 =>
  .test (z3553 ≤ z3551)
   (fun h0 =>
   .ret (A136.a0 (0))
   )
   (fun h0 =>
   .test (z3553 ≥ z3552)
    (fun h1 =>
    .ret (A136.a0 (65536))
    )
    (fun h1 =>
    .test (w64 (z3552 - z3551) = 0)
     (fun _ => .fail) -- none
     (fun h2 =>
     .ret (A136.a0 (w64 (Int.tdiv (w64 (w64 (z3553 - z3551) * 65536)) (w64 (z3552 - z3551)))))
     )
    )
   )
noncomputable def F136 (z3541 : Int) (z3542 : Int) (z3543 : Int) : Option A136 := (D136 z3541 z3542 z3543).ev some
theorem F136_ok (z3541 : Int) (z3542 : Int) (z3543 : Int) : ∀ b, F136 z3541 z3542 z3543 = some b → UU 136 ([i64 z3541, i64 z3542, i64 z3543]) ([]) = some (A136.out b) :=
  fn_ok (E := E136) (L := notIn []) rfl rfl (fun x => by kernel_rfl)
/-! ## F187 -/
noncomputable def D187 (z3584 : Int) (z3585 : Int) : PT A187 :=
  .auto 5 <|
  .ret (A187.a0 (IntKind.wrap IntKind.u64 (IntKind.wrap IntKind.u64 (IntKind.wrap IntKind.u64 (Int.fdiv z3584 4294967296 * Int.fdiv z3585 4294967296) + Int.fdiv (IntKind.wrap IntKind.u64 (IntKind.wrap IntKind.u64 (Int.fdiv z3584 4294967296 * IntKind.wrap IntKind.u64 (↑(BitVec.toNat (BitVec.ofInt (IntKind.bits IntKind.u64) z3585 &&& BitVec.ofInt (IntKind.bits IntKind.u64) 4294967295)) : Int)) + Int.fdiv (IntKind.wrap IntKind.u64 (IntKind.wrap IntKind.u64 (↑(BitVec.toNat (BitVec.ofInt (IntKind.bits IntKind.u64) z3584 &&& BitVec.ofInt (IntKind.bits IntKind.u64) 4294967295)) : Int) * IntKind.wrap IntKind.u64 (↑(BitVec.toNat (BitVec.ofInt (IntKind.bits IntKind.u64) z3585 &&& BitVec.ofInt (IntKind.bits IntKind.u64) 4294967295)) : Int))) 4294967296)) 4294967296) + Int.fdiv (IntKind.wrap IntKind.u64 (IntKind.wrap IntKind.u64 (↑(BitVec.toNat (BitVec.ofInt (IntKind.bits IntKind.u64) (IntKind.wrap IntKind.u64 (IntKind.wrap IntKind.u64 (Int.fdiv z3584 4294967296 * IntKind.wrap IntKind.u64 (↑(BitVec.toNat (BitVec.ofInt (IntKind.bits IntKind.u64) z3585 &&& BitVec.ofInt (IntKind.bits IntKind.u64) 4294967295)) : Int)) + Int.fdiv (IntKind.wrap IntKind.u64 (IntKind.wrap IntKind.u64 (↑(BitVec.toNat (BitVec.ofInt (IntKind.bits IntKind.u64) z3584 &&& BitVec.ofInt (IntKind.bits IntKind.u64) 4294967295)) : Int) * IntKind.wrap IntKind.u64 (↑(BitVec.toNat (BitVec.ofInt (IntKind.bits IntKind.u64) z3585 &&& BitVec.ofInt (IntKind.bits IntKind.u64) 4294967295)) : Int))) 4294967296)) &&& BitVec.ofInt (IntKind.bits IntKind.u64) 4294967295)) : Int) + IntKind.wrap IntKind.u64 (IntKind.wrap IntKind.u64 (↑(BitVec.toNat (BitVec.ofInt (IntKind.bits IntKind.u64) z3584 &&& BitVec.ofInt (IntKind.bits IntKind.u64) 4294967295)) : Int) * Int.fdiv z3585 4294967296))) 4294967296)) (IntKind.wrap IntKind.u64 (z3584 * z3585)))
noncomputable def F187 (z3584 : Int) (z3585 : Int) : Option A187 := (D187 z3584 z3585).ev some
theorem F187_ok (z3584 : Int) (z3585 : Int) : ∀ b, F187 z3584 z3585 = some b → UU 187 ([V.int IntKind.u64 z3584, V.int IntKind.u64 z3585]) ([]) = some (A187.out b) :=
  fn_ok (E := E187) (L := notIn []) rfl rfl (fun x => by kernel_rfl)
/-! ## F184 -/
noncomputable def D184 (z3582 : Int) (z3583 : Int) : PT A184 :=
  .ask E187 (F187_ok (IntKind.wrap IntKind.u64 z3582) (IntKind.wrap IntKind.u64 z3583)) fun (r : A187) => match r with
  | .a0 z3588 z3589 =>
   .test (z3582 < 0)
    (fun h0 =>
    .test (z3583 < 0)
     (fun h1 =>
     .ret (A184.a0 (IntKind.wrap IntKind.u64 (IntKind.wrap IntKind.u64 (z3588 - IntKind.wrap IntKind.u64 z3583) - IntKind.wrap IntKind.u64 z3582)) (z3589))
     )
     (fun h1 =>
     .ret (A184.a0 (IntKind.wrap IntKind.u64 (z3588 - IntKind.wrap IntKind.u64 z3583)) (z3589))
     )
    )
    (fun h0 =>
    .test (z3583 < 0)
     (fun h1 =>
     .ret (A184.a0 (IntKind.wrap IntKind.u64 (z3588 - IntKind.wrap IntKind.u64 z3582)) (z3589))
     )
     (fun h1 =>
     .ret (A184.a0 (z3588) (z3589))
     )
    )
noncomputable def F184 (z3582 : Int) (z3583 : Int) : Option A184 := (D184 z3582 z3583).ev some
theorem F184_ok (z3582 : Int) (z3583 : Int) : ∀ b, F184 z3582 z3583 = some b → UU 184 ([i64 z3582, i64 z3583]) ([]) = some (A184.out b) :=
  fn_ok (E := E184) (L := notIn []) rfl rfl (fun x => by kernel_rfl)
/-! ## F183 -/
noncomputable abbrev B183 : Code := (Tryz.f183.body).getD .skip
inductive N183_r3 where
  | e0 (z3600 : Int) (z3601 : Int) (b3602 : Bool)
@[reducible] def N183_r3.out : N183_r3 → VX × S
  | .e0 z3600 z3601 b3602 => (VX.normal, { T := un 5 (i64 z3600 :: V.int IntKind.u64 z3601 :: un 8 (vb b3602 :: un 25 [])), σ := [] })
def N183_r3.ex (g : N183_r3 → Prop) : Prop := (∃ (z3600 : Int) (z3601 : Int) (b3602 : Bool), g (.e0 z3600 z3601 b3602))
theorem N183_r3.ok (g : N183_r3 → Prop) : N183_r3.ex g ↔ ∃ b, g b := ⟨fun h => match h with
  | ⟨_, _, _, h⟩ => ⟨_, h⟩, fun ⟨b, h⟩ => match b, h with
  | .e0 _ _ _, h => ⟨_, _, _, h⟩⟩
abbrev E183_r3 : Ent (VX × S) := ⟨N183_r3, N183_r3.out, N183_r3.ex, N183_r3.ok⟩
noncomputable def D183_r3 (z3596 : Int) (z3597 : Int) : PT N183_r3 :=
  .test (z3596 < -1)
   (fun h0 =>
   .auto 4 <|
   .ret (N183_r3.e0 (z3596) (z3597) (true))
   )
   (fun h0 =>
   .auto 2 <|
   .testB (z3596 == -1)
    (fun h1 =>
    .auto 6 <|
    .ret (N183_r3.e0 (z3596) (z3597) (Int.fdiv z3597 9223372036854775808 == 0))
    )
    (fun h1 =>
    .auto 5 <|
    .ret (N183_r3.e0 (z3596) (z3597) (false))
    )
   )
noncomputable def J183_r3 (z3596 : Int) (z3597 : Int) : Option N183_r3 := (D183_r3 z3596 z3597).ev some
theorem J183_r3_ok (z3596 : Int) (z3597 : Int) : ∀ b, J183_r3 z3596 z3597 = some b → regP Tryz.prog X CC 183 (0) B183 3 ({ T := un 5 (i64 z3596 :: V.int IntKind.u64 z3597 :: un 34 []), σ := [] }) = some (E183_r3.out b) :=
  reg_ok (E := E183_r3) (fun x => by kernel_rfl)
noncomputable def D183 (z3594 : Int) (z3595 : Int) : PT A183 :=
  .auto 3 <|
  .cut E183_r3 (J183_r3_ok (Int.fdiv (w64 z3594) 65536) (IntKind.wrap IntKind.u64 (↑(BitVec.toNat (BitVec.ofInt (IntKind.bits IntKind.u64) (IntKind.wrap IntKind.u64 (z3594 * 2 ^ min (Int.toNat 48) (IntKind.bits IntKind.u64))) ||| BitVec.ofInt (IntKind.bits IntKind.u64) (Int.fdiv z3595 (2 ^ min (Int.toNat 16) (IntKind.bits IntKind.u64))))) : Int))) fun (r : N183_r3) => match r with
  | .e0 z3607 z3608 b3609 =>
   .testB (b3609)
    (fun h0 =>
    .ret (A183.a0 (-9223372036854775808))
    )
    (fun h0 =>
    .test (z3607 > 0)
     (fun h1 =>
     .auto 5 <|
     .ret (A183.a0 (9223372036854775807))
     )
     (fun h1 =>
     .auto 2 <|
     .testB (z3607 == 0)
      (fun h2 =>
      .auto 6 <|
      .testB (Int.fdiv z3608 9223372036854775808 != 0)
       (fun h3 =>
       .ret (A183.a0 (9223372036854775807))
       )
       (fun h3 =>
       .ret (A183.a0 (w64 z3608))
       )
      )
      (fun h2 =>
      .auto 6 <|
      .ret (A183.a0 (w64 z3608))
      )
     )
    )
noncomputable def F183 (z3594 : Int) (z3595 : Int) : Option A183 := (D183 z3594 z3595).ev some
theorem F183_ok (z3594 : Int) (z3595 : Int) : ∀ b, F183 z3594 z3595 = some b → UU 183 ([V.int IntKind.u64 z3594, V.int IntKind.u64 z3595]) ([]) = some (A183.out b) :=
  fn_ok (E := E183) (L := notIn []) rfl rfl (fun x => by kernel_rfl)
/-! ## F125 -/
noncomputable def D125 (z3578 : Int) (z3579 : Int) : PT A125 :=
  .tot O132 (F132_ok (z3578)) fun z3580 =>
  .tot O132 (F132_ok (z3579)) fun z3581 =>
  .ask E184 (F184_ok (z3580) (z3581)) fun (r : A184) => match r with
  | .a0 z3592 z3593 =>
   .ask E183 (F183_ok (z3592) (z3593)) fun (r : A183) => match r with
   | .a0 z3610 =>
    .tot O132 (F132_ok (z3610)) fun z3611 =>
    .ret (A125.a0 (z3611))
noncomputable def F125 (z3578 : Int) (z3579 : Int) : Option A125 := (D125 z3578 z3579).ev some
theorem F125_ok (z3578 : Int) (z3579 : Int) : ∀ b, F125 z3578 z3579 = some b → UU 125 ([i64 z3578, i64 z3579]) ([]) = some (A125.out b) :=
  fn_ok (E := E125) (L := notIn []) rfl rfl (fun x => by kernel_rfl)
/-! ## F131 -/
noncomputable def D131 (z3619 : Int) (z3620 : Int) : PT (Int) :=
  .tot O132 (F132_ok (z3619)) fun z3621 =>
  .tot O132 (F132_ok (z3620)) fun z3622 =>
  .tot O132 (F132_ok (w64 (z3621 + z3622))) fun z3623 =>
  .ret (z3623)
@[reducible] def O131 (z3624 : Int) : V × Store := (i64 z3624, [])
noncomputable def F131 (z3619 : Int) (z3620 : Int) : Int := (D131 z3619 z3620).evT
theorem F131_ok (z3619 : Int) (z3620 : Int) : UU 131 ([i64 z3619, i64 z3620]) ([]) = some (O131 (F131 z3619 z3620)) :=
  fnT_ok (out := O131) (L := notIn []) rfl rfl (fun x => by kernel_rfl) (by simp [D131, PT.isT])
/-! ## F231 -/
noncomputable def D231 (z3574 : Int) (z3575 : Int) (z3576 : Int) : PT A231 :=
  .tot O74 (F74_ok (z3576) (0) (65536)) fun z3577 =>
  .ask E125 (F125_ok (w64 (65536 - z3577)) (w64 (65536 - z3577))) fun (r : A125) => match r with
  | .a0 z3613 =>
   .ask E125 (F125_ok (z3613) (z3577)) fun (r : A125) => match r with
   | .a0 z3614 =>
    .ask E125 (F125_ok (w64 (3 * z3614)) (z3574)) fun (r : A125) => match r with
    | .a0 z3615 =>
     .ask E125 (F125_ok (w64 (65536 - z3577)) (z3577)) fun (r : A125) => match r with
     | .a0 z3616 =>
      .ask E125 (F125_ok (z3616) (z3577)) fun (r : A125) => match r with
      | .a0 z3617 =>
       .ask E125 (F125_ok (w64 (3 * z3617)) (z3575)) fun (r : A125) => match r with
       | .a0 z3618 =>
        .tot O131 (F131_ok (z3615) (z3618)) fun z3625 =>
        .ask E125 (F125_ok (z3577) (z3577)) fun (r : A125) => match r with
        | .a0 z3626 =>
         .ask E125 (F125_ok (z3626) (z3577)) fun (r : A125) => match r with
         | .a0 z3627 =>
          .tot O131 (F131_ok (z3625) (z3627)) fun z3628 =>
          .ret (A231.a0 (z3628))
noncomputable def F231 (z3574 : Int) (z3575 : Int) (z3576 : Int) : Option A231 := (D231 z3574 z3575 z3576).ev some
theorem F231_ok (z3574 : Int) (z3575 : Int) (z3576 : Int) : ∀ b, F231 z3574 z3575 z3576 = some b → UU 231 ([i64 z3574, i64 z3575, i64 z3576]) ([]) = some (A231.out b) :=
  fn_ok (E := E231) (L := notIn []) rfl rfl (fun x => by kernel_rfl)
/-! ## F191 -/
noncomputable abbrev B191 : Code := (Tryz.f191.body).getD .skip
inductive N191_1 where
  | s0 (z3638 : Int) (z3639 : Int) (z3640 : Int) (z3641 : Int) (z3642 : Int) (z3643 : Int) (z3644 : Int) (z3645 : Int)
  | e0 (z3647 : Int) (z3648 : Int) (z3649 : Int) (z3650 : Int) (z3651 : Int)
@[reducible] def N191_1.out : N191_1 → VX × S
  | .s0 z3638 z3639 z3640 z3641 z3642 z3643 z3644 z3645 => (VX.normal, { T := U :: i64 z3638 :: V.ptr 0 0 0 :: U :: U :: i64 z3639 :: i64 z3640 :: un 7 (i64 z3641 :: un 22 []), σ := [Ob.cells true false 4 [[i64 z3642, i64 z3643, i64 z3644, i64 z3645]]] })
  | .e0 z3647 z3648 z3649 z3650 z3651 => (VX.exit 1, { T := U :: U :: V.ptr 0 0 0 :: U :: U :: i64 z3647 :: un 31 [], σ := [Ob.cells true false 4 [[i64 z3648, i64 z3649, i64 z3650, i64 z3651]]] })
def N191_1.ex (g : N191_1 → Prop) : Prop := (∃ (z3638 : Int) (z3639 : Int) (z3640 : Int) (z3641 : Int) (z3642 : Int) (z3643 : Int) (z3644 : Int) (z3645 : Int), g (.s0 z3638 z3639 z3640 z3641 z3642 z3643 z3644 z3645)) ∨ (∃ (z3647 : Int) (z3648 : Int) (z3649 : Int) (z3650 : Int) (z3651 : Int), g (.e0 z3647 z3648 z3649 z3650 z3651))
theorem N191_1.ok (g : N191_1 → Prop) : N191_1.ex g ↔ ∃ b, g b := ⟨fun h => match h with
  | .inl ⟨_, _, _, _, _, _, _, _, h⟩ => ⟨_, h⟩
  | .inr (⟨_, _, _, _, _, h⟩) => ⟨_, h⟩, fun ⟨b, h⟩ => match b, h with
  | .s0 _ _ _ _ _ _ _ _, h => .inl ⟨_, _, _, _, _, _, _, _, h⟩
  | .e0 _ _ _ _ _, h => .inr (⟨_, _, _, _, _, h⟩)⟩
abbrev E191_1 : Ent (VX × S) := ⟨N191_1, N191_1.out, N191_1.ex, N191_1.ok⟩
noncomputable def D191_1 (z3638 : Int) (z3639 : Int) (z3640 : Int) (z3641 : Int) (z3642 : Int) (z3643 : Int) (z3644 : Int) (z3645 : Int) : PT N191_1 :=
  .test (z3641 < 16)
   (fun h0 =>
   .auto 3 <|
   .ask E231 (F231_ok (z3642) (z3644) (Int.fdiv (w64 (z3639 + z3640)) 2)) fun (r : A231) => match r with
   | .a0 z3658 =>
    .test (z3658 ≤ z3638)
     (fun h1 =>
     .ret (N191_1.s0 (z3638) (Int.fdiv (w64 (z3639 + z3640)) 2) (z3640) (w64 (z3641 + 1)) (z3642) (z3643) (z3644) (z3645))
     )
     (fun h1 =>
     .ret (N191_1.s0 (z3638) (z3639) (Int.fdiv (w64 (z3639 + z3640)) 2) (w64 (z3641 + 1)) (z3642) (z3643) (z3644) (z3645))
     )
   )
   (fun h0 =>
   .ret (N191_1.e0 (z3639) (z3642) (z3643) (z3644) (z3645))
   )
noncomputable def S191_1 : N191_1 → PT N191_1
  | .s0 z3638 z3639 z3640 z3641 z3642 z3643 z3644 z3645 => D191_1 z3638 z3639 z3640 z3641 z3642 z3643 z3644 z3645
  | _ => .fail
def N191_1.off : N191_1 → Bool
  | .s0 _ _ _ _ _ _ _ _ => false
  | _ => true
noncomputable def L191_1 (n : Nat) (b : N191_1) : Option N191_1 := PT.loop (S191_1) N191_1.off n b
theorem L191_1_ok : ∀ (n : Nat) (b : N191_1), N191_1.off b = false → ∀ c, L191_1 n b = some c → loopP Tryz.prog X CC 191 (0) 18446744073709551616 B191 1 n (E191_1.out b).2 = some (E191_1.out c) :=
  loop_ok (E := E191_1) (step := S191_1) (L := notIn []) (fun b hb => by cases b <;> first | (cases hb; done) | (intro x; kernel_rfl)) (fun b => by cases b <;> rfl)
noncomputable def N191_1.nx (n : Nat) (c : N191_1) : Option N191_1 := match N191_1.off c with
  | true => some c
  | false => L191_1 n c
theorem L191_1_s0 (n : Nat) (z3638 : Int) (z3639 : Int) (z3640 : Int) (z3641 : Int) (z3642 : Int) (z3643 : Int) (z3644 : Int) (z3645 : Int) : L191_1 (n + 1) (.s0 z3638 z3639 z3640 z3641 z3642 z3643 z3644 z3645) = (D191_1 z3638 z3639 z3640 z3641 z3642 z3643 z3644 z3645).ev (N191_1.nx n) := rfl
theorem N191_1.nx_s0 (n : Nat) (z3638 : Int) (z3639 : Int) (z3640 : Int) (z3641 : Int) (z3642 : Int) (z3643 : Int) (z3644 : Int) (z3645 : Int) : N191_1.nx n (.s0 z3638 z3639 z3640 z3641 z3642 z3643 z3644 z3645) = L191_1 n (.s0 z3638 z3639 z3640 z3641 z3642 z3643 z3644 z3645) := rfl
theorem N191_1.nx_e0 (n : Nat) (z3647 : Int) (z3648 : Int) (z3649 : Int) (z3650 : Int) (z3651 : Int) : N191_1.nx n (.e0 z3647 z3648 z3649 z3650 z3651) = some (.e0 z3647 z3648 z3649 z3650 z3651) := rfl
noncomputable def D191 (z3563 : Int) (z3564 : Int) (z3565 : Int) (z3566 : Int) (z3567 : Int) : PT A191 :=
  .test (z3567 ≤ 0)
   (fun h0 =>
   .ret (A191.a0 (0))
   )
   (fun h0 =>
   .test (z3567 ≥ 65536)
    (fun h1 =>
    .ret (A191.a0 (65536))
    )
    (fun h1 =>
    .cut E191_1 (L191_1_ok 18446744073709551616 (.s0 (z3567) (0) (65536) (0) (z3563) (z3564) (z3565) (z3566)) rfl) fun (r : N191_1) => match r with
    | .e0 z3659 z3660 z3661 z3662 z3663 =>
     .auto 2 <|
     .ask E231 (F231_ok (z3661) (z3663) (z3659)) fun (r : A231) => match r with
     | .a0 z3664 =>
      .ret (A191.a0 (z3664))
    | _ => .fail
    )
   )
noncomputable def F191 (z3563 : Int) (z3564 : Int) (z3565 : Int) (z3566 : Int) (z3567 : Int) : Option A191 := (D191 z3563 z3564 z3565 z3566 z3567).ev some
theorem F191_ok (z3563 : Int) (z3564 : Int) (z3565 : Int) (z3566 : Int) (z3567 : Int) : ∀ b, F191 z3563 z3564 z3565 z3566 z3567 = some b → UU 191 ([V.agg [i64 z3563, i64 z3564, i64 z3565, i64 z3566], i64 z3567]) ([]) = some (A191.out b) :=
  fn_ok (E := E191) (L := notIn []) rfl rfl (fun x => by kernel_rfl)
/-! ## F135 -/
noncomputable def D135 (z3556 : Int) (z3557 : Int) (z3558 : Int) (z3559 : Int) (z3560 : Int) (z3561 : Int) : PT A135 :=
  .testB (z3556 == 0)
   (fun h0 =>
   .auto 2 <|
   .test (z3561 ≥ 65536)
    (fun h1 =>
    .ret (A135.a0 (65536))
    )
    (fun h1 =>
    .testB (z3556 == 1)
     (fun h2 =>
     .ret (A135.a0 (z3561))
     )
     (fun h2 =>
     .testB (z3556 == 2)
      (fun h3 =>
      .auto 1 <|
      .ask E191 (F191_ok (z3557) (z3558) (z3559) (z3560) (z3561)) fun (r : A191) => match r with
      | .a0 z3665 =>
       .ret (A135.a0 (z3665))
      )
      (fun h3 =>
      .ret (A135.a0 (0))
      )
     )
    )
   )
   (fun h0 =>
   .auto 3 <|
   .testB (z3556 == 1)
    (fun h1 =>
    .ret (A135.a0 (z3561))
    )
    (fun h1 =>
    .testB (z3556 == 2)
     (fun h2 =>
     .auto 1 <|
     .ask E191 (F191_ok (z3557) (z3558) (z3559) (z3560) (z3561)) fun (r : A191) => match r with
     | .a0 z3666 =>
      .ret (A135.a0 (z3666))
     )
     (fun h2 =>
     .ret (A135.a0 (0))
     )
    )
   )
noncomputable def F135 (z3556 : Int) (z3557 : Int) (z3558 : Int) (z3559 : Int) (z3560 : Int) (z3561 : Int) : Option A135 := (D135 z3556 z3557 z3558 z3559 z3560 z3561).ev some
theorem F135_ok (z3556 : Int) (z3557 : Int) (z3558 : Int) (z3559 : Int) (z3560 : Int) (z3561 : Int) : ∀ b, F135 z3556 z3557 z3558 z3559 z3560 z3561 = some b → UU 135 ([i64 z3556, V.agg [i64 z3557, i64 z3558, i64 z3559, i64 z3560], i64 z3561]) ([]) = some (A135.out b) :=
  fn_ok (E := E135) (L := notIn []) rfl rfl (fun x => by kernel_rfl)
/-! ## F134 -/
noncomputable def D134 (z3668 : Int) (z3669 : Int) (z3670 : Int) : PT A134 :=
  .tot O132 (F132_ok (z3668)) fun z3671 =>
  .tot O131 (F131_ok (z3669) (w64 (0 - z3671))) fun z3672 =>
  .ask E125 (F125_ok (z3672) (z3670)) fun (r : A125) => match r with
  | .a0 z3673 =>
   .tot O131 (F131_ok (z3671) (z3673)) fun z3674 =>
   .ret (A134.a0 (z3674))
noncomputable def F134 (z3668 : Int) (z3669 : Int) (z3670 : Int) : Option A134 := (D134 z3668 z3669 z3670).ev some
theorem F134_ok (z3668 : Int) (z3669 : Int) (z3670 : Int) : ∀ b, F134 z3668 z3669 z3670 = some b → UU 134 ([i64 z3668, i64 z3669, i64 z3670]) ([]) = some (A134.out b) :=
  fn_ok (E := E134) (L := notIn []) rfl rfl (fun x => by kernel_rfl)
/-! ## F72 -/
noncomputable def D72 (l3521 : List (List V)) (z3522 : Int) (z3523 : Int) : PT A72 :=
  .testB ((↑(List.length l3521) : Int) == 0)
   (fun h0 =>
   .ret (A72.a0 (z3523))
   )
   (fun h0 =>
   .ask E133 (F133_ok (l3521) (z3522)) fun (r : A133) => match r with
   | .a0 z3536 =>
    .testB (z3536 == -1)
     (fun h1 =>
     .auto 1 <|
     .look RW74 (l3521[(0 : Nat)]?) fun e3537 =>
     .ret (A72.a0 (e3537.c1))
     )
     (fun h1 =>
     .testB (z3536 == w64 ((↑(List.length l3521) : Int) - 1))
      (fun h2 =>
      .test (0 ≤ z3536)
       (fun h3 =>
       .look RW74 (l3521[Int.toNat z3536]?) fun e3538 =>
       .ret (A72.a0 (e3538.c1))
       )
       (fun _ => .fail) -- none
      )
      (fun h2 =>
      .test (0 ≤ z3536)
       (fun h3 =>
       .look RW74 (l3521[Int.toNat z3536]?) fun e3539 =>
       .test (0 ≤ w64 (z3536 + 1))
        (fun h4 =>
        .look RW74 (l3521[Int.toNat (w64 (z3536 + (1 : Int)))]?) fun e3540 =>
        .auto 8 <|
        .ask E136 (F136_ok (e3539.c0) (e3540.c0) (z3522)) fun (r : A136) => match r with
        | .a0 z3555 =>
         .ask E135 (F135_ok (e3539.c2) (e3539.c3) (e3539.c4) (e3539.c5) (e3539.c6) (z3555)) fun (r : A135) => match r with
         | .a0 z3667 =>
          .ask E134 (F134_ok (e3539.c1) (e3540.c1) (z3667)) fun (r : A134) => match r with
          | .a0 z3676 =>
           .ret (A72.a0 (z3676))
        )
        (fun _ => .fail) -- none
       )
       (fun _ => .fail) -- none
      )
     )
   )
noncomputable def F72 (l3521 : List (List V)) (z3522 : Int) (z3523 : Int) : Option A72 := (D72 l3521 z3522 z3523).ev some
theorem F72_ok (l3521 : List (List V)) (z3522 : Int) (z3523 : Int) : ∀ b, F72 l3521 z3522 z3523 = some b → UU 72 ([V.list 7 l3521, i64 z3522, i64 z3523]) ([]) = some (A72.out b) :=
  fn_ok (E := E72) (L := notIn []) rfl rfl (fun x => by kernel_rfl)
/-! ## F123 -/
noncomputable def D123 (z3681 : Int) (z3682 : Int) : PT A123 :=
  .auto 1 <|
  .ret (A123.a0 (z3681) (z3682))
noncomputable def F123 (z3681 : Int) (z3682 : Int) : Option A123 := (D123 z3681 z3682).ev some
theorem F123_ok (z3681 : Int) (z3682 : Int) : ∀ b, F123 z3681 z3682 = some b → UU 123 ([i64 z3681, i64 z3682]) ([]) = some (A123.out b) :=
  fn_ok (E := E123) (L := notIn []) rfl rfl (fun x => by kernel_rfl)
/-! ## F122 -/
noncomputable abbrev B122 : Code := (Tryz.f122.body).getD .skip
inductive N122_0 where
  | s0 (l3700 : List (List V)) (z3701 : Int) (z3702 : Int) (k3703 : Nat) (l3704 : List (List V))
  | e0 (k3713 : Nat) (l3714 : List (List V))
@[reducible] def N122_0.out : N122_0 → VX × S
  | .s0 l3700 z3701 z3702 k3703 l3704 => (VX.normal, { T := V.list 2 l3700 :: U :: V.ptr 0 0 0 :: V.ptr 1 0 0 :: un 8 (V.list 2 l3700 :: i64 z3701 :: i64 z3702 :: un 22 []), σ := [Ob.cells true false 2 [[vb false, V.hs 2 0 0]], Ob.cells true false 2 [[vb true, V.hs 3 0 k3703]], Ob.cells true true 2 [], Ob.cells true true 2 l3704] })
  | .e0 k3713 l3714 => (VX.exit 0, { T := U :: U :: V.ptr 0 0 0 :: V.ptr 1 0 0 :: un 33 [], σ := [Ob.cells true false 2 [[vb false, V.hs 2 0 0]], Ob.cells true false 2 [[vb true, V.hs 3 0 k3713]], Ob.cells true true 2 [], Ob.cells true true 2 l3714] })
def N122_0.ex (g : N122_0 → Prop) : Prop := (∃ (l3700 : List (List V)) (z3701 : Int) (z3702 : Int) (k3703 : Nat) (l3704 : List (List V)), g (.s0 l3700 z3701 z3702 k3703 l3704)) ∨ (∃ (k3713 : Nat) (l3714 : List (List V)), g (.e0 k3713 l3714))
theorem N122_0.ok (g : N122_0 → Prop) : N122_0.ex g ↔ ∃ b, g b := ⟨fun h => match h with
  | .inl ⟨_, _, _, _, _, h⟩ => ⟨_, h⟩
  | .inr (⟨_, _, h⟩) => ⟨_, h⟩, fun ⟨b, h⟩ => match b, h with
  | .s0 _ _ _ _ _, h => .inl ⟨_, _, _, _, _, h⟩
  | .e0 _ _, h => .inr (⟨_, _, h⟩)⟩
abbrev E122_0 : Ent (VX × S) := ⟨N122_0, N122_0.out, N122_0.ex, N122_0.ok⟩
noncomputable def D122_0 (l3700 : List (List V)) (z3701 : Int) (z3702 : Int) (k3703 : Nat) (l3704 : List (List V)) : PT N122_0 :=
  .test (z3702 < z3701)
   (fun h0 =>
   .test (0 ≤ z3702)
    (fun h1 =>
    .look RW28 (l3700[Int.toNat z3702]?) fun e3718 =>
    .auto 1 <|
    .test ((↑(List.length l3700) : Int) = 0)
     (fun _ => .fail) -- none
     (fun h2 =>
     .test (0 ≤ Int.tmod (w64 (z3702 + 1)) (↑(List.length l3700) : Int))
      (fun h3 =>
      .look RW28 (l3700[Int.toNat (Int.tmod (w64 (z3702 + (1 : Int))) (↑(List.length l3700) : Int))]?) fun e3719 =>
      .auto 6 <|
      .test (0 + k3703 ≤ List.length l3704 ∧ (k3703 + 3) * 16 ≤ 140737488355328 ∧ k3703 + 3 ≤ 140737488355328)
       (fun h4 =>
       .auto 1 <|
       .ret (N122_0.s0 (l3700) (z3701) (w64 (z3702 + 1)) (k3703 + 3) (List.take k3703 l3704 ++ [[i64 e3718.c0, i64 e3718.c1], [i64 e3719.c0, i64 e3719.c1], [i64 e3719.c0, i64 e3719.c1]]))
       )
       (fun _ => .fail) -- none
      )
      (fun _ => .fail) -- none
     )
    )
    (fun _ => .fail) -- none
   )
   (fun h0 =>
   .ret (N122_0.e0 (k3703) (l3704))
   )
noncomputable def S122_0 : N122_0 → PT N122_0
  | .s0 l3700 z3701 z3702 k3703 l3704 => D122_0 l3700 z3701 z3702 k3703 l3704
  | _ => .fail
def N122_0.off : N122_0 → Bool
  | .s0 _ _ _ _ _ => false
  | _ => true
noncomputable def L122_0 (n : Nat) (b : N122_0) : Option N122_0 := PT.loop (S122_0) N122_0.off n b
theorem L122_0_ok : ∀ (n : Nat) (b : N122_0), N122_0.off b = false → ∀ c, L122_0 n b = some c → loopP Tryz.prog X CC 122 (0) 18446744073709551616 B122 0 n (E122_0.out b).2 = some (E122_0.out c) :=
  loop_ok (E := E122_0) (step := S122_0) (L := notIn []) (fun b hb => by cases b <;> first | (cases hb; done) | (intro x; kernel_rfl)) (fun b => by cases b <;> rfl)
noncomputable def N122_0.nx (n : Nat) (c : N122_0) : Option N122_0 := match N122_0.off c with
  | true => some c
  | false => L122_0 n c
theorem L122_0_s0 (n : Nat) (l3700 : List (List V)) (z3701 : Int) (z3702 : Int) (k3703 : Nat) (l3704 : List (List V)) : L122_0 (n + 1) (.s0 l3700 z3701 z3702 k3703 l3704) = (D122_0 l3700 z3701 z3702 k3703 l3704).ev (N122_0.nx n) := rfl
theorem N122_0.nx_s0 (n : Nat) (l3700 : List (List V)) (z3701 : Int) (z3702 : Int) (k3703 : Nat) (l3704 : List (List V)) : N122_0.nx n (.s0 l3700 z3701 z3702 k3703 l3704) = L122_0 n (.s0 l3700 z3701 z3702 k3703 l3704) := rfl
theorem N122_0.nx_e0 (n : Nat) (k3713 : Nat) (l3714 : List (List V)) : N122_0.nx n (.e0 k3713 l3714) = some (.e0 k3713 l3714) := rfl
noncomputable def D122 (l3693 : List (List V)) : PT A122 :=
  .auto 1 <|
  .look RW28 (l3693[(0 : Nat)]?) fun e3717 =>
  .auto 1 <|
  .cut E122_0 (L122_0_ok 18446744073709551616 (.s0 (l3693) ((↑(List.length l3693) : Int)) (0) (1) ([[i64 e3717.c0, i64 e3717.c1]])) rfl) fun (r : N122_0) => match r with
  | .e0 k3720 l3721 =>
   .auto 2 <|
   .ret (A122.a0 (true) (k3720) (l3721))
  | _ => .fail
noncomputable def F122 (l3693 : List (List V)) : Option A122 := (D122 l3693).ev some
theorem F122_ok (l3693 : List (List V)) : ∀ b, F122 l3693 = some b → UU 122 ([V.list 2 l3693]) ([]) = some (A122.out b) :=
  fn_ok (E := E122) (L := notIn []) rfl rfl (fun x => by kernel_rfl)
/-! ## F63 -/
noncomputable def D63 (z3679 : Int) (z3680 : Int) : PT A63 :=
  .auto 2 <|
  .ask E123 (F123_ok (w64 (0 - Int.fdiv z3679 2)) (w64 (0 - Int.fdiv z3680 2))) fun (r : A123) => match r with
  | .a0 z3685 z3686 =>
   .ask E123 (F123_ok (w64 (z3679 - Int.fdiv z3679 2)) (w64 (0 - Int.fdiv z3680 2))) fun (r : A123) => match r with
   | .a0 z3687 z3688 =>
    .ask E123 (F123_ok (w64 (z3679 - Int.fdiv z3679 2)) (w64 (z3680 - Int.fdiv z3680 2))) fun (r : A123) => match r with
    | .a0 z3689 z3690 =>
     .ask E123 (F123_ok (w64 (0 - Int.fdiv z3679 2)) (w64 (z3680 - Int.fdiv z3680 2))) fun (r : A123) => match r with
     | .a0 z3691 z3692 =>
      .auto 1 <|
      .ask E122 (F122_ok ([[i64 z3685, i64 z3686], [i64 z3687, i64 z3688], [i64 z3689, i64 z3690], [i64 z3691, i64 z3692]])) fun (r : A122) => match r with
      | .a0 b3722 k3723 l3724 =>
       .auto 1 <|
       .ret (A63.a0 (b3722) (k3723) (l3724))
noncomputable def F63 (z3679 : Int) (z3680 : Int) : Option A63 := (D63 z3679 z3680).ev some
theorem F63_ok (z3679 : Int) (z3680 : Int) : ∀ b, F63 z3679 z3680 = some b → UU 63 ([i64 z3679, i64 z3680]) ([]) = some (A63.out b) :=
  fn_ok (E := E63) (L := notIn []) rfl rfl (fun x => by kernel_rfl)
end Go.Proofs.YtifalphladcdcaaGreat.H
