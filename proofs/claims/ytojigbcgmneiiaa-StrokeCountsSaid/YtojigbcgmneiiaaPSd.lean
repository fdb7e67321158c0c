/- What the functions compute, and that they do so over the machine of plain values (printed by this session's program wip/vm/Walk.lean). No condition beyond those stated. -/
import Derived.Test.YtojigbcgmneiiaaWk
import Derived.Test.YtojigbcgmneiiaaPSc
set_option linter.unusedVariables false
set_option linter.unusedSimpArgs false
namespace Go.Proofs.Ytojigbcgmneiiaa.H
open Go Go.VM
set_option maxRecDepth 100000
/-! ## 9 -/
noncomputable abbrev B9 : Code := (Try.f9.body).getD .skip
inductive R9_4 where
  | e0
  | e1 (z3001 : Int) (z3004 : Int) (b3006 : Bool) (k3007 : Nat) (l3008 : List (List V))
@[reducible] def s9_4_0 (z2991 : Int) (z2992 : Int) (z2993 : Int) (z2994 : Int) (b2995 : Bool) (b2996 : Bool) (k2997 : Nat) (b2998 : Bool) (b2999 : Bool) (l3000 : List (List V)) : S := { T := vb false :: i64 z2991 :: V.ptr 0 0 0 :: U :: i64 z2992 :: i64 z2993 :: un 8 (V.hs 1 0 10 :: i64 10 :: i64 z2994 :: U :: U :: U :: i64 z2993 :: vb b2995 :: U :: U :: V.agg [vb b2996, V.hs 2 0 k2997] :: i64 z2992 :: i64 z2993 :: vb b2998 :: vb b2999 :: un 12 []), σ := [Ob.cells true false 2 [[vb b2996, V.hs 2 0 k2997]], Ob.cells true true 1 [[i64 (-9223372036854775808)], [i64 (-1)], [i64 0], [i64 1], [i64 2], [i64 3], [i64 65536], [i64 196608], [i64 67108864], [i64 9223372036854775807]], Ob.cells true true 2 l3000] }
@[reducible] def s9_4_1 (z3001 : Int) (z3002 : Int) (z3003 : Int) (z3004 : Int) (b3005 : Bool) (b3006 : Bool) (k3007 : Nat) (l3008 : List (List V)) : S := { T := U :: i64 z3001 :: V.ptr 0 0 0 :: U :: i64 z3002 :: i64 z3003 :: un 8 (V.hs 1 0 10 :: i64 10 :: i64 z3004 :: U :: U :: U :: i64 z3003 :: vb b3005 :: un 19 []), σ := [Ob.cells true false 2 [[vb b3006, V.hs 2 0 k3007]], Ob.cells true true 1 [[i64 (-9223372036854775808)], [i64 (-1)], [i64 0], [i64 1], [i64 2], [i64 3], [i64 65536], [i64 196608], [i64 67108864], [i64 9223372036854775807]], Ob.cells true true 2 l3008] }
def R9_4.St : R9_4 → VX × S → Prop
  | .e0, p => ∃ z2991 : Int, ∃ z2992 : Int, ∃ z2993 : Int, ∃ z2994 : Int, ∃ b2995 : Bool, ∃ b2996 : Bool, ∃ k2997 : Nat, ∃ b2998 : Bool, ∃ b2999 : Bool, ∃ l3000 : List (List V), p = (VX.ret, s9_4_0 z2991 z2992 z2993 z2994 b2995 b2996 k2997 b2998 b2999 l3000)
  | .e1 z3001 z3004 b3006 k3007 l3008, p => ∃ z3002 : Int, ∃ z3003 : Int, ∃ b3005 : Bool, p = (VX.exit 4, s9_4_1 z3001 z3002 z3003 z3004 b3005 b3006 k3007 l3008)
def L9_4 : Nat → Int → Int → Int → Int → Bool → Nat → List (List V) → Option R9_4
  | 0, _, _, _, _, _, _, _ => none
  | n + 1, z2877, z2878, z2879, z2880, b2881, k2882, l2883 =>
    if z2879 < 3 then
     if 0 + k2882 ≤ List.length l2883 then
      (F27 (b2881) (List.take k2882 l2883) (z2878) (z2879)).bind fun r => match r with
      | .a0 b2990 =>
       if (!b2990) = true then
        some (R9_4.e0)
       else
        L9_4 n (z2877) (z2878) (w64 (z2879 + 1)) (z2880) (b2881) (k2882) (l2883)
     else
      none -- none
    else
     some (R9_4.e1 (z2877) (z2880) (b2881) (k2882) (l2883))
theorem L9_4_ok (m : Nat) : ∀ (n : Nat) (z2877 : Int) (z2878 : Int) (z2879 : Int) (z2880 : Int) (b2881 : Bool) (k2882 : Nat) (l2883 : List (List V)) (r : R9_4), L9_4 n z2877 z2878 z2879 z2880 b2881 k2882 l2883 = some r → ∃ st, loopFrom Try.prog X (genO X (call Try.prog X O0 18446744073709551616 (m + 9))) 9 (0) 18446744073709551616 B9 4 n ({ T := U :: i64 z2877 :: V.ptr 0 0 0 :: U :: i64 z2878 :: i64 z2879 :: un 8 (V.hs 1 0 10 :: i64 10 :: i64 z2880 :: un 24 []), σ := [Ob.cells true false 2 [[vb b2881, V.hs 2 0 k2882]], Ob.cells true true 1 [[i64 (-9223372036854775808)], [i64 (-1)], [i64 0], [i64 1], [i64 2], [i64 3], [i64 65536], [i64 196608], [i64 67108864], [i64 9223372036854775807]], Ob.cells true true 2 l2883] }) = some st ∧ r.St st
  | 0, _, _, _, _, _, _, _, r, h => by cases h
  | n + 1, z2877, z2878, z2879, z2880, b2881, k2882, l2883, r, h => by
    rw [L9_4] at h
    rcases ite_eq h with ⟨h0, h⟩ | ⟨h0, h⟩
    · skip
      rcases ite_eq h with ⟨h1, h⟩ | ⟨h1, h⟩
      · skip
        obtain ⟨r2, h2, h⟩ := Option.bind_eq_some_iff.mp h
        have h2 := F27_ok (m + 0) (b2881) (List.take k2882 l2883) (z2878) (z2879) r2 h2
        cases r2 with
        | a0 b2990 =>
          rcases ite_eq h with ⟨h3, h⟩ | ⟨h3, h⟩
          · skip
            cases h
            exact ⟨_, round_out (gs := [.t, .a, .t, .an (vb b2990) [], .t]) (notIn []) (by kernel_rfl) rfl (And.intro (decide_eq_true h0) (And.intro (decide_eq_true h1) (And.intro h2 (And.intro h3 True.intro)))) n, z2877, z2878, z2879, z2880, decide (z2879 < 3), b2881, k2882, b2990, !b2990, l2883, rfl⟩
          · skip
            obtain ⟨st, hs, hr⟩ := L9_4_ok m n (z2877) (z2878) (w64 (z2879 + 1)) (z2880) (b2881) (k2882) (l2883) r h
            exact ⟨st, (round_on (gs := [.t, .a, .t, .an (vb b2990) [], .f]) (notIn []) (by kernel_rfl) (And.intro (decide_eq_true h0) (And.intro (decide_eq_true h1) (And.intro h2 (And.intro (Bool.eq_false_iff.mpr h3) True.intro)))) n).trans hs, hr⟩
      · skip
        cases h
    · skip
      cases h
      exact ⟨_, round_out (gs := [.f]) (notIn []) (by kernel_rfl) rfl (And.intro (decide_eq_false h0) True.intro) n, z2878, z2879, decide (z2879 < 3), rfl⟩
inductive R9_2 where
  | e0
  | e1 (z3037 : Int)
@[reducible] def s9_2_0 (z3019 : Int) (z3020 : Int) (z3021 : Int) (z3022 : Int) (b3023 : Bool) (b3024 : Bool) (k3025 : Nat) (b3026 : Bool) (b3027 : Bool) (l3028 : List (List V)) : S := { T := vb false :: i64 z3019 :: V.ptr 0 0 0 :: U :: i64 z3020 :: i64 z3021 :: un 8 (V.hs 1 0 10 :: i64 10 :: i64 z3022 :: U :: U :: U :: i64 z3021 :: vb b3023 :: U :: U :: V.agg [vb b3024, V.hs 2 0 k3025] :: i64 z3020 :: i64 z3021 :: vb b3026 :: vb b3027 :: un 12 []), σ := [Ob.cells true false 2 [[vb b3024, V.hs 2 0 k3025]], Ob.cells true true 1 [[i64 (-9223372036854775808)], [i64 (-1)], [i64 0], [i64 1], [i64 2], [i64 3], [i64 65536], [i64 196608], [i64 67108864], [i64 9223372036854775807]], Ob.cells true true 2 l3028] }
@[reducible] def s9_2_1 (z3037 : Int) (z3038 : Int) (b3039 : Bool) (b3040 : Bool) (k3041 : Nat) (l3042 : List (List V)) : S := { T := U :: i64 z3037 :: V.ptr 0 0 0 :: un 11 (V.hs 1 0 10 :: i64 10 :: i64 z3038 :: vb b3039 :: un 23 []), σ := [Ob.cells true false 2 [[vb b3040, V.hs 2 0 k3041]], Ob.cells true true 1 [[i64 (-9223372036854775808)], [i64 (-1)], [i64 0], [i64 1], [i64 2], [i64 3], [i64 65536], [i64 196608], [i64 67108864], [i64 9223372036854775807]], Ob.cells true true 2 l3042] }
def R9_2.St : R9_2 → VX × S → Prop
  | .e0, p => ∃ z3019 : Int, ∃ z3020 : Int, ∃ z3021 : Int, ∃ z3022 : Int, ∃ b3023 : Bool, ∃ b3024 : Bool, ∃ k3025 : Nat, ∃ b3026 : Bool, ∃ b3027 : Bool, ∃ l3028 : List (List V), p = (VX.ret, s9_2_0 z3019 z3020 z3021 z3022 b3023 b3024 k3025 b3026 b3027 l3028)
  | .e1 z3037, p => ∃ z3038 : Int, ∃ b3039 : Bool, ∃ b3040 : Bool, ∃ k3041 : Nat, ∃ l3042 : List (List V), p = (VX.exit 2, s9_2_1 z3037 z3038 b3039 b3040 k3041 l3042)
def L9_2 : Nat → Int → Int → Bool → Nat → List (List V) → Option R9_2
  | 0, _, _, _, _, _ => none
  | n + 1, z2871, z2872, b2873, k2874, l2875 =>
    if z2872 < 10 then
     if 0 ≤ z2872 ∧ z2872 < 10 then
      (([[i64 (-9223372036854775808 : Int)], [i64 (-1 : Int)], [i64 (0 : Int)], [i64 (1 : Int)], [i64 (2 : Int)], [i64 (3 : Int)], [i64 (65536 : Int)], [i64 (196608 : Int)], [i64 (67108864 : Int)], [i64 (9223372036854775807 : Int)]][(0 : Nat) + Int.toNat z2872]?).bind W2.dec).bind fun e2989 =>
      (L9_4 18446744073709551616 (z2871) (e2989.c0) (-1) (z2872) (b2873) (k2874) (l2875)).bind fun r => match r with
      | .e0 =>
       some (R9_2.e0)
      | .e1 z3029 z3032 b3034 k3035 l3036 =>
       L9_2 n (z3029) (w64 (z3032 + 1)) (b3034) (k3035) (l3036)
     else
      none -- none
    else
     some (R9_2.e1 (z2871))
theorem L9_2_ok (m : Nat) : ∀ (n : Nat) (z2871 : Int) (z2872 : Int) (b2873 : Bool) (k2874 : Nat) (l2875 : List (List V)) (r : R9_2), L9_2 n z2871 z2872 b2873 k2874 l2875 = some r → ∃ st, loopFrom Try.prog X (genO X (call Try.prog X O0 18446744073709551616 (m + 9))) 9 (0) 18446744073709551616 B9 2 n ({ T := U :: i64 z2871 :: V.ptr 0 0 0 :: un 11 (V.hs 1 0 10 :: i64 10 :: i64 z2872 :: un 24 []), σ := [Ob.cells true false 2 [[vb b2873, V.hs 2 0 k2874]], Ob.cells true true 1 [[i64 (-9223372036854775808)], [i64 (-1)], [i64 0], [i64 1], [i64 2], [i64 3], [i64 65536], [i64 196608], [i64 67108864], [i64 9223372036854775807]], Ob.cells true true 2 l2875] }) = some st ∧ r.St st
  | 0, _, _, _, _, _, r, h => by cases h
  | n + 1, z2871, z2872, b2873, k2874, l2875, r, h => by
    rw [L9_2] at h
    rcases ite_eq h with ⟨h0, h⟩ | ⟨h0, h⟩
    · skip
      rcases ite_eq h with ⟨h1, h⟩ | ⟨h1, h⟩
      · skip
        obtain ⟨e2989, h2, h⟩ := Option.bind_eq_some_iff.mp h
        obtain ⟨r3, h3, h⟩ := Option.bind_eq_some_iff.mp h
        obtain ⟨st3, h3, hr3⟩ := L9_4_ok m 18446744073709551616 (z2871) (e2989.c0) (-1) (z2872) (b2873) (k2874) (l2875) r3 h3
        have h3 : loopRun Try.prog X (genO X (call Try.prog X O0 18446744073709551616 (m + 9))) 9 (0) 18446744073709551616 B9 4 ({ T := U :: i64 z2871 :: V.ptr 0 0 0 :: U :: i64 e2989.c0 :: i64 (-1) :: un 8 (V.hs 1 0 10 :: i64 10 :: i64 z2872 :: vb (decide (z2872 < 10)) :: V.ptr 1 (0 + Int.toNat z2872) 0 :: i64 e2989.c0 :: un 21 []), σ := [Ob.cells true false 2 [[vb b2873, V.hs 2 0 k2874]], Ob.cells true true 1 [[i64 (-9223372036854775808)], [i64 (-1)], [i64 0], [i64 1], [i64 2], [i64 3], [i64 65536], [i64 196608], [i64 67108864], [i64 9223372036854775807]], Ob.cells true true 2 l2875] }) = some st3 := by
          rw [loopRun_from, show pre X 9 (0) 4 ({ T := U :: i64 z2871 :: V.ptr 0 0 0 :: U :: i64 e2989.c0 :: i64 (-1) :: un 8 (V.hs 1 0 10 :: i64 10 :: i64 z2872 :: vb (decide (z2872 < 10)) :: V.ptr 1 (0 + Int.toNat z2872) 0 :: i64 e2989.c0 :: un 21 []), σ := [Ob.cells true false 2 [[vb b2873, V.hs 2 0 k2874]], Ob.cells true true 1 [[i64 (-9223372036854775808)], [i64 (-1)], [i64 0], [i64 1], [i64 2], [i64 3], [i64 65536], [i64 196608], [i64 67108864], [i64 9223372036854775807]], Ob.cells true true 2 l2875] }) = { T := U :: i64 z2871 :: V.ptr 0 0 0 :: U :: i64 e2989.c0 :: i64 (-1) :: un 8 (V.hs 1 0 10 :: i64 10 :: i64 z2872 :: un 24 []), σ := [Ob.cells true false 2 [[vb b2873, V.hs 2 0 k2874]], Ob.cells true true 1 [[i64 (-9223372036854775808)], [i64 (-1)], [i64 0], [i64 1], [i64 2], [i64 3], [i64 65536], [i64 196608], [i64 67108864], [i64 9223372036854775807]], Ob.cells true true 2 l2875] } by kernel_rfl]
          exact h3
        cases r3 with
        | e0 =>
          obtain ⟨z3009, z3010, z3011, z3012, b3013, b3014, k3015, b3016, b3017, l3018, rfl⟩ := hr3
          cases h
          exact ⟨_, round_out (gs := [.t, .t, .el (W2.cells e2989), .lp (VX.ret) (s9_4_0 z3009 z3010 z3011 z3012 b3013 b3014 k3015 b3016 b3017 l3018)]) (notIn []) (by kernel_rfl) rfl (And.intro (decide_eq_true h0) (And.intro (decide_eq_true h1) (And.intro (W2.dec_ok h2) (And.intro h3 True.intro)))) n, z3009, z3010, z3011, z3012, b3013, b3014, k3015, b3016, b3017, l3018, rfl⟩
        | e1 z3029 z3032 b3034 k3035 l3036 =>
          obtain ⟨z3030, z3031, b3033, rfl⟩ := hr3
          obtain ⟨st, hs, hr⟩ := L9_2_ok m n (z3029) (w64 (z3032 + 1)) (b3034) (k3035) (l3036) r h
          exact ⟨st, (round_on (gs := [.t, .t, .el (W2.cells e2989), .lp (VX.exit 4) (s9_4_1 z3029 z3030 z3031 z3032 b3033 b3034 k3035 l3036)]) (notIn []) (by kernel_rfl) (And.intro (decide_eq_true h0) (And.intro (decide_eq_true h1) (And.intro (W2.dec_ok h2) (And.intro h3 True.intro)))) n).trans hs, hr⟩
      · skip
        cases h
    · skip
      cases h
      exact ⟨_, round_out (gs := [.f]) (notIn []) (by kernel_rfl) rfl (And.intro (decide_eq_false h0) True.intro) n, z2872, decide (z2872 < 10), b2873, k2874, l2875, rfl⟩
inductive R9_0 where
  | e0
  | e1
@[reducible] def s9_0_0 (z3053 : Int) (z3054 : Int) (z3055 : Int) (z3056 : Int) (b3057 : Bool) (b3058 : Bool) (k3059 : Nat) (b3060 : Bool) (b3061 : Bool) (l3062 : List (List V)) : S := { T := vb false :: i64 z3053 :: V.ptr 0 0 0 :: U :: i64 z3054 :: i64 z3055 :: un 8 (V.hs 1 0 10 :: i64 10 :: i64 z3056 :: U :: U :: U :: i64 z3055 :: vb b3057 :: U :: U :: V.agg [vb b3058, V.hs 2 0 k3059] :: i64 z3054 :: i64 z3055 :: vb b3060 :: vb b3061 :: un 12 []), σ := [Ob.cells true false 2 [[vb b3058, V.hs 2 0 k3059]], Ob.cells true true 1 [[i64 (-9223372036854775808)], [i64 (-1)], [i64 0], [i64 1], [i64 2], [i64 3], [i64 65536], [i64 196608], [i64 67108864], [i64 9223372036854775807]], Ob.cells true true 2 l3062] }
@[reducible] def s9_0_1 (z3069 : Int) (b3070 : Bool) : S := { T := U :: i64 z3069 :: un 5 (i64 z3069 :: vb b3070 :: un 32 []), σ := [] }
def R9_0.St : R9_0 → VX × S → Prop
  | .e0, p => ∃ z3053 : Int, ∃ z3054 : Int, ∃ z3055 : Int, ∃ z3056 : Int, ∃ b3057 : Bool, ∃ b3058 : Bool, ∃ k3059 : Nat, ∃ b3060 : Bool, ∃ b3061 : Bool, ∃ l3062 : List (List V), p = (VX.ret, s9_0_0 z3053 z3054 z3055 z3056 b3057 b3058 k3059 b3060 b3061 l3062)
  | .e1, p => ∃ z3069 : Int, ∃ b3070 : Bool, p = (VX.exit 0, s9_0_1 z3069 b3070)
def L9_0 : Nat → Int → Option R9_0
  | 0, _ => none
  | n + 1, z2852 =>
    if z2852 < 40 then
     (F26 (z2852)).bind fun r => match r with
     | .a0 k2980 z2981 l2982 =>
      (F15v1 (k2980) (z2981) (l2982)).bind fun r => match r with
      | .a0 b2983 k2984 k2985 z2986 l2987 l2988 =>
       (L9_2 18446744073709551616 (z2852) (0) (b2983) (k2984) (l2988)).bind fun r => match r with
       | .e0 =>
        some (R9_0.e0)
       | .e1 z3063 =>
        L9_0 n (w64 (z3063 + 1))
    else
     some (R9_0.e1)
theorem L9_0_ok (m : Nat) : ∀ (n : Nat) (z2852 : Int) (r : R9_0), L9_0 n z2852 = some r → ∃ st, loopFrom Try.prog X (genO X (call Try.prog X O0 18446744073709551616 (m + 9))) 9 (0) 18446744073709551616 B9 0 n ({ T := U :: i64 z2852 :: un 39 [], σ := [] }) = some st ∧ r.St st
  | 0, _, r, h => by cases h
  | n + 1, z2852, r, h => by
    rw [L9_0] at h
    rcases ite_eq h with ⟨h0, h⟩ | ⟨h0, h⟩
    · skip
      obtain ⟨r1, h1, h⟩ := Option.bind_eq_some_iff.mp h
      have h1 := F26_ok (m + 8) (z2852) r1 h1
      cases r1 with
      | a0 k2980 z2981 l2982 =>
        obtain ⟨r2, h2, h⟩ := Option.bind_eq_some_iff.mp h
        have h2 := F15v1_ok (m + 5) (k2980) (z2981) (l2982) r2 h2
        cases r2 with
        | a0 b2983 k2984 k2985 z2986 l2987 l2988 =>
          obtain ⟨r3, h3, h⟩ := Option.bind_eq_some_iff.mp h
          obtain ⟨st3, h3, hr3⟩ := L9_2_ok m 18446744073709551616 (z2852) (0) (b2983) (k2984) (l2988) r3 h3
          have h3 : loopRun Try.prog X (genO X (call Try.prog X O0 18446744073709551616 (m + 9))) 9 (0) 18446744073709551616 B9 2 ({ T := U :: i64 z2852 :: V.ptr 6 0 0 :: un 4 (i64 z2852 :: vb (decide (z2852 < 40)) :: U :: U :: i64 z2852 :: V.ptr 0 0 0 :: V.agg [vb b2983, V.hs 5 0 k2984] :: V.hs 7 0 10 :: i64 10 :: i64 0 :: un 24 []), σ := [Ob.cells true false 2 [[V.hs 1 0 k2985, i64 z2986]], Ob.cells true true 1 l2987, Ob.vir, Ob.vir, Ob.vir, Ob.cells true true 2 l2988, Ob.cells true false 2 [[vb b2983, V.hs 5 0 k2984]], Ob.cells true true 1 [[i64 (-9223372036854775808)], [i64 (-1)], [i64 0], [i64 1], [i64 2], [i64 3], [i64 65536], [i64 196608], [i64 67108864], [i64 9223372036854775807]]] }) = some st3 := by
            rw [loopRun_from, show pre X 9 (0) 2 ({ T := U :: i64 z2852 :: V.ptr 6 0 0 :: un 4 (i64 z2852 :: vb (decide (z2852 < 40)) :: U :: U :: i64 z2852 :: V.ptr 0 0 0 :: V.agg [vb b2983, V.hs 5 0 k2984] :: V.hs 7 0 10 :: i64 10 :: i64 0 :: un 24 []), σ := [Ob.cells true false 2 [[V.hs 1 0 k2985, i64 z2986]], Ob.cells true true 1 l2987, Ob.vir, Ob.vir, Ob.vir, Ob.cells true true 2 l2988, Ob.cells true false 2 [[vb b2983, V.hs 5 0 k2984]], Ob.cells true true 1 [[i64 (-9223372036854775808)], [i64 (-1)], [i64 0], [i64 1], [i64 2], [i64 3], [i64 65536], [i64 196608], [i64 67108864], [i64 9223372036854775807]]] }) = { T := U :: i64 z2852 :: V.ptr 0 0 0 :: un 11 (V.hs 1 0 10 :: i64 10 :: i64 0 :: un 24 []), σ := [Ob.cells true false 2 [[vb b2983, V.hs 2 0 k2984]], Ob.cells true true 1 [[i64 (-9223372036854775808)], [i64 (-1)], [i64 0], [i64 1], [i64 2], [i64 3], [i64 65536], [i64 196608], [i64 67108864], [i64 9223372036854775807]], Ob.cells true true 2 l2988] } by kernel_rfl]
            exact h3
          cases r3 with
          | e0 =>
            obtain ⟨z3043, z3044, z3045, z3046, b3047, b3048, k3049, b3050, b3051, l3052, rfl⟩ := hr3
            cases h
            exact ⟨_, round_out (gs := [.t, .an (V.ptr 0 0 0) [Ob.cells true false 2 [[V.hs 1 0 k2980, i64 z2981]], Ob.cells true true 1 l2982], .an (V.agg [vb b2983, V.hs 2 0 k2984]) [Ob.cells true false 2 [[V.hs 1 0 k2985, i64 z2986]], Ob.cells true true 1 l2987, Ob.cells true true 2 l2988], .a, .lp (VX.ret) (s9_2_0 z3043 z3044 z3045 z3046 b3047 b3048 k3049 b3050 b3051 l3052)]) (notIn []) (by kernel_rfl) rfl (And.intro (decide_eq_true h0) (And.intro h1 (And.intro h2 (And.intro h3 True.intro)))) n, z3043, z3044, z3045, z3046, b3047, b3048, k3049, b3050, b3051, l3052, rfl⟩
          | e1 z3063 =>
            obtain ⟨z3064, b3065, b3066, k3067, l3068, rfl⟩ := hr3
            obtain ⟨st, hs, hr⟩ := L9_0_ok m n (w64 (z3063 + 1)) r h
            exact ⟨st, (round_on (gs := [.t, .an (V.ptr 0 0 0) [Ob.cells true false 2 [[V.hs 1 0 k2980, i64 z2981]], Ob.cells true true 1 l2982], .an (V.agg [vb b2983, V.hs 2 0 k2984]) [Ob.cells true false 2 [[V.hs 1 0 k2985, i64 z2986]], Ob.cells true true 1 l2987, Ob.cells true true 2 l2988], .a, .lp (VX.exit 2) (s9_2_1 z3063 z3064 b3065 b3066 k3067 l3068)]) (notIn []) (by kernel_rfl) (And.intro (decide_eq_true h0) (And.intro h1 (And.intro h2 (And.intro h3 True.intro)))) n).trans hs, hr⟩
    · skip
      cases h
      exact ⟨_, round_out (gs := [.f]) (notIn []) (by kernel_rfl) rfl (And.intro (decide_eq_false h0) True.intro) n, z2852, decide (z2852 < 40), rfl⟩
inductive A9 where
  | a0 (b3085 : Bool)
@[reducible] def A9.out : A9 → V × Store
  | .a0 b3085 => (vb b3085, [])
def F9 : Option A9 :=
  (L9_0 18446744073709551616 (0)).bind fun r => match r with
  | .e0 =>
   none -- false
  | .e1 =>
   (F27 (true) ([[i64 9223372036854775807, i64 (-9223372036854775808)], [i64 (-9223372036854775808), i64 0], [i64 536870912, i64 536870912], [i64 (-536870912), i64 1152921504606846976]]) (67108864) (1)).bind fun r => match r with
   | .a0 b3083 =>
    if (b3083) = true then
     (F20).bind fun r => match r with
     | .a0 b3084 =>
      some (A9.a0 (b3084))
    else
     none -- false
theorem F9_ok (m : Nat) (r : A9) (h : F9 = some r) : call Try.prog X O0 18446744073709551616 (m + 10) 9 ([]) ([]) = some r.out := by
  unfold F9 at h
  obtain ⟨r0, h0, h⟩ := Option.bind_eq_some_iff.mp h
  obtain ⟨st0, h0, hr0⟩ := L9_0_ok m 18446744073709551616 (0) r0 h0
  have h0 : loopRun Try.prog X (genO X (call Try.prog X O0 18446744073709551616 (m + 9))) 9 (0) 18446744073709551616 B9 0 ({ T := vb false :: i64 0 :: un 39 [], σ := [] }) = some st0 := by
    rw [loopRun_from, show pre X 9 (0) 0 ({ T := vb false :: i64 0 :: un 39 [], σ := [] }) = { T := U :: i64 0 :: un 39 [], σ := [] } by kernel_rfl]
    exact h0
  cases r0 with
  | e0 =>
    obtain ⟨z3071, z3072, z3073, z3074, b3075, b3076, k3077, b3078, b3079, l3080, rfl⟩ := hr0
    cases h
  | e1 =>
    obtain ⟨z3081, b3082, rfl⟩ := hr0
    obtain ⟨r1, h1, h⟩ := Option.bind_eq_some_iff.mp h
    have h1 := F27_ok (m + 0) (true) ([[i64 9223372036854775807, i64 (-9223372036854775808)], [i64 (-9223372036854775808), i64 0], [i64 536870912, i64 536870912], [i64 (-536870912), i64 1152921504606846976]]) (67108864) (1) r1 h1
    cases r1 with
    | a0 b3083 =>
      rcases ite_eq h with ⟨h2, h⟩ | ⟨h2, h⟩
      · skip
        obtain ⟨r3, h3, h⟩ := Option.bind_eq_some_iff.mp h
        have h3 := F20_ok (m + 0) r3 h3
        cases r3 with
        | a0 b3084 =>
          cases h
          exact call_pathL (gs := [.lp (VX.exit 0) (s9_0_1 z3081 b3082), .a, .a, .a, .an (vb b3083) [], .t, .an (vb b3084) [], .t]) (notIn []) rfl rfl (by kernel_rfl) (And.intro h0 (And.intro h1 (And.intro h2 (And.intro h3 (And.intro h2 True.intro)))))
      · skip
        cases h

end Go.Proofs.Ytojigbcgmneiiaa.H
