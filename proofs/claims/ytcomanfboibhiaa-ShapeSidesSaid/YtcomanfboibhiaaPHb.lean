/- What the functions compute, and that they do so over the machine of plain values (printed by this session's program wip/vm/Walk.lean). No condition beyond those stated. -/
import Derived.Test.YtcomanfboibhiaaWk
import Derived.Test.YtcomanfboibhiaaPHa
set_option linter.unusedVariables false
set_option linter.unusedSimpArgs false
namespace Go.Proofs.Ytcomanfboibhiaa.H
open Go Go.VM
set_option maxRecDepth 100000
/-! ## 57 -/
noncomputable abbrev B57 : Code := (Try.f57.body).getD .skip
inductive R57_0 where
  | e0
  | e1
  | e2
  | e3 (l1012 : List (List V))
@[reducible] def s57_0_0 (l967 : List (List V)) (z968 : Int) (z969 : Int) (z970 : Int) (b971 : Bool) (z972 : Int) (z973 : Int) (z974 : Int) (z975 : Int) (z976 : Int) (z977 : Int) (z978 : Int) (b979 : Bool) (b980 : Bool) : S := { T := V.list 7 l967 :: U :: vb false :: i64 z968 :: i64 z969 :: V.ptr 0 0 0 :: V.list 7 l967 :: i64 z970 :: i64 z969 :: vb b971 :: i64 z969 :: V.pp [i64 z972, i64 z973, i64 z974, i64 z975, i64 z976, i64 z977, i64 z978] :: V.agg [i64 z972, i64 z973, i64 z974, i64 z975, i64 z976, i64 z977, i64 z978] :: i64 z969 :: i64 z968 :: V.ptr 0 0 0 :: i64 z972 :: V.ptr 0 0 2 :: i64 z974 :: V.ptr 0 0 3 :: V.agg [i64 z975, i64 z976, i64 z977, i64 z978] :: vb b979 :: vb b980 :: vb b980 :: E :: E :: E :: vb true :: vb true :: E :: E :: E :: vb true :: un 6 [], σ := [Ob.cells true false 7 [[i64 z972, i64 z973, i64 z974, i64 z975, i64 z976, i64 z977, i64 z978]]] }
@[reducible] def s57_0_1 (l981 : List (List V)) (z982 : Int) (z983 : Int) (z984 : Int) (b985 : Bool) (z986 : Int) (z987 : Int) (z988 : Int) (z989 : Int) (z990 : Int) (z991 : Int) (z992 : Int) (b993 : Bool) (b994 : Bool) (b995 : Bool) : S := { T := V.list 7 l981 :: U :: vb false :: i64 z982 :: i64 z983 :: V.ptr 0 0 0 :: V.list 7 l981 :: i64 z984 :: i64 z983 :: vb b985 :: i64 z983 :: V.pp [i64 z986, i64 z987, i64 z988, i64 z989, i64 z990, i64 z991, i64 z992] :: V.agg [i64 z986, i64 z987, i64 z988, i64 z989, i64 z990, i64 z991, i64 z992] :: i64 z983 :: i64 z982 :: V.ptr 0 0 0 :: i64 z986 :: V.ptr 0 0 2 :: i64 z988 :: V.ptr 0 0 3 :: V.agg [i64 z989, i64 z990, i64 z991, i64 z992] :: vb b993 :: vb b994 :: vb b994 :: V.ptr 0 0 1 :: i64 z987 :: vb b995 :: vb b995 :: vb b995 :: E :: E :: E :: vb true :: un 6 [], σ := [Ob.cells true false 7 [[i64 z986, i64 z987, i64 z988, i64 z989, i64 z990, i64 z991, i64 z992]]] }
@[reducible] def s57_0_2 (l996 : List (List V)) (z997 : Int) (z998 : Int) (z999 : Int) (b1000 : Bool) (z1001 : Int) (z1002 : Int) (z1003 : Int) (z1004 : Int) (z1005 : Int) (z1006 : Int) (z1007 : Int) (b1008 : Bool) (b1009 : Bool) (b1010 : Bool) (b1011 : Bool) : S := { T := V.list 7 l996 :: U :: vb false :: i64 z997 :: i64 z998 :: V.ptr 0 0 0 :: V.list 7 l996 :: i64 z999 :: i64 z998 :: vb b1000 :: i64 z998 :: V.pp [i64 z1001, i64 z1002, i64 z1003, i64 z1004, i64 z1005, i64 z1006, i64 z1007] :: V.agg [i64 z1001, i64 z1002, i64 z1003, i64 z1004, i64 z1005, i64 z1006, i64 z1007] :: i64 z998 :: i64 z997 :: V.ptr 0 0 0 :: i64 z1001 :: V.ptr 0 0 2 :: i64 z1003 :: V.ptr 0 0 3 :: V.agg [i64 z1004, i64 z1005, i64 z1006, i64 z1007] :: vb b1008 :: vb b1009 :: vb b1009 :: V.ptr 0 0 1 :: i64 z1002 :: vb b1010 :: vb b1010 :: vb b1010 :: V.ptr 0 0 1 :: i64 z1002 :: vb b1011 :: vb b1011 :: un 6 [], σ := [Ob.cells true false 7 [[i64 z1001, i64 z1002, i64 z1003, i64 z1004, i64 z1005, i64 z1006, i64 z1007]]] }
@[reducible] def s57_0_3 (l1012 : List (List V)) (z1013 : Int) (z1014 : Int) (z1015 : Int) (b1016 : Bool) : S := { T := V.list 7 l1012 :: U :: U :: i64 z1013 :: U :: U :: V.list 7 l1012 :: i64 z1014 :: i64 z1015 :: vb b1016 :: un 29 [], σ := [] }
def R57_0.St : R57_0 → VX × S → Prop
  | .e0, p => ∃ l967 : List (List V), ∃ z968 : Int, ∃ z969 : Int, ∃ z970 : Int, ∃ b971 : Bool, ∃ z972 : Int, ∃ z973 : Int, ∃ z974 : Int, ∃ z975 : Int, ∃ z976 : Int, ∃ z977 : Int, ∃ z978 : Int, ∃ b979 : Bool, ∃ b980 : Bool, p = (VX.ret, s57_0_0 l967 z968 z969 z970 b971 z972 z973 z974 z975 z976 z977 z978 b979 b980)
  | .e1, p => ∃ l981 : List (List V), ∃ z982 : Int, ∃ z983 : Int, ∃ z984 : Int, ∃ b985 : Bool, ∃ z986 : Int, ∃ z987 : Int, ∃ z988 : Int, ∃ z989 : Int, ∃ z990 : Int, ∃ z991 : Int, ∃ z992 : Int, ∃ b993 : Bool, ∃ b994 : Bool, ∃ b995 : Bool, p = (VX.ret, s57_0_1 l981 z982 z983 z984 b985 z986 z987 z988 z989 z990 z991 z992 b993 b994 b995)
  | .e2, p => ∃ l996 : List (List V), ∃ z997 : Int, ∃ z998 : Int, ∃ z999 : Int, ∃ b1000 : Bool, ∃ z1001 : Int, ∃ z1002 : Int, ∃ z1003 : Int, ∃ z1004 : Int, ∃ z1005 : Int, ∃ z1006 : Int, ∃ z1007 : Int, ∃ b1008 : Bool, ∃ b1009 : Bool, ∃ b1010 : Bool, ∃ b1011 : Bool, p = (VX.ret, s57_0_2 l996 z997 z998 z999 b1000 z1001 z1002 z1003 z1004 z1005 z1006 z1007 b1008 b1009 b1010 b1011)
  | .e3 l1012, p => ∃ z1013 : Int, ∃ z1014 : Int, ∃ z1015 : Int, ∃ b1016 : Bool, p = (VX.exit 0, s57_0_3 l1012 z1013 z1014 z1015 b1016)
def L57_0 : Nat → List (List V) → Int → Int → Int → Option R57_0
  | 0, _, _, _, _ => none
  | n + 1, l915, z916, z917, z918 =>
    if z918 < z917 then
     if 0 ≤ z918 then
      ((l915[Int.toNat z918]?).bind W68.dec).bind fun e965 =>
      bnd (F36 (z918) (z916) (e965.c0) (e965.c2) (e965.c3) (e965.c4) (e965.c5) (e965.c6)) fun b966 =>
      if (!b966) = true then
       some (R57_0.e0)
      else
       if e965.c1 < -67108864 then
        some (R57_0.e1)
       else
        if e965.c1 > 67108864 then
         some (R57_0.e2)
        else
         L57_0 n (l915) (e965.c0) (z917) (w64 (z918 + 1))
     else
      none -- none
    else
     some (R57_0.e3 (l915))
theorem L57_0_ok (m : Nat) : ∀ (n : Nat) (l915 : List (List V)) (z916 : Int) (z917 : Int) (z918 : Int) (r : R57_0), L57_0 n l915 z916 z917 z918 = some r → ∃ st, loopFrom Try.prog X (genO X (call Try.prog X O0 18446744073709551616 (m + 3))) 57 (0) 18446744073709551616 B57 0 n ({ T := V.list 7 l915 :: U :: U :: i64 z916 :: U :: U :: V.list 7 l915 :: i64 z917 :: i64 z918 :: un 30 [], σ := [] }) = some st ∧ r.St st
  | 0, _, _, _, _, r, h => by cases h
  | n + 1, l915, z916, z917, z918, r, h => by
    rw [L57_0] at h
    rcases ite_eq h with ⟨h0, h⟩ | ⟨h0, h⟩
    · skip
      rcases ite_eq h with ⟨h1, h⟩ | ⟨h1, h⟩
      · skip
        obtain ⟨e965, h2, h⟩ := Option.bind_eq_some_iff.mp h
        obtain ⟨b966, h3, h⟩ := bnd_eq h
        rcases ite_eq h with ⟨h4, h⟩ | ⟨h4, h⟩
        · skip
          cases h
          exact ⟨_, round_out (gs := [.t, .t, .el (W68.cells e965), .a, .a, .a, .a, .an (vb b966) [], .t, .t, .t, .t, .a, .a, .a, .a, .a]) (notIn []) (by kernel_rfl) rfl (And.intro (decide_eq_true h0) (And.intro (decide_eq_true h1) (And.intro (W68.dec_ok h2) (And.intro (F36_ok (m + 0) (z918) (z916) (e965.c0) (e965.c2) (e965.c3) (e965.c4) (e965.c5) (e965.c6) b966 h3) (And.intro h4 (And.intro h4 (And.intro h4 (And.intro h4 True.intro)))))))) n, l915, z916, z918, z917, decide (z918 < z917), e965.c0, e965.c1, e965.c2, e965.c3, e965.c4, e965.c5, e965.c6, b966, !b966, rfl⟩
        · skip
          rcases ite_eq h with ⟨h5, h⟩ | ⟨h5, h⟩
          · skip
            cases h
            exact ⟨_, round_out (gs := [.t, .t, .el (W68.cells e965), .a, .a, .a, .a, .an (vb b966) [], .f, .f, .a, .f, .f, .t, .t, .t, .t, .a]) (notIn []) (by kernel_rfl) rfl (And.intro (decide_eq_true h0) (And.intro (decide_eq_true h1) (And.intro (W68.dec_ok h2) (And.intro (F36_ok (m + 0) (z918) (z916) (e965.c0) (e965.c2) (e965.c3) (e965.c4) (e965.c5) (e965.c6) b966 h3) (And.intro (Bool.eq_false_iff.mpr h4) (And.intro (Bool.eq_false_iff.mpr h4) (And.intro (Bool.eq_false_iff.mpr h4) (And.intro (Bool.eq_false_iff.mpr h4) (And.intro (decide_eq_true h5) (And.intro (decide_eq_true h5) (And.intro (decide_eq_true h5) (And.intro (decide_eq_true h5) True.intro)))))))))))) n, l915, z916, z918, z917, decide (z918 < z917), e965.c0, e965.c1, e965.c2, e965.c3, e965.c4, e965.c5, e965.c6, b966, !b966, decide (e965.c1 < -67108864), rfl⟩
          · skip
            rcases ite_eq h with ⟨h6, h⟩ | ⟨h6, h⟩
            · skip
              cases h
              exact ⟨_, round_out (gs := [.t, .t, .el (W68.cells e965), .a, .a, .a, .a, .an (vb b966) [], .f, .f, .a, .f, .f, .f, .f, .a, .f, .f, .t]) (notIn []) (by kernel_rfl) rfl (And.intro (decide_eq_true h0) (And.intro (decide_eq_true h1) (And.intro (W68.dec_ok h2) (And.intro (F36_ok (m + 0) (z918) (z916) (e965.c0) (e965.c2) (e965.c3) (e965.c4) (e965.c5) (e965.c6) b966 h3) (And.intro (Bool.eq_false_iff.mpr h4) (And.intro (Bool.eq_false_iff.mpr h4) (And.intro (Bool.eq_false_iff.mpr h4) (And.intro (Bool.eq_false_iff.mpr h4) (And.intro (decide_eq_false h5) (And.intro (decide_eq_false h5) (And.intro (decide_eq_false h5) (And.intro (decide_eq_false h5) (And.intro (decide_eq_true h6) True.intro))))))))))))) n, l915, z916, z918, z917, decide (z918 < z917), e965.c0, e965.c1, e965.c2, e965.c3, e965.c4, e965.c5, e965.c6, b966, !b966, decide (e965.c1 < -67108864), decide (e965.c1 > 67108864), rfl⟩
            · skip
              obtain ⟨st, hs, hr⟩ := L57_0_ok m n (l915) (e965.c0) (z917) (w64 (z918 + 1)) r h
              exact ⟨st, (round_on (gs := [.t, .t, .el (W68.cells e965), .a, .a, .a, .a, .an (vb b966) [], .f, .f, .a, .f, .f, .f, .f, .a, .f, .f, .f, .a]) (notIn []) (by kernel_rfl) (And.intro (decide_eq_true h0) (And.intro (decide_eq_true h1) (And.intro (W68.dec_ok h2) (And.intro (F36_ok (m + 0) (z918) (z916) (e965.c0) (e965.c2) (e965.c3) (e965.c4) (e965.c5) (e965.c6) b966 h3) (And.intro (Bool.eq_false_iff.mpr h4) (And.intro (Bool.eq_false_iff.mpr h4) (And.intro (Bool.eq_false_iff.mpr h4) (And.intro (Bool.eq_false_iff.mpr h4) (And.intro (decide_eq_false h5) (And.intro (decide_eq_false h5) (And.intro (decide_eq_false h5) (And.intro (decide_eq_false h5) (And.intro (decide_eq_false h6) True.intro))))))))))))) n).trans hs, hr⟩
      · skip
        cases h
    · skip
      cases h
      exact ⟨_, round_out (gs := [.f]) (notIn []) (by kernel_rfl) rfl (And.intro (decide_eq_false h0) True.intro) n, z916, z917, z918, decide (z918 < z917), rfl⟩
inductive A57 where
  | a0 (b1031 : Bool)
@[reducible] def A57.out : A57 → V × Store
  | .a0 b1031 => (vb b1031, [])
def F57 (l870 : List (List V)) : Option A57 :=
  (L57_0 18446744073709551616 (l870) (0) ((↑(List.length l870) : Int)) (0)).bind fun r => match r with
  | .e0 =>
   some (A57.a0 (false))
  | .e1 =>
   some (A57.a0 (false))
  | .e2 =>
   some (A57.a0 (false))
  | .e3 l1063 =>
   some (A57.a0 (decide ((↑(List.length l1063) : Int) ≤ 32)))
theorem F57_ok (m : Nat) (l870 : List (List V)) (r : A57) (h : F57 l870 = some r) : call Try.prog X O0 18446744073709551616 (m + 4) 57 ([V.list 7 l870]) ([]) = some r.out := by
  unfold F57 at h
  obtain ⟨r0, h0, h⟩ := Option.bind_eq_some_iff.mp h
  obtain ⟨st0, h0, hr0⟩ := L57_0_ok m 18446744073709551616 (l870) (0) ((↑(List.length l870) : Int)) (0) r0 h0
  have h0 : loopRun Try.prog X (genO X (call Try.prog X O0 18446744073709551616 (m + 3))) 57 (0) 18446744073709551616 B57 0 ({ T := V.list 7 l870 :: U :: vb false :: i64 0 :: U :: U :: V.list 7 l870 :: i64 (↑(List.length l870) : Int) :: i64 0 :: un 30 [], σ := [] }) = some st0 := by
    rw [loopRun_from, show pre X 57 (0) 0 ({ T := V.list 7 l870 :: U :: vb false :: i64 0 :: U :: U :: V.list 7 l870 :: i64 (↑(List.length l870) : Int) :: i64 0 :: un 30 [], σ := [] }) = { T := V.list 7 l870 :: U :: U :: i64 0 :: U :: U :: V.list 7 l870 :: i64 (↑(List.length l870) : Int) :: i64 0 :: un 30 [], σ := [] } by kernel_rfl]
    exact h0
  cases r0 with
  | e0 =>
    obtain ⟨l1017, z1018, z1019, z1020, b1021, z1022, z1023, z1024, z1025, z1026, z1027, z1028, b1029, b1030, rfl⟩ := hr0
    cases h
    exact call_pathL (gs := [.lp (VX.ret) (s57_0_0 l1017 z1018 z1019 z1020 b1021 z1022 z1023 z1024 z1025 z1026 z1027 z1028 b1029 b1030)]) (notIn []) rfl rfl (by kernel_rfl) (And.intro h0 True.intro)
  | e1 =>
    obtain ⟨l1032, z1033, z1034, z1035, b1036, z1037, z1038, z1039, z1040, z1041, z1042, z1043, b1044, b1045, b1046, rfl⟩ := hr0
    cases h
    exact call_pathL (gs := [.lp (VX.ret) (s57_0_1 l1032 z1033 z1034 z1035 b1036 z1037 z1038 z1039 z1040 z1041 z1042 z1043 b1044 b1045 b1046)]) (notIn []) rfl rfl (by kernel_rfl) (And.intro h0 True.intro)
  | e2 =>
    obtain ⟨l1047, z1048, z1049, z1050, b1051, z1052, z1053, z1054, z1055, z1056, z1057, z1058, b1059, b1060, b1061, b1062, rfl⟩ := hr0
    cases h
    exact call_pathL (gs := [.lp (VX.ret) (s57_0_2 l1047 z1048 z1049 z1050 b1051 z1052 z1053 z1054 z1055 z1056 z1057 z1058 b1059 b1060 b1061 b1062)]) (notIn []) rfl rfl (by kernel_rfl) (And.intro h0 True.intro)
  | e3 l1063 =>
    obtain ⟨z1064, z1065, z1066, b1067, rfl⟩ := hr0
    cases h
    exact call_pathL (gs := [.lp (VX.exit 0) (s57_0_3 l1063 z1064 z1065 z1066 b1067)]) (notIn []) rfl rfl (by kernel_rfl) (And.intro h0 True.intro)
/-! ## 55 -/
inductive A55 where
  | a0 (b440 : Bool)
@[reducible] def A55.out : A55 → V × Store
  | .a0 b440 => (vb b440, [])
def F55 (z407 : Int) (z408 : Int) (l409 : List (List V)) (l410 : List (List V)) (l411 : List (List V)) (b412 : Bool) (z413 : Int) (z414 : Int) (z415 : Int) (z416 : Int) (z417 : Int) (z418 : Int) (z419 : Int) (z420 : Int) (z421 : Int) (z422 : Int) (z423 : Int) (z424 : Int) (z425 : Int) (z426 : Int) (z427 : Int) (l428 : List (List V)) (b429 : Bool) (l430 : List (List V)) (z431 : Int) (z432 : Int) (z433 : Int) (z434 : Int) (z435 : Int) (l436 : List (List V)) (l437 : List (List V)) (l438 : List (List V)) : Option A55 :=
  if z407 < 0 then
   some (A55.a0 (false))
  else
   if z407 > 3 then
    some (A55.a0 (false))
   else
    if (z407 == 2) = true then
     if z408 < 2 then
      some (A55.a0 (false))
     else
      if z408 > 16 then
       some (A55.a0 (false))
      else
       if (z407 != 2) = true then
        if (z408 != 0) = true then
         some (A55.a0 (false))
        else
         if (z407 == 3) = true then
          if ((↑(List.length l409) : Int) == 0) = true then
           if ((↑(List.length l410) : Int) == 0) = true then
            (F80 (l411)).bind fun r => match r with
            | .a0 b869 =>
             some (A55.a0 (b869))
           else
            some (A55.a0 (false))
          else
           some (A55.a0 (false))
         else
          if ((↑(List.length l411) : Int) == 0) = true then
           (F57 (l409)).bind fun r => match r with
           | .a0 b1068 =>
            if (b1068) = true then
             (F57 (l410)).bind fun r => match r with
             | .a0 b1069 =>
              some (A55.a0 (b1069))
            else
             some (A55.a0 (false))
          else
           some (A55.a0 (false))
       else
        if (z407 == 3) = true then
         if ((↑(List.length l409) : Int) == 0) = true then
          if ((↑(List.length l410) : Int) == 0) = true then
           (F80 (l411)).bind fun r => match r with
           | .a0 b1070 =>
            some (A55.a0 (b1070))
          else
           some (A55.a0 (false))
         else
          some (A55.a0 (false))
        else
         if ((↑(List.length l411) : Int) == 0) = true then
          (F57 (l409)).bind fun r => match r with
          | .a0 b1071 =>
           if (b1071) = true then
            (F57 (l410)).bind fun r => match r with
            | .a0 b1072 =>
             some (A55.a0 (b1072))
           else
            some (A55.a0 (false))
         else
          some (A55.a0 (false))
    else
     if (z407 != 2) = true then
      if (z408 != 0) = true then
       some (A55.a0 (false))
      else
       if (z407 == 3) = true then
        if ((↑(List.length l409) : Int) == 0) = true then
         if ((↑(List.length l410) : Int) == 0) = true then
          (F80 (l411)).bind fun r => match r with
          | .a0 b1073 =>
           some (A55.a0 (b1073))
         else
          some (A55.a0 (false))
        else
         some (A55.a0 (false))
       else
        if ((↑(List.length l411) : Int) == 0) = true then
         (F57 (l409)).bind fun r => match r with
         | .a0 b1074 =>
          if (b1074) = true then
           (F57 (l410)).bind fun r => match r with
           | .a0 b1075 =>
            some (A55.a0 (b1075))
          else
           some (A55.a0 (false))
        else
         some (A55.a0 (false))
     else
      if (z407 == 3) = true then
       if ((↑(List.length l409) : Int) == 0) = true then
        if ((↑(List.length l410) : Int) == 0) = true then
         (F80 (l411)).bind fun r => match r with
         | .a0 b1076 =>
          some (A55.a0 (b1076))
        else
         some (A55.a0 (false))
       else
        some (A55.a0 (false))
      else
       if ((↑(List.length l411) : Int) == 0) = true then
        (F57 (l409)).bind fun r => match r with
        | .a0 b1077 =>
         if (b1077) = true then
          (F57 (l410)).bind fun r => match r with
          | .a0 b1078 =>
           some (A55.a0 (b1078))
         else
          some (A55.a0 (false))
       else
        some (A55.a0 (false))
theorem F55_ok (m : Nat) (z407 : Int) (z408 : Int) (l409 : List (List V)) (l410 : List (List V)) (l411 : List (List V)) (b412 : Bool) (z413 : Int) (z414 : Int) (z415 : Int) (z416 : Int) (z417 : Int) (z418 : Int) (z419 : Int) (z420 : Int) (z421 : Int) (z422 : Int) (z423 : Int) (z424 : Int) (z425 : Int) (z426 : Int) (z427 : Int) (l428 : List (List V)) (b429 : Bool) (l430 : List (List V)) (z431 : Int) (z432 : Int) (z433 : Int) (z434 : Int) (z435 : Int) (l436 : List (List V)) (l437 : List (List V)) (l438 : List (List V)) (r : A55) (h : F55 z407 z408 l409 l410 l411 b412 z413 z414 z415 z416 z417 z418 z419 z420 z421 z422 z423 z424 z425 z426 z427 l428 b429 l430 z431 z432 z433 z434 z435 l436 l437 l438 = some r) : call Try.prog X O0 18446744073709551616 (m + 7) 55 ([V.agg [i64 z407, i64 z408, V.list 7 l409, V.list 7 l410, V.list 8 l411, vb b412, i64 z413, i64 z414, u8 z415, u8 z416, u8 z417, u8 z418, u8 z419, u8 z420, u8 z421, u8 z422, i64 z423, i64 z424, i64 z425, i64 z426, i64 z427, V.list 10 l428, vb b429, V.list 7 l430, u8 z431, u8 z432, u8 z433, u8 z434, i64 z435, V.list 1 l436, V.list 7 l437, V.list 7 l438]]) ([]) = some r.out := by
  unfold F55 at h
  rcases ite_eq h with ⟨h0, h⟩ | ⟨h0, h⟩
  · skip
    cases h
    exact call_pathL (gs := [.a, .t, .t, .t, .t, .a]) (notIn []) rfl rfl (by kernel_rfl) (And.intro (decide_eq_true h0) (And.intro (decide_eq_true h0) (And.intro (decide_eq_true h0) (And.intro (decide_eq_true h0) True.intro))))
  · skip
    rcases ite_eq h with ⟨h1, h⟩ | ⟨h1, h⟩
    · skip
      cases h
      exact call_pathL (gs := [.a, .f, .f, .a, .f, .f, .t]) (notIn []) rfl rfl (by kernel_rfl) (And.intro (decide_eq_false h0) (And.intro (decide_eq_false h0) (And.intro (decide_eq_false h0) (And.intro (decide_eq_false h0) (And.intro (decide_eq_true h1) True.intro)))))
    · skip
      rcases ite_eq h with ⟨h2, h⟩ | ⟨h2, h⟩
      · skip
        rcases ite_eq h with ⟨h3, h⟩ | ⟨h3, h⟩
        · skip
          cases h
          exact call_pathL (gs := [.a, .f, .f, .a, .f, .f, .f, .a, .t, .t, .a, .t, .t, .t, .t, .t, .t, .t, .t, .a, .a]) (notIn []) rfl rfl (by kernel_rfl) (And.intro (decide_eq_false h0) (And.intro (decide_eq_false h0) (And.intro (decide_eq_false h0) (And.intro (decide_eq_false h0) (And.intro (decide_eq_false h1) (And.intro h2 (And.intro h2 (And.intro h2 (And.intro h2 (And.intro (decide_eq_true h3) (And.intro (decide_eq_true h3) (And.intro (decide_eq_true h3) (And.intro h2 (And.intro (decide_eq_true h3) (And.intro h2 True.intro)))))))))))))))
        · skip
          rcases ite_eq h with ⟨h4, h⟩ | ⟨h4, h⟩
          · skip
            cases h
            exact call_pathL (gs := [.a, .f, .f, .a, .f, .f, .f, .a, .t, .t, .a, .t, .t, .f, .f, .a, .f, .t, .f, .t, .t, .t]) (notIn []) rfl rfl (by kernel_rfl) (And.intro (decide_eq_false h0) (And.intro (decide_eq_false h0) (And.intro (decide_eq_false h0) (And.intro (decide_eq_false h0) (And.intro (decide_eq_false h1) (And.intro h2 (And.intro h2 (And.intro h2 (And.intro h2 (And.intro (decide_eq_false h3) (And.intro (decide_eq_false h3) (And.intro (decide_eq_false h3) (And.intro h2 (And.intro (decide_eq_false h3) (And.intro h2 (And.intro (decide_eq_true h4) (And.intro (decide_eq_true h4) True.intro)))))))))))))))))
          · skip
            rcases ite_eq h with ⟨h5, h⟩ | ⟨h5, h⟩
            · skip
              rcases ite_eq h with ⟨h6, h⟩ | ⟨h6, h⟩
              · skip
                cases h
                exact call_pathL (gs := [.a, .f, .f, .a, .f, .f, .f, .a, .t, .t, .a, .t, .t, .f, .f, .a, .f, .t, .f, .t, .f, .a, .t, .t, .a, .t, .t, .t]) (notIn []) rfl rfl (by kernel_rfl) (And.intro (decide_eq_false h0) (And.intro (decide_eq_false h0) (And.intro (decide_eq_false h0) (And.intro (decide_eq_false h0) (And.intro (decide_eq_false h1) (And.intro h2 (And.intro h2 (And.intro h2 (And.intro h2 (And.intro (decide_eq_false h3) (And.intro (decide_eq_false h3) (And.intro (decide_eq_false h3) (And.intro h2 (And.intro (decide_eq_false h3) (And.intro h2 (And.intro (decide_eq_false h4) (And.intro h5 (And.intro h5 (And.intro h5 (And.intro h5 (And.intro h6 True.intro)))))))))))))))))))))
              · skip
                rcases ite_eq h with ⟨h7, h⟩ | ⟨h7, h⟩
                · skip
                  rcases ite_eq h with ⟨h8, h⟩ | ⟨h8, h⟩
                  · skip
                    rcases ite_eq h with ⟨h9, h⟩ | ⟨h9, h⟩
                    · skip
                      obtain ⟨r10, h10, h⟩ := Option.bind_eq_some_iff.mp h
                      have h10 := F80_ok (m + 0) (l411) r10 h10
                      cases r10 with
                      | a0 b869 =>
                        cases h
                        exact call_pathL (gs := [.a, .f, .f, .a, .f, .f, .f, .a, .t, .t, .a, .t, .t, .f, .f, .a, .f, .t, .f, .t, .f, .a, .t, .t, .a, .t, .t, .f, .a, .t, .a, .t, .t, .a, .t, .t, .t, .t, .t, .a, .t, .an (vb b869) [], .t]) (notIn []) rfl rfl (by kernel_rfl) (And.intro (decide_eq_false h0) (And.intro (decide_eq_false h0) (And.intro (decide_eq_false h0) (And.intro (decide_eq_false h0) (And.intro (decide_eq_false h1) (And.intro h2 (And.intro h2 (And.intro h2 (And.intro h2 (And.intro (decide_eq_false h3) (And.intro (decide_eq_false h3) (And.intro (decide_eq_false h3) (And.intro h2 (And.intro (decide_eq_false h3) (And.intro h2 (And.intro (decide_eq_false h4) (And.intro h5 (And.intro h5 (And.intro h5 (And.intro h5 (And.intro (Bool.eq_false_iff.mpr h6) (And.intro h7 (And.intro h8 (And.intro h8 (And.intro h8 (And.intro h8 (And.intro h8 (And.intro h9 (And.intro h9 (And.intro h9 (And.intro h10 (And.intro h9 True.intro))))))))))))))))))))))))))))))))
                    · skip
                      cases h
                      exact call_pathL (gs := [.a, .f, .f, .a, .f, .f, .f, .a, .t, .t, .a, .t, .t, .f, .f, .a, .f, .t, .f, .t, .f, .a, .t, .t, .a, .t, .t, .f, .a, .t, .a, .t, .t, .a, .t, .t, .t, .f, .f, .f, .f]) (notIn []) rfl rfl (by kernel_rfl) (And.intro (decide_eq_false h0) (And.intro (decide_eq_false h0) (And.intro (decide_eq_false h0) (And.intro (decide_eq_false h0) (And.intro (decide_eq_false h1) (And.intro h2 (And.intro h2 (And.intro h2 (And.intro h2 (And.intro (decide_eq_false h3) (And.intro (decide_eq_false h3) (And.intro (decide_eq_false h3) (And.intro h2 (And.intro (decide_eq_false h3) (And.intro h2 (And.intro (decide_eq_false h4) (And.intro h5 (And.intro h5 (And.intro h5 (And.intro h5 (And.intro (Bool.eq_false_iff.mpr h6) (And.intro h7 (And.intro h8 (And.intro h8 (And.intro h8 (And.intro h8 (And.intro h8 (And.intro (Bool.eq_false_iff.mpr h9) (And.intro (Bool.eq_false_iff.mpr h9) (And.intro (Bool.eq_false_iff.mpr h9) (And.intro (Bool.eq_false_iff.mpr h9) True.intro)))))))))))))))))))))))))))))))
                  · skip
                    cases h
                    exact call_pathL (gs := [.a, .f, .f, .a, .f, .f, .f, .a, .t, .t, .a, .t, .t, .f, .f, .a, .f, .t, .f, .t, .f, .a, .t, .t, .a, .t, .t, .f, .a, .t, .a, .f, .f, .f, .f, .f, .a, .a, .a, .a]) (notIn []) rfl rfl (by kernel_rfl) (And.intro (decide_eq_false h0) (And.intro (decide_eq_false h0) (And.intro (decide_eq_false h0) (And.intro (decide_eq_false h0) (And.intro (decide_eq_false h1) (And.intro h2 (And.intro h2 (And.intro h2 (And.intro h2 (And.intro (decide_eq_false h3) (And.intro (decide_eq_false h3) (And.intro (decide_eq_false h3) (And.intro h2 (And.intro (decide_eq_false h3) (And.intro h2 (And.intro (decide_eq_false h4) (And.intro h5 (And.intro h5 (And.intro h5 (And.intro h5 (And.intro (Bool.eq_false_iff.mpr h6) (And.intro h7 (And.intro (Bool.eq_false_iff.mpr h8) (And.intro (Bool.eq_false_iff.mpr h8) (And.intro (Bool.eq_false_iff.mpr h8) (And.intro (Bool.eq_false_iff.mpr h8) (And.intro (Bool.eq_false_iff.mpr h8) True.intro)))))))))))))))))))))))))))
                · skip
                  rcases ite_eq h with ⟨h8, h⟩ | ⟨h8, h⟩
                  · skip
                    obtain ⟨r9, h9, h⟩ := Option.bind_eq_some_iff.mp h
                    have h9 := F57_ok (m + 2) (l409) r9 h9
                    cases r9 with
                    | a0 b1068 =>
                      rcases ite_eq h with ⟨h10, h⟩ | ⟨h10, h⟩
                      · skip
                        obtain ⟨r11, h11, h⟩ := Option.bind_eq_some_iff.mp h
                        have h11 := F57_ok (m + 2) (l410) r11 h11
                        cases r11 with
                        | a0 b1069 =>
                          cases h
                          exact call_pathL (gs := [.a, .f, .f, .a, .f, .f, .f, .a, .t, .t, .a, .t, .t, .f, .f, .a, .f, .t, .f, .t, .f, .a, .t, .t, .a, .t, .t, .f, .a, .f, .a, .t, .t, .a, .t, .an (vb b1068) [], .t, .t, .t, .a, .t, .an (vb b1069) [], .t]) (notIn []) rfl rfl (by kernel_rfl) (And.intro (decide_eq_false h0) (And.intro (decide_eq_false h0) (And.intro (decide_eq_false h0) (And.intro (decide_eq_false h0) (And.intro (decide_eq_false h1) (And.intro h2 (And.intro h2 (And.intro h2 (And.intro h2 (And.intro (decide_eq_false h3) (And.intro (decide_eq_false h3) (And.intro (decide_eq_false h3) (And.intro h2 (And.intro (decide_eq_false h3) (And.intro h2 (And.intro (decide_eq_false h4) (And.intro h5 (And.intro h5 (And.intro h5 (And.intro h5 (And.intro (Bool.eq_false_iff.mpr h6) (And.intro (Bool.eq_false_iff.mpr h7) (And.intro h8 (And.intro h8 (And.intro h8 (And.intro h9 (And.intro h8 (And.intro h10 (And.intro h10 (And.intro h10 (And.intro h11 (And.intro h10 True.intro))))))))))))))))))))))))))))))))
                      · skip
                        cases h
                        exact call_pathL (gs := [.a, .f, .f, .a, .f, .f, .f, .a, .t, .t, .a, .t, .t, .f, .f, .a, .f, .t, .f, .t, .f, .a, .t, .t, .a, .t, .t, .f, .a, .f, .a, .t, .t, .a, .t, .an (vb b1068) [], .t, .f, .f, .f, .f]) (notIn []) rfl rfl (by kernel_rfl) (And.intro (decide_eq_false h0) (And.intro (decide_eq_false h0) (And.intro (decide_eq_false h0) (And.intro (decide_eq_false h0) (And.intro (decide_eq_false h1) (And.intro h2 (And.intro h2 (And.intro h2 (And.intro h2 (And.intro (decide_eq_false h3) (And.intro (decide_eq_false h3) (And.intro (decide_eq_false h3) (And.intro h2 (And.intro (decide_eq_false h3) (And.intro h2 (And.intro (decide_eq_false h4) (And.intro h5 (And.intro h5 (And.intro h5 (And.intro h5 (And.intro (Bool.eq_false_iff.mpr h6) (And.intro (Bool.eq_false_iff.mpr h7) (And.intro h8 (And.intro h8 (And.intro h8 (And.intro h9 (And.intro h8 (And.intro (Bool.eq_false_iff.mpr h10) (And.intro (Bool.eq_false_iff.mpr h10) (And.intro (Bool.eq_false_iff.mpr h10) (And.intro (Bool.eq_false_iff.mpr h10) True.intro)))))))))))))))))))))))))))))))
                  · skip
                    cases h
                    exact call_pathL (gs := [.a, .f, .f, .a, .f, .f, .f, .a, .t, .t, .a, .t, .t, .f, .f, .a, .f, .t, .f, .t, .f, .a, .t, .t, .a, .t, .t, .f, .a, .f, .a, .f, .f, .f, .f, .a, .a, .a, .a]) (notIn []) rfl rfl (by kernel_rfl) (And.intro (decide_eq_false h0) (And.intro (decide_eq_false h0) (And.intro (decide_eq_false h0) (And.intro (decide_eq_false h0) (And.intro (decide_eq_false h1) (And.intro h2 (And.intro h2 (And.intro h2 (And.intro h2 (And.intro (decide_eq_false h3) (And.intro (decide_eq_false h3) (And.intro (decide_eq_false h3) (And.intro h2 (And.intro (decide_eq_false h3) (And.intro h2 (And.intro (decide_eq_false h4) (And.intro h5 (And.intro h5 (And.intro h5 (And.intro h5 (And.intro (Bool.eq_false_iff.mpr h6) (And.intro (Bool.eq_false_iff.mpr h7) (And.intro (Bool.eq_false_iff.mpr h8) (And.intro (Bool.eq_false_iff.mpr h8) (And.intro (Bool.eq_false_iff.mpr h8) (And.intro (Bool.eq_false_iff.mpr h8) True.intro))))))))))))))))))))))))))
            · skip
              rcases ite_eq h with ⟨h6, h⟩ | ⟨h6, h⟩
              · skip
                rcases ite_eq h with ⟨h7, h⟩ | ⟨h7, h⟩
                · skip
                  rcases ite_eq h with ⟨h8, h⟩ | ⟨h8, h⟩
                  · skip
                    obtain ⟨r9, h9, h⟩ := Option.bind_eq_some_iff.mp h
                    have h9 := F80_ok (m + 0) (l411) r9 h9
                    cases r9 with
                    | a0 b1070 =>
                      cases h
                      exact call_pathL (gs := [.a, .f, .f, .a, .f, .f, .f, .a, .t, .t, .a, .t, .t, .f, .f, .a, .f, .t, .f, .t, .f, .a, .f, .f, .f, .f, .a, .a, .t, .a, .t, .t, .a, .t, .t, .t, .t, .t, .a, .t, .an (vb b1070) [], .t]) (notIn []) rfl rfl (by kernel_rfl) (And.intro (decide_eq_false h0) (And.intro (decide_eq_false h0) (And.intro (decide_eq_false h0) (And.intro (decide_eq_false h0) (And.intro (decide_eq_false h1) (And.intro h2 (And.intro h2 (And.intro h2 (And.intro h2 (And.intro (decide_eq_false h3) (And.intro (decide_eq_false h3) (And.intro (decide_eq_false h3) (And.intro h2 (And.intro (decide_eq_false h3) (And.intro h2 (And.intro (decide_eq_false h4) (And.intro (Bool.eq_false_iff.mpr h5) (And.intro (Bool.eq_false_iff.mpr h5) (And.intro (Bool.eq_false_iff.mpr h5) (And.intro (Bool.eq_false_iff.mpr h5) (And.intro h6 (And.intro h7 (And.intro h7 (And.intro h7 (And.intro h7 (And.intro h7 (And.intro h8 (And.intro h8 (And.intro h8 (And.intro h9 (And.intro h8 True.intro)))))))))))))))))))))))))))))))
                  · skip
                    cases h
                    exact call_pathL (gs := [.a, .f, .f, .a, .f, .f, .f, .a, .t, .t, .a, .t, .t, .f, .f, .a, .f, .t, .f, .t, .f, .a, .f, .f, .f, .f, .a, .a, .t, .a, .t, .t, .a, .t, .t, .t, .f, .f, .f, .f]) (notIn []) rfl rfl (by kernel_rfl) (And.intro (decide_eq_false h0) (And.intro (decide_eq_false h0) (And.intro (decide_eq_false h0) (And.intro (decide_eq_false h0) (And.intro (decide_eq_false h1) (And.intro h2 (And.intro h2 (And.intro h2 (And.intro h2 (And.intro (decide_eq_false h3) (And.intro (decide_eq_false h3) (And.intro (decide_eq_false h3) (And.intro h2 (And.intro (decide_eq_false h3) (And.intro h2 (And.intro (decide_eq_false h4) (And.intro (Bool.eq_false_iff.mpr h5) (And.intro (Bool.eq_false_iff.mpr h5) (And.intro (Bool.eq_false_iff.mpr h5) (And.intro (Bool.eq_false_iff.mpr h5) (And.intro h6 (And.intro h7 (And.intro h7 (And.intro h7 (And.intro h7 (And.intro h7 (And.intro (Bool.eq_false_iff.mpr h8) (And.intro (Bool.eq_false_iff.mpr h8) (And.intro (Bool.eq_false_iff.mpr h8) (And.intro (Bool.eq_false_iff.mpr h8) True.intro))))))))))))))))))))))))))))))
                · skip
                  cases h
                  exact call_pathL (gs := [.a, .f, .f, .a, .f, .f, .f, .a, .t, .t, .a, .t, .t, .f, .f, .a, .f, .t, .f, .t, .f, .a, .f, .f, .f, .f, .a, .a, .t, .a, .f, .f, .f, .f, .f, .a, .a, .a, .a]) (notIn []) rfl rfl (by kernel_rfl) (And.intro (decide_eq_false h0) (And.intro (decide_eq_false h0) (And.intro (decide_eq_false h0) (And.intro (decide_eq_false h0) (And.intro (decide_eq_false h1) (And.intro h2 (And.intro h2 (And.intro h2 (And.intro h2 (And.intro (decide_eq_false h3) (And.intro (decide_eq_false h3) (And.intro (decide_eq_false h3) (And.intro h2 (And.intro (decide_eq_false h3) (And.intro h2 (And.intro (decide_eq_false h4) (And.intro (Bool.eq_false_iff.mpr h5) (And.intro (Bool.eq_false_iff.mpr h5) (And.intro (Bool.eq_false_iff.mpr h5) (And.intro (Bool.eq_false_iff.mpr h5) (And.intro h6 (And.intro (Bool.eq_false_iff.mpr h7) (And.intro (Bool.eq_false_iff.mpr h7) (And.intro (Bool.eq_false_iff.mpr h7) (And.intro (Bool.eq_false_iff.mpr h7) (And.intro (Bool.eq_false_iff.mpr h7) True.intro))))))))))))))))))))))))))
              · skip
                rcases ite_eq h with ⟨h7, h⟩ | ⟨h7, h⟩
                · skip
                  obtain ⟨r8, h8, h⟩ := Option.bind_eq_some_iff.mp h
                  have h8 := F57_ok (m + 2) (l409) r8 h8
                  cases r8 with
                  | a0 b1071 =>
                    rcases ite_eq h with ⟨h9, h⟩ | ⟨h9, h⟩
                    · skip
                      obtain ⟨r10, h10, h⟩ := Option.bind_eq_some_iff.mp h
                      have h10 := F57_ok (m + 2) (l410) r10 h10
                      cases r10 with
                      | a0 b1072 =>
                        cases h
                        exact call_pathL (gs := [.a, .f, .f, .a, .f, .f, .f, .a, .t, .t, .a, .t, .t, .f, .f, .a, .f, .t, .f, .t, .f, .a, .f, .f, .f, .f, .a, .a, .f, .a, .t, .t, .a, .t, .an (vb b1071) [], .t, .t, .t, .a, .t, .an (vb b1072) [], .t]) (notIn []) rfl rfl (by kernel_rfl) (And.intro (decide_eq_false h0) (And.intro (decide_eq_false h0) (And.intro (decide_eq_false h0) (And.intro (decide_eq_false h0) (And.intro (decide_eq_false h1) (And.intro h2 (And.intro h2 (And.intro h2 (And.intro h2 (And.intro (decide_eq_false h3) (And.intro (decide_eq_false h3) (And.intro (decide_eq_false h3) (And.intro h2 (And.intro (decide_eq_false h3) (And.intro h2 (And.intro (decide_eq_false h4) (And.intro (Bool.eq_false_iff.mpr h5) (And.intro (Bool.eq_false_iff.mpr h5) (And.intro (Bool.eq_false_iff.mpr h5) (And.intro (Bool.eq_false_iff.mpr h5) (And.intro (Bool.eq_false_iff.mpr h6) (And.intro h7 (And.intro h7 (And.intro h7 (And.intro h8 (And.intro h7 (And.intro h9 (And.intro h9 (And.intro h9 (And.intro h10 (And.intro h9 True.intro)))))))))))))))))))))))))))))))
                    · skip
                      cases h
                      exact call_pathL (gs := [.a, .f, .f, .a, .f, .f, .f, .a, .t, .t, .a, .t, .t, .f, .f, .a, .f, .t, .f, .t, .f, .a, .f, .f, .f, .f, .a, .a, .f, .a, .t, .t, .a, .t, .an (vb b1071) [], .t, .f, .f, .f, .f]) (notIn []) rfl rfl (by kernel_rfl) (And.intro (decide_eq_false h0) (And.intro (decide_eq_false h0) (And.intro (decide_eq_false h0) (And.intro (decide_eq_false h0) (And.intro (decide_eq_false h1) (And.intro h2 (And.intro h2 (And.intro h2 (And.intro h2 (And.intro (decide_eq_false h3) (And.intro (decide_eq_false h3) (And.intro (decide_eq_false h3) (And.intro h2 (And.intro (decide_eq_false h3) (And.intro h2 (And.intro (decide_eq_false h4) (And.intro (Bool.eq_false_iff.mpr h5) (And.intro (Bool.eq_false_iff.mpr h5) (And.intro (Bool.eq_false_iff.mpr h5) (And.intro (Bool.eq_false_iff.mpr h5) (And.intro (Bool.eq_false_iff.mpr h6) (And.intro h7 (And.intro h7 (And.intro h7 (And.intro h8 (And.intro h7 (And.intro (Bool.eq_false_iff.mpr h9) (And.intro (Bool.eq_false_iff.mpr h9) (And.intro (Bool.eq_false_iff.mpr h9) (And.intro (Bool.eq_false_iff.mpr h9) True.intro))))))))))))))))))))))))))))))
                · skip
                  cases h
                  exact call_pathL (gs := [.a, .f, .f, .a, .f, .f, .f, .a, .t, .t, .a, .t, .t, .f, .f, .a, .f, .t, .f, .t, .f, .a, .f, .f, .f, .f, .a, .a, .f, .a, .f, .f, .f, .f, .a, .a, .a, .a]) (notIn []) rfl rfl (by kernel_rfl) (And.intro (decide_eq_false h0) (And.intro (decide_eq_false h0) (And.intro (decide_eq_false h0) (And.intro (decide_eq_false h0) (And.intro (decide_eq_false h1) (And.intro h2 (And.intro h2 (And.intro h2 (And.intro h2 (And.intro (decide_eq_false h3) (And.intro (decide_eq_false h3) (And.intro (decide_eq_false h3) (And.intro h2 (And.intro (decide_eq_false h3) (And.intro h2 (And.intro (decide_eq_false h4) (And.intro (Bool.eq_false_iff.mpr h5) (And.intro (Bool.eq_false_iff.mpr h5) (And.intro (Bool.eq_false_iff.mpr h5) (And.intro (Bool.eq_false_iff.mpr h5) (And.intro (Bool.eq_false_iff.mpr h6) (And.intro (Bool.eq_false_iff.mpr h7) (And.intro (Bool.eq_false_iff.mpr h7) (And.intro (Bool.eq_false_iff.mpr h7) (And.intro (Bool.eq_false_iff.mpr h7) True.intro)))))))))))))))))))))))))
      · skip
        rcases ite_eq h with ⟨h3, h⟩ | ⟨h3, h⟩
        · skip
          rcases ite_eq h with ⟨h4, h⟩ | ⟨h4, h⟩
          · skip
            cases h
            exact call_pathL (gs := [.a, .f, .f, .a, .f, .f, .f, .a, .f, .f, .f, .f, .f, .f, .a, .a, .t, .t, .a, .t, .t, .t]) (notIn []) rfl rfl (by kernel_rfl) (And.intro (decide_eq_false h0) (And.intro (decide_eq_false h0) (And.intro (decide_eq_false h0) (And.intro (decide_eq_false h0) (And.intro (decide_eq_false h1) (And.intro (Bool.eq_false_iff.mpr h2) (And.intro (Bool.eq_false_iff.mpr h2) (And.intro (Bool.eq_false_iff.mpr h2) (And.intro (Bool.eq_false_iff.mpr h2) (And.intro (Bool.eq_false_iff.mpr h2) (And.intro (Bool.eq_false_iff.mpr h2) (And.intro h3 (And.intro h3 (And.intro h3 (And.intro h3 (And.intro h4 True.intro))))))))))))))))
          · skip
            rcases ite_eq h with ⟨h5, h⟩ | ⟨h5, h⟩
            · skip
              rcases ite_eq h with ⟨h6, h⟩ | ⟨h6, h⟩
              · skip
                rcases ite_eq h with ⟨h7, h⟩ | ⟨h7, h⟩
                · skip
                  obtain ⟨r8, h8, h⟩ := Option.bind_eq_some_iff.mp h
                  have h8 := F80_ok (m + 0) (l411) r8 h8
                  cases r8 with
                  | a0 b1073 =>
                    cases h
                    exact call_pathL (gs := [.a, .f, .f, .a, .f, .f, .f, .a, .f, .f, .f, .f, .f, .f, .a, .a, .t, .t, .a, .t, .t, .f, .a, .t, .a, .t, .t, .a, .t, .t, .t, .t, .t, .a, .t, .an (vb b1073) [], .t]) (notIn []) rfl rfl (by kernel_rfl) (And.intro (decide_eq_false h0) (And.intro (decide_eq_false h0) (And.intro (decide_eq_false h0) (And.intro (decide_eq_false h0) (And.intro (decide_eq_false h1) (And.intro (Bool.eq_false_iff.mpr h2) (And.intro (Bool.eq_false_iff.mpr h2) (And.intro (Bool.eq_false_iff.mpr h2) (And.intro (Bool.eq_false_iff.mpr h2) (And.intro (Bool.eq_false_iff.mpr h2) (And.intro (Bool.eq_false_iff.mpr h2) (And.intro h3 (And.intro h3 (And.intro h3 (And.intro h3 (And.intro (Bool.eq_false_iff.mpr h4) (And.intro h5 (And.intro h6 (And.intro h6 (And.intro h6 (And.intro h6 (And.intro h6 (And.intro h7 (And.intro h7 (And.intro h7 (And.intro h8 (And.intro h7 True.intro)))))))))))))))))))))))))))
                · skip
                  cases h
                  exact call_pathL (gs := [.a, .f, .f, .a, .f, .f, .f, .a, .f, .f, .f, .f, .f, .f, .a, .a, .t, .t, .a, .t, .t, .f, .a, .t, .a, .t, .t, .a, .t, .t, .t, .f, .f, .f, .f]) (notIn []) rfl rfl (by kernel_rfl) (And.intro (decide_eq_false h0) (And.intro (decide_eq_false h0) (And.intro (decide_eq_false h0) (And.intro (decide_eq_false h0) (And.intro (decide_eq_false h1) (And.intro (Bool.eq_false_iff.mpr h2) (And.intro (Bool.eq_false_iff.mpr h2) (And.intro (Bool.eq_false_iff.mpr h2) (And.intro (Bool.eq_false_iff.mpr h2) (And.intro (Bool.eq_false_iff.mpr h2) (And.intro (Bool.eq_false_iff.mpr h2) (And.intro h3 (And.intro h3 (And.intro h3 (And.intro h3 (And.intro (Bool.eq_false_iff.mpr h4) (And.intro h5 (And.intro h6 (And.intro h6 (And.intro h6 (And.intro h6 (And.intro h6 (And.intro (Bool.eq_false_iff.mpr h7) (And.intro (Bool.eq_false_iff.mpr h7) (And.intro (Bool.eq_false_iff.mpr h7) (And.intro (Bool.eq_false_iff.mpr h7) True.intro))))))))))))))))))))))))))
              · skip
                cases h
                exact call_pathL (gs := [.a, .f, .f, .a, .f, .f, .f, .a, .f, .f, .f, .f, .f, .f, .a, .a, .t, .t, .a, .t, .t, .f, .a, .t, .a, .f, .f, .f, .f, .f, .a, .a, .a, .a]) (notIn []) rfl rfl (by kernel_rfl) (And.intro (decide_eq_false h0) (And.intro (decide_eq_false h0) (And.intro (decide_eq_false h0) (And.intro (decide_eq_false h0) (And.intro (decide_eq_false h1) (And.intro (Bool.eq_false_iff.mpr h2) (And.intro (Bool.eq_false_iff.mpr h2) (And.intro (Bool.eq_false_iff.mpr h2) (And.intro (Bool.eq_false_iff.mpr h2) (And.intro (Bool.eq_false_iff.mpr h2) (And.intro (Bool.eq_false_iff.mpr h2) (And.intro h3 (And.intro h3 (And.intro h3 (And.intro h3 (And.intro (Bool.eq_false_iff.mpr h4) (And.intro h5 (And.intro (Bool.eq_false_iff.mpr h6) (And.intro (Bool.eq_false_iff.mpr h6) (And.intro (Bool.eq_false_iff.mpr h6) (And.intro (Bool.eq_false_iff.mpr h6) (And.intro (Bool.eq_false_iff.mpr h6) True.intro))))))))))))))))))))))
            · skip
              rcases ite_eq h with ⟨h6, h⟩ | ⟨h6, h⟩
              · skip
                obtain ⟨r7, h7, h⟩ := Option.bind_eq_some_iff.mp h
                have h7 := F57_ok (m + 2) (l409) r7 h7
                cases r7 with
                | a0 b1074 =>
                  rcases ite_eq h with ⟨h8, h⟩ | ⟨h8, h⟩
                  · skip
                    obtain ⟨r9, h9, h⟩ := Option.bind_eq_some_iff.mp h
                    have h9 := F57_ok (m + 2) (l410) r9 h9
                    cases r9 with
                    | a0 b1075 =>
                      cases h
                      exact call_pathL (gs := [.a, .f, .f, .a, .f, .f, .f, .a, .f, .f, .f, .f, .f, .f, .a, .a, .t, .t, .a, .t, .t, .f, .a, .f, .a, .t, .t, .a, .t, .an (vb b1074) [], .t, .t, .t, .a, .t, .an (vb b1075) [], .t]) (notIn []) rfl rfl (by kernel_rfl) (And.intro (decide_eq_false h0) (And.intro (decide_eq_false h0) (And.intro (decide_eq_false h0) (And.intro (decide_eq_false h0) (And.intro (decide_eq_false h1) (And.intro (Bool.eq_false_iff.mpr h2) (And.intro (Bool.eq_false_iff.mpr h2) (And.intro (Bool.eq_false_iff.mpr h2) (And.intro (Bool.eq_false_iff.mpr h2) (And.intro (Bool.eq_false_iff.mpr h2) (And.intro (Bool.eq_false_iff.mpr h2) (And.intro h3 (And.intro h3 (And.intro h3 (And.intro h3 (And.intro (Bool.eq_false_iff.mpr h4) (And.intro (Bool.eq_false_iff.mpr h5) (And.intro h6 (And.intro h6 (And.intro h6 (And.intro h7 (And.intro h6 (And.intro h8 (And.intro h8 (And.intro h8 (And.intro h9 (And.intro h8 True.intro)))))))))))))))))))))))))))
                  · skip
                    cases h
                    exact call_pathL (gs := [.a, .f, .f, .a, .f, .f, .f, .a, .f, .f, .f, .f, .f, .f, .a, .a, .t, .t, .a, .t, .t, .f, .a, .f, .a, .t, .t, .a, .t, .an (vb b1074) [], .t, .f, .f, .f, .f]) (notIn []) rfl rfl (by kernel_rfl) (And.intro (decide_eq_false h0) (And.intro (decide_eq_false h0) (And.intro (decide_eq_false h0) (And.intro (decide_eq_false h0) (And.intro (decide_eq_false h1) (And.intro (Bool.eq_false_iff.mpr h2) (And.intro (Bool.eq_false_iff.mpr h2) (And.intro (Bool.eq_false_iff.mpr h2) (And.intro (Bool.eq_false_iff.mpr h2) (And.intro (Bool.eq_false_iff.mpr h2) (And.intro (Bool.eq_false_iff.mpr h2) (And.intro h3 (And.intro h3 (And.intro h3 (And.intro h3 (And.intro (Bool.eq_false_iff.mpr h4) (And.intro (Bool.eq_false_iff.mpr h5) (And.intro h6 (And.intro h6 (And.intro h6 (And.intro h7 (And.intro h6 (And.intro (Bool.eq_false_iff.mpr h8) (And.intro (Bool.eq_false_iff.mpr h8) (And.intro (Bool.eq_false_iff.mpr h8) (And.intro (Bool.eq_false_iff.mpr h8) True.intro))))))))))))))))))))))))))
              · skip
                cases h
                exact call_pathL (gs := [.a, .f, .f, .a, .f, .f, .f, .a, .f, .f, .f, .f, .f, .f, .a, .a, .t, .t, .a, .t, .t, .f, .a, .f, .a, .f, .f, .f, .f, .a, .a, .a, .a]) (notIn []) rfl rfl (by kernel_rfl) (And.intro (decide_eq_false h0) (And.intro (decide_eq_false h0) (And.intro (decide_eq_false h0) (And.intro (decide_eq_false h0) (And.intro (decide_eq_false h1) (And.intro (Bool.eq_false_iff.mpr h2) (And.intro (Bool.eq_false_iff.mpr h2) (And.intro (Bool.eq_false_iff.mpr h2) (And.intro (Bool.eq_false_iff.mpr h2) (And.intro (Bool.eq_false_iff.mpr h2) (And.intro (Bool.eq_false_iff.mpr h2) (And.intro h3 (And.intro h3 (And.intro h3 (And.intro h3 (And.intro (Bool.eq_false_iff.mpr h4) (And.intro (Bool.eq_false_iff.mpr h5) (And.intro (Bool.eq_false_iff.mpr h6) (And.intro (Bool.eq_false_iff.mpr h6) (And.intro (Bool.eq_false_iff.mpr h6) (And.intro (Bool.eq_false_iff.mpr h6) True.intro)))))))))))))))))))))
        · skip
          rcases ite_eq h with ⟨h4, h⟩ | ⟨h4, h⟩
          · skip
            rcases ite_eq h with ⟨h5, h⟩ | ⟨h5, h⟩
            · skip
              rcases ite_eq h with ⟨h6, h⟩ | ⟨h6, h⟩
              · skip
                obtain ⟨r7, h7, h⟩ := Option.bind_eq_some_iff.mp h
                have h7 := F80_ok (m + 0) (l411) r7 h7
                cases r7 with
                | a0 b1076 =>
                  cases h
                  exact call_pathL (gs := [.a, .f, .f, .a, .f, .f, .f, .a, .f, .f, .f, .f, .f, .f, .a, .a, .f, .f, .f, .f, .a, .a, .t, .a, .t, .t, .a, .t, .t, .t, .t, .t, .a, .t, .an (vb b1076) [], .t]) (notIn []) rfl rfl (by kernel_rfl) (And.intro (decide_eq_false h0) (And.intro (decide_eq_false h0) (And.intro (decide_eq_false h0) (And.intro (decide_eq_false h0) (And.intro (decide_eq_false h1) (And.intro (Bool.eq_false_iff.mpr h2) (And.intro (Bool.eq_false_iff.mpr h2) (And.intro (Bool.eq_false_iff.mpr h2) (And.intro (Bool.eq_false_iff.mpr h2) (And.intro (Bool.eq_false_iff.mpr h2) (And.intro (Bool.eq_false_iff.mpr h2) (And.intro (Bool.eq_false_iff.mpr h3) (And.intro (Bool.eq_false_iff.mpr h3) (And.intro (Bool.eq_false_iff.mpr h3) (And.intro (Bool.eq_false_iff.mpr h3) (And.intro h4 (And.intro h5 (And.intro h5 (And.intro h5 (And.intro h5 (And.intro h5 (And.intro h6 (And.intro h6 (And.intro h6 (And.intro h7 (And.intro h6 True.intro))))))))))))))))))))))))))
              · skip
                cases h
                exact call_pathL (gs := [.a, .f, .f, .a, .f, .f, .f, .a, .f, .f, .f, .f, .f, .f, .a, .a, .f, .f, .f, .f, .a, .a, .t, .a, .t, .t, .a, .t, .t, .t, .f, .f, .f, .f]) (notIn []) rfl rfl (by kernel_rfl) (And.intro (decide_eq_false h0) (And.intro (decide_eq_false h0) (And.intro (decide_eq_false h0) (And.intro (decide_eq_false h0) (And.intro (decide_eq_false h1) (And.intro (Bool.eq_false_iff.mpr h2) (And.intro (Bool.eq_false_iff.mpr h2) (And.intro (Bool.eq_false_iff.mpr h2) (And.intro (Bool.eq_false_iff.mpr h2) (And.intro (Bool.eq_false_iff.mpr h2) (And.intro (Bool.eq_false_iff.mpr h2) (And.intro (Bool.eq_false_iff.mpr h3) (And.intro (Bool.eq_false_iff.mpr h3) (And.intro (Bool.eq_false_iff.mpr h3) (And.intro (Bool.eq_false_iff.mpr h3) (And.intro h4 (And.intro h5 (And.intro h5 (And.intro h5 (And.intro h5 (And.intro h5 (And.intro (Bool.eq_false_iff.mpr h6) (And.intro (Bool.eq_false_iff.mpr h6) (And.intro (Bool.eq_false_iff.mpr h6) (And.intro (Bool.eq_false_iff.mpr h6) True.intro)))))))))))))))))))))))))
            · skip
              cases h
              exact call_pathL (gs := [.a, .f, .f, .a, .f, .f, .f, .a, .f, .f, .f, .f, .f, .f, .a, .a, .f, .f, .f, .f, .a, .a, .t, .a, .f, .f, .f, .f, .f, .a, .a, .a, .a]) (notIn []) rfl rfl (by kernel_rfl) (And.intro (decide_eq_false h0) (And.intro (decide_eq_false h0) (And.intro (decide_eq_false h0) (And.intro (decide_eq_false h0) (And.intro (decide_eq_false h1) (And.intro (Bool.eq_false_iff.mpr h2) (And.intro (Bool.eq_false_iff.mpr h2) (And.intro (Bool.eq_false_iff.mpr h2) (And.intro (Bool.eq_false_iff.mpr h2) (And.intro (Bool.eq_false_iff.mpr h2) (And.intro (Bool.eq_false_iff.mpr h2) (And.intro (Bool.eq_false_iff.mpr h3) (And.intro (Bool.eq_false_iff.mpr h3) (And.intro (Bool.eq_false_iff.mpr h3) (And.intro (Bool.eq_false_iff.mpr h3) (And.intro h4 (And.intro (Bool.eq_false_iff.mpr h5) (And.intro (Bool.eq_false_iff.mpr h5) (And.intro (Bool.eq_false_iff.mpr h5) (And.intro (Bool.eq_false_iff.mpr h5) (And.intro (Bool.eq_false_iff.mpr h5) True.intro)))))))))))))))))))))
          · skip
            rcases ite_eq h with ⟨h5, h⟩ | ⟨h5, h⟩
            · skip
              obtain ⟨r6, h6, h⟩ := Option.bind_eq_some_iff.mp h
              have h6 := F57_ok (m + 2) (l409) r6 h6
              cases r6 with
              | a0 b1077 =>
                rcases ite_eq h with ⟨h7, h⟩ | ⟨h7, h⟩
                · skip
                  obtain ⟨r8, h8, h⟩ := Option.bind_eq_some_iff.mp h
                  have h8 := F57_ok (m + 2) (l410) r8 h8
                  cases r8 with
                  | a0 b1078 =>
                    cases h
                    exact call_pathL (gs := [.a, .f, .f, .a, .f, .f, .f, .a, .f, .f, .f, .f, .f, .f, .a, .a, .f, .f, .f, .f, .a, .a, .f, .a, .t, .t, .a, .t, .an (vb b1077) [], .t, .t, .t, .a, .t, .an (vb b1078) [], .t]) (notIn []) rfl rfl (by kernel_rfl) (And.intro (decide_eq_false h0) (And.intro (decide_eq_false h0) (And.intro (decide_eq_false h0) (And.intro (decide_eq_false h0) (And.intro (decide_eq_false h1) (And.intro (Bool.eq_false_iff.mpr h2) (And.intro (Bool.eq_false_iff.mpr h2) (And.intro (Bool.eq_false_iff.mpr h2) (And.intro (Bool.eq_false_iff.mpr h2) (And.intro (Bool.eq_false_iff.mpr h2) (And.intro (Bool.eq_false_iff.mpr h2) (And.intro (Bool.eq_false_iff.mpr h3) (And.intro (Bool.eq_false_iff.mpr h3) (And.intro (Bool.eq_false_iff.mpr h3) (And.intro (Bool.eq_false_iff.mpr h3) (And.intro (Bool.eq_false_iff.mpr h4) (And.intro h5 (And.intro h5 (And.intro h5 (And.intro h6 (And.intro h5 (And.intro h7 (And.intro h7 (And.intro h7 (And.intro h8 (And.intro h7 True.intro))))))))))))))))))))))))))
                · skip
                  cases h
                  exact call_pathL (gs := [.a, .f, .f, .a, .f, .f, .f, .a, .f, .f, .f, .f, .f, .f, .a, .a, .f, .f, .f, .f, .a, .a, .f, .a, .t, .t, .a, .t, .an (vb b1077) [], .t, .f, .f, .f, .f]) (notIn []) rfl rfl (by kernel_rfl) (And.intro (decide_eq_false h0) (And.intro (decide_eq_false h0) (And.intro (decide_eq_false h0) (And.intro (decide_eq_false h0) (And.intro (decide_eq_false h1) (And.intro (Bool.eq_false_iff.mpr h2) (And.intro (Bool.eq_false_iff.mpr h2) (And.intro (Bool.eq_false_iff.mpr h2) (And.intro (Bool.eq_false_iff.mpr h2) (And.intro (Bool.eq_false_iff.mpr h2) (And.intro (Bool.eq_false_iff.mpr h2) (And.intro (Bool.eq_false_iff.mpr h3) (And.intro (Bool.eq_false_iff.mpr h3) (And.intro (Bool.eq_false_iff.mpr h3) (And.intro (Bool.eq_false_iff.mpr h3) (And.intro (Bool.eq_false_iff.mpr h4) (And.intro h5 (And.intro h5 (And.intro h5 (And.intro h6 (And.intro h5 (And.intro (Bool.eq_false_iff.mpr h7) (And.intro (Bool.eq_false_iff.mpr h7) (And.intro (Bool.eq_false_iff.mpr h7) (And.intro (Bool.eq_false_iff.mpr h7) True.intro)))))))))))))))))))))))))
            · skip
              cases h
              exact call_pathL (gs := [.a, .f, .f, .a, .f, .f, .f, .a, .f, .f, .f, .f, .f, .f, .a, .a, .f, .f, .f, .f, .a, .a, .f, .a, .f, .f, .f, .f, .a, .a, .a, .a]) (notIn []) rfl rfl (by kernel_rfl) (And.intro (decide_eq_false h0) (And.intro (decide_eq_false h0) (And.intro (decide_eq_false h0) (And.intro (decide_eq_false h0) (And.intro (decide_eq_false h1) (And.intro (Bool.eq_false_iff.mpr h2) (And.intro (Bool.eq_false_iff.mpr h2) (And.intro (Bool.eq_false_iff.mpr h2) (And.intro (Bool.eq_false_iff.mpr h2) (And.intro (Bool.eq_false_iff.mpr h2) (And.intro (Bool.eq_false_iff.mpr h2) (And.intro (Bool.eq_false_iff.mpr h3) (And.intro (Bool.eq_false_iff.mpr h3) (And.intro (Bool.eq_false_iff.mpr h3) (And.intro (Bool.eq_false_iff.mpr h3) (And.intro (Bool.eq_false_iff.mpr h4) (And.intro (Bool.eq_false_iff.mpr h5) (And.intro (Bool.eq_false_iff.mpr h5) (And.intro (Bool.eq_false_iff.mpr h5) (And.intro (Bool.eq_false_iff.mpr h5) True.intro))))))))))))))))))))
/-! ## 81 -/
def F81 (z1095 : Int) : Bool :=
  if z1095 ≥ -67108864 then
   decide (z1095 ≤ 67108864)
  else
   false
theorem F81_ok (m : Nat) (z1095 : Int) (b1098 : Bool) (h : F81 z1095 = b1098) : call Try.prog X O0 18446744073709551616 (m + 1) 81 ([i64 z1095]) ([]) = some (vb b1098, []) := by
  unfold F81 at h
  rcases ite_eq h with ⟨h0, h⟩ | ⟨h0, h⟩
  · skip
    subst h
    exact call_pathL (gs := [.t, .t, .t]) (notIn []) rfl rfl (by kernel_rfl) (And.intro (decide_eq_true h0) (And.intro (decide_eq_true h0) (And.intro (decide_eq_true h0) True.intro)))
  · skip
    subst h
    exact call_pathL (gs := [.f, .f, .f]) (notIn []) rfl rfl (by kernel_rfl) (And.intro (decide_eq_false h0) (And.intro (decide_eq_false h0) (And.intro (decide_eq_false h0) True.intro)))
/-! ## 56 -/
def F56 (z1080 : Int) (z1081 : Int) (z1082 : Int) (z1083 : Int) (z1084 : Int) (z1085 : Int) (z1086 : Int) (z1087 : Int) (z1088 : Int) (z1089 : Int) (z1090 : Int) (z1091 : Int) (z1092 : Int) (z1093 : Int) : Bool :=
  bnd (F81 (z1089)) fun b1099 =>
  if (b1099) = true then
   bnd (F81 (z1090)) fun b1100 =>
   if (b1100) = true then
    bnd (F81 (z1091)) fun b1101 =>
    if (b1101) = true then
     bnd (F81 (z1092)) fun b1102 =>
     if z1080 ≥ 0 then
      if z1080 ≤ 2 then
       if (b1102) = true then
        bnd (F81 (z1093)) fun b1103 =>
        b1103
       else
        false
      else
       false
     else
      false
    else
     if z1080 ≥ 0 then
      if z1080 ≤ 2 then
       false
      else
       false
     else
      false
   else
    if z1080 ≥ 0 then
     if z1080 ≤ 2 then
      false
     else
      false
    else
     false
  else
   if z1080 ≥ 0 then
    if z1080 ≤ 2 then
     false
    else
     false
   else
    false
theorem F56_ok (m : Nat) (z1080 : Int) (z1081 : Int) (z1082 : Int) (z1083 : Int) (z1084 : Int) (z1085 : Int) (z1086 : Int) (z1087 : Int) (z1088 : Int) (z1089 : Int) (z1090 : Int) (z1091 : Int) (z1092 : Int) (z1093 : Int) (b1105 : Bool) (h : F56 z1080 z1081 z1082 z1083 z1084 z1085 z1086 z1087 z1088 z1089 z1090 z1091 z1092 z1093 = b1105) : call Try.prog X O0 18446744073709551616 (m + 2) 56 ([V.agg [i64 z1080, u8 z1081, u8 z1082, u8 z1083, u8 z1084, u8 z1085, u8 z1086, u8 z1087, u8 z1088, i64 z1089, i64 z1090, i64 z1091, i64 z1092, i64 z1093]]) ([]) = some (vb b1105, []) := by
  unfold F56 at h
  obtain ⟨b1099, h0, h⟩ := bnd_eq h
  rcases ite_eq h with ⟨h1, h⟩ | ⟨h1, h⟩
  · skip
    obtain ⟨b1100, h2, h⟩ := bnd_eq h
    rcases ite_eq h with ⟨h3, h⟩ | ⟨h3, h⟩
    · skip
      obtain ⟨b1101, h4, h⟩ := bnd_eq h
      rcases ite_eq h with ⟨h5, h⟩ | ⟨h5, h⟩
      · skip
        obtain ⟨b1102, h6, h⟩ := bnd_eq h
        rcases ite_eq h with ⟨h7, h⟩ | ⟨h7, h⟩
        · skip
          rcases ite_eq h with ⟨h8, h⟩ | ⟨h8, h⟩
          · skip
            rcases ite_eq h with ⟨h9, h⟩ | ⟨h9, h⟩
            · skip
              obtain ⟨b1103, h10, h⟩ := bnd_eq h
              subst h
              exact call_pathL (gs := [.a, .an (vb b1099) [], .t, .t, .t, .a, .t, .an (vb b1100) [], .t, .t, .t, .t, .a, .t, .an (vb b1101) [], .t, .t, .t, .t, .a, .t, .an (vb b1102) [], .t, .a, .t, .t, .a, .t, .t, .t, .t, .t, .t, .a, .t, .an (vb b1103) [], .t]) (notIn []) rfl rfl (by kernel_rfl) (And.intro (F81_ok (m + 0) (z1089) b1099 h0) (And.intro h1 (And.intro h1 (And.intro h1 (And.intro h1 (And.intro (F81_ok (m + 0) (z1090) b1100 h2) (And.intro h1 (And.intro h3 (And.intro h3 (And.intro h3 (And.intro h3 (And.intro (F81_ok (m + 0) (z1091) b1101 h4) (And.intro h3 (And.intro h5 (And.intro h5 (And.intro h5 (And.intro h5 (And.intro (F81_ok (m + 0) (z1092) b1102 h6) (And.intro h5 (And.intro (decide_eq_true h7) (And.intro (decide_eq_true h7) (And.intro (decide_eq_true h7) (And.intro (decide_eq_true h7) (And.intro (decide_eq_true h8) (And.intro (decide_eq_true h8) (And.intro h9 (And.intro h9 (And.intro h9 (And.intro (F81_ok (m + 0) (z1093) b1103 h10) (And.intro h9 True.intro))))))))))))))))))))))))))))))
            · skip
              subst h
              exact call_pathL (gs := [.a, .an (vb b1099) [], .t, .t, .t, .a, .t, .an (vb b1100) [], .t, .t, .t, .t, .a, .t, .an (vb b1101) [], .t, .t, .t, .t, .a, .t, .an (vb b1102) [], .t, .a, .t, .t, .a, .t, .t, .t, .t, .f, .f, .f, .f]) (notIn []) rfl rfl (by kernel_rfl) (And.intro (F81_ok (m + 0) (z1089) b1099 h0) (And.intro h1 (And.intro h1 (And.intro h1 (And.intro h1 (And.intro (F81_ok (m + 0) (z1090) b1100 h2) (And.intro h1 (And.intro h3 (And.intro h3 (And.intro h3 (And.intro h3 (And.intro (F81_ok (m + 0) (z1091) b1101 h4) (And.intro h3 (And.intro h5 (And.intro h5 (And.intro h5 (And.intro h5 (And.intro (F81_ok (m + 0) (z1092) b1102 h6) (And.intro h5 (And.intro (decide_eq_true h7) (And.intro (decide_eq_true h7) (And.intro (decide_eq_true h7) (And.intro (decide_eq_true h7) (And.intro (decide_eq_true h8) (And.intro (decide_eq_true h8) (And.intro (Bool.eq_false_iff.mpr h9) (And.intro (Bool.eq_false_iff.mpr h9) (And.intro (Bool.eq_false_iff.mpr h9) (And.intro (Bool.eq_false_iff.mpr h9) True.intro)))))))))))))))))))))))))))))
          · skip
            subst h
            exact call_pathL (gs := [.a, .an (vb b1099) [], .t, .t, .t, .a, .t, .an (vb b1100) [], .t, .t, .t, .t, .a, .t, .an (vb b1101) [], .t, .t, .t, .t, .a, .t, .an (vb b1102) [], .t, .a, .t, .t, .a, .t, .t, .f, .f, .a, .a, .a, .a]) (notIn []) rfl rfl (by kernel_rfl) (And.intro (F81_ok (m + 0) (z1089) b1099 h0) (And.intro h1 (And.intro h1 (And.intro h1 (And.intro h1 (And.intro (F81_ok (m + 0) (z1090) b1100 h2) (And.intro h1 (And.intro h3 (And.intro h3 (And.intro h3 (And.intro h3 (And.intro (F81_ok (m + 0) (z1091) b1101 h4) (And.intro h3 (And.intro h5 (And.intro h5 (And.intro h5 (And.intro h5 (And.intro (F81_ok (m + 0) (z1092) b1102 h6) (And.intro h5 (And.intro (decide_eq_true h7) (And.intro (decide_eq_true h7) (And.intro (decide_eq_true h7) (And.intro (decide_eq_true h7) (And.intro (decide_eq_false h8) (And.intro (decide_eq_false h8) True.intro)))))))))))))))))))))))))
        · skip
          subst h
          exact call_pathL (gs := [.a, .an (vb b1099) [], .t, .t, .t, .a, .t, .an (vb b1100) [], .t, .t, .t, .t, .a, .t, .an (vb b1101) [], .t, .t, .t, .t, .a, .t, .an (vb b1102) [], .t, .a, .f, .f, .f, .f, .a, .a, .a, .a, .a, .a]) (notIn []) rfl rfl (by kernel_rfl) (And.intro (F81_ok (m + 0) (z1089) b1099 h0) (And.intro h1 (And.intro h1 (And.intro h1 (And.intro h1 (And.intro (F81_ok (m + 0) (z1090) b1100 h2) (And.intro h1 (And.intro h3 (And.intro h3 (And.intro h3 (And.intro h3 (And.intro (F81_ok (m + 0) (z1091) b1101 h4) (And.intro h3 (And.intro h5 (And.intro h5 (And.intro h5 (And.intro h5 (And.intro (F81_ok (m + 0) (z1092) b1102 h6) (And.intro h5 (And.intro (decide_eq_false h7) (And.intro (decide_eq_false h7) (And.intro (decide_eq_false h7) (And.intro (decide_eq_false h7) True.intro)))))))))))))))))))))))
      · skip
        rcases ite_eq h with ⟨h6, h⟩ | ⟨h6, h⟩
        · skip
          rcases ite_eq h with ⟨h7, h⟩ | ⟨h7, h⟩
          · skip
            subst h
            exact call_pathL (gs := [.a, .an (vb b1099) [], .t, .t, .t, .a, .t, .an (vb b1100) [], .t, .t, .t, .t, .a, .t, .an (vb b1101) [], .t, .f, .f, .f, .f, .f, .a, .t, .t, .a, .t, .t, .t, .t, .a, .a, .a, .a]) (notIn []) rfl rfl (by kernel_rfl) (And.intro (F81_ok (m + 0) (z1089) b1099 h0) (And.intro h1 (And.intro h1 (And.intro h1 (And.intro h1 (And.intro (F81_ok (m + 0) (z1090) b1100 h2) (And.intro h1 (And.intro h3 (And.intro h3 (And.intro h3 (And.intro h3 (And.intro (F81_ok (m + 0) (z1091) b1101 h4) (And.intro h3 (And.intro (Bool.eq_false_iff.mpr h5) (And.intro (Bool.eq_false_iff.mpr h5) (And.intro (Bool.eq_false_iff.mpr h5) (And.intro (Bool.eq_false_iff.mpr h5) (And.intro (Bool.eq_false_iff.mpr h5) (And.intro (decide_eq_true h6) (And.intro (decide_eq_true h6) (And.intro (decide_eq_true h6) (And.intro (decide_eq_true h6) (And.intro (decide_eq_true h7) (And.intro (decide_eq_true h7) True.intro))))))))))))))))))))))))
          · skip
            subst h
            exact call_pathL (gs := [.a, .an (vb b1099) [], .t, .t, .t, .a, .t, .an (vb b1100) [], .t, .t, .t, .t, .a, .t, .an (vb b1101) [], .t, .f, .f, .f, .f, .f, .a, .t, .t, .a, .t, .t, .f, .f, .a, .a, .a, .a]) (notIn []) rfl rfl (by kernel_rfl) (And.intro (F81_ok (m + 0) (z1089) b1099 h0) (And.intro h1 (And.intro h1 (And.intro h1 (And.intro h1 (And.intro (F81_ok (m + 0) (z1090) b1100 h2) (And.intro h1 (And.intro h3 (And.intro h3 (And.intro h3 (And.intro h3 (And.intro (F81_ok (m + 0) (z1091) b1101 h4) (And.intro h3 (And.intro (Bool.eq_false_iff.mpr h5) (And.intro (Bool.eq_false_iff.mpr h5) (And.intro (Bool.eq_false_iff.mpr h5) (And.intro (Bool.eq_false_iff.mpr h5) (And.intro (Bool.eq_false_iff.mpr h5) (And.intro (decide_eq_true h6) (And.intro (decide_eq_true h6) (And.intro (decide_eq_true h6) (And.intro (decide_eq_true h6) (And.intro (decide_eq_false h7) (And.intro (decide_eq_false h7) True.intro))))))))))))))))))))))))
        · skip
          subst h
          exact call_pathL (gs := [.a, .an (vb b1099) [], .t, .t, .t, .a, .t, .an (vb b1100) [], .t, .t, .t, .t, .a, .t, .an (vb b1101) [], .t, .f, .f, .f, .f, .f, .a, .f, .f, .f, .f, .a, .a, .a, .a, .a, .a]) (notIn []) rfl rfl (by kernel_rfl) (And.intro (F81_ok (m + 0) (z1089) b1099 h0) (And.intro h1 (And.intro h1 (And.intro h1 (And.intro h1 (And.intro (F81_ok (m + 0) (z1090) b1100 h2) (And.intro h1 (And.intro h3 (And.intro h3 (And.intro h3 (And.intro h3 (And.intro (F81_ok (m + 0) (z1091) b1101 h4) (And.intro h3 (And.intro (Bool.eq_false_iff.mpr h5) (And.intro (Bool.eq_false_iff.mpr h5) (And.intro (Bool.eq_false_iff.mpr h5) (And.intro (Bool.eq_false_iff.mpr h5) (And.intro (Bool.eq_false_iff.mpr h5) (And.intro (decide_eq_false h6) (And.intro (decide_eq_false h6) (And.intro (decide_eq_false h6) (And.intro (decide_eq_false h6) True.intro))))))))))))))))))))))
    · skip
      rcases ite_eq h with ⟨h4, h⟩ | ⟨h4, h⟩
      · skip
        rcases ite_eq h with ⟨h5, h⟩ | ⟨h5, h⟩
        · skip
          subst h
          exact call_pathL (gs := [.a, .an (vb b1099) [], .t, .t, .t, .a, .t, .an (vb b1100) [], .t, .f, .f, .f, .f, .f, .a, .a, .a, .a, .a, .a, .t, .t, .a, .t, .t, .t, .t, .a, .a, .a, .a]) (notIn []) rfl rfl (by kernel_rfl) (And.intro (F81_ok (m + 0) (z1089) b1099 h0) (And.intro h1 (And.intro h1 (And.intro h1 (And.intro h1 (And.intro (F81_ok (m + 0) (z1090) b1100 h2) (And.intro h1 (And.intro (Bool.eq_false_iff.mpr h3) (And.intro (Bool.eq_false_iff.mpr h3) (And.intro (Bool.eq_false_iff.mpr h3) (And.intro (Bool.eq_false_iff.mpr h3) (And.intro (Bool.eq_false_iff.mpr h3) (And.intro (decide_eq_true h4) (And.intro (decide_eq_true h4) (And.intro (decide_eq_true h4) (And.intro (decide_eq_true h4) (And.intro (decide_eq_true h5) (And.intro (decide_eq_true h5) True.intro))))))))))))))))))
        · skip
          subst h
          exact call_pathL (gs := [.a, .an (vb b1099) [], .t, .t, .t, .a, .t, .an (vb b1100) [], .t, .f, .f, .f, .f, .f, .a, .a, .a, .a, .a, .a, .t, .t, .a, .t, .t, .f, .f, .a, .a, .a, .a]) (notIn []) rfl rfl (by kernel_rfl) (And.intro (F81_ok (m + 0) (z1089) b1099 h0) (And.intro h1 (And.intro h1 (And.intro h1 (And.intro h1 (And.intro (F81_ok (m + 0) (z1090) b1100 h2) (And.intro h1 (And.intro (Bool.eq_false_iff.mpr h3) (And.intro (Bool.eq_false_iff.mpr h3) (And.intro (Bool.eq_false_iff.mpr h3) (And.intro (Bool.eq_false_iff.mpr h3) (And.intro (Bool.eq_false_iff.mpr h3) (And.intro (decide_eq_true h4) (And.intro (decide_eq_true h4) (And.intro (decide_eq_true h4) (And.intro (decide_eq_true h4) (And.intro (decide_eq_false h5) (And.intro (decide_eq_false h5) True.intro))))))))))))))))))
      · skip
        subst h
        exact call_pathL (gs := [.a, .an (vb b1099) [], .t, .t, .t, .a, .t, .an (vb b1100) [], .t, .f, .f, .f, .f, .f, .a, .a, .a, .a, .a, .a, .f, .f, .f, .f, .a, .a, .a, .a, .a, .a]) (notIn []) rfl rfl (by kernel_rfl) (And.intro (F81_ok (m + 0) (z1089) b1099 h0) (And.intro h1 (And.intro h1 (And.intro h1 (And.intro h1 (And.intro (F81_ok (m + 0) (z1090) b1100 h2) (And.intro h1 (And.intro (Bool.eq_false_iff.mpr h3) (And.intro (Bool.eq_false_iff.mpr h3) (And.intro (Bool.eq_false_iff.mpr h3) (And.intro (Bool.eq_false_iff.mpr h3) (And.intro (Bool.eq_false_iff.mpr h3) (And.intro (decide_eq_false h4) (And.intro (decide_eq_false h4) (And.intro (decide_eq_false h4) (And.intro (decide_eq_false h4) True.intro))))))))))))))))
  · skip
    rcases ite_eq h with ⟨h2, h⟩ | ⟨h2, h⟩
    · skip
      rcases ite_eq h with ⟨h3, h⟩ | ⟨h3, h⟩
      · skip
        subst h
        exact call_pathL (gs := [.a, .an (vb b1099) [], .f, .f, .f, .f, .f, .a, .a, .a, .a, .a, .a, .a, .a, .a, .a, .a, .t, .t, .a, .t, .t, .t, .t, .a, .a, .a, .a]) (notIn []) rfl rfl (by kernel_rfl) (And.intro (F81_ok (m + 0) (z1089) b1099 h0) (And.intro (Bool.eq_false_iff.mpr h1) (And.intro (Bool.eq_false_iff.mpr h1) (And.intro (Bool.eq_false_iff.mpr h1) (And.intro (Bool.eq_false_iff.mpr h1) (And.intro (Bool.eq_false_iff.mpr h1) (And.intro (decide_eq_true h2) (And.intro (decide_eq_true h2) (And.intro (decide_eq_true h2) (And.intro (decide_eq_true h2) (And.intro (decide_eq_true h3) (And.intro (decide_eq_true h3) True.intro))))))))))))
      · skip
        subst h
        exact call_pathL (gs := [.a, .an (vb b1099) [], .f, .f, .f, .f, .f, .a, .a, .a, .a, .a, .a, .a, .a, .a, .a, .a, .t, .t, .a, .t, .t, .f, .f, .a, .a, .a, .a]) (notIn []) rfl rfl (by kernel_rfl) (And.intro (F81_ok (m + 0) (z1089) b1099 h0) (And.intro (Bool.eq_false_iff.mpr h1) (And.intro (Bool.eq_false_iff.mpr h1) (And.intro (Bool.eq_false_iff.mpr h1) (And.intro (Bool.eq_false_iff.mpr h1) (And.intro (Bool.eq_false_iff.mpr h1) (And.intro (decide_eq_true h2) (And.intro (decide_eq_true h2) (And.intro (decide_eq_true h2) (And.intro (decide_eq_true h2) (And.intro (decide_eq_false h3) (And.intro (decide_eq_false h3) True.intro))))))))))))
    · skip
      subst h
      exact call_pathL (gs := [.a, .an (vb b1099) [], .f, .f, .f, .f, .f, .a, .a, .a, .a, .a, .a, .a, .a, .a, .a, .a, .f, .f, .f, .f, .a, .a, .a, .a, .a, .a]) (notIn []) rfl rfl (by kernel_rfl) (And.intro (F81_ok (m + 0) (z1089) b1099 h0) (And.intro (Bool.eq_false_iff.mpr h1) (And.intro (Bool.eq_false_iff.mpr h1) (And.intro (Bool.eq_false_iff.mpr h1) (And.intro (Bool.eq_false_iff.mpr h1) (And.intro (Bool.eq_false_iff.mpr h1) (And.intro (decide_eq_false h2) (And.intro (decide_eq_false h2) (And.intro (decide_eq_false h2) (And.intro (decide_eq_false h2) True.intro))))))))))
/-! ## 16 -/
noncomputable abbrev B16 : Code := (Try.f16.body).getD .skip
inductive R16_0 where
  | e0
  | e1 (l1173 : List (List V))
@[reducible] def s16_0_0 (l1156 : List (List V)) (z1157 : Int) (z1158 : Int) (z1159 : Int) (b1160 : Bool) (z1161 : Int) (z1162 : Int) (z1163 : Int) (z1164 : Int) (z1165 : Int) (z1166 : Int) (z1167 : Int) (z1168 : Int) (z1169 : Int) (z1170 : Int) (b1171 : Bool) (b1172 : Bool) : S := { T := V.list 10 l1156 :: U :: vb false :: i64 z1157 :: i64 z1158 :: V.ptr 0 0 0 :: V.list 10 l1156 :: i64 z1159 :: i64 z1158 :: vb b1160 :: i64 z1158 :: V.pp [i64 z1161, u8 z1162, u8 z1163, u8 z1164, u8 z1165, i64 z1166, i64 z1167, i64 z1168, i64 z1169, i64 z1170] :: V.agg [i64 z1161, u8 z1162, u8 z1163, u8 z1164, u8 z1165, i64 z1166, i64 z1167, i64 z1168, i64 z1169, i64 z1170] :: i64 z1158 :: i64 z1157 :: V.ptr 0 0 0 :: i64 z1161 :: V.ptr 0 0 5 :: i64 z1166 :: V.ptr 0 0 6 :: V.agg [i64 z1167, i64 z1168, i64 z1169, i64 z1170] :: vb b1171 :: vb b1172 :: un 6 [], σ := [Ob.cells true false 10 [[i64 z1161, u8 z1162, u8 z1163, u8 z1164, u8 z1165, i64 z1166, i64 z1167, i64 z1168, i64 z1169, i64 z1170]]] }
@[reducible] def s16_0_1 (l1173 : List (List V)) (z1174 : Int) (z1175 : Int) (z1176 : Int) (b1177 : Bool) : S := { T := V.list 10 l1173 :: U :: U :: i64 z1174 :: U :: U :: V.list 10 l1173 :: i64 z1175 :: i64 z1176 :: vb b1177 :: un 19 [], σ := [] }
def R16_0.St : R16_0 → VX × S → Prop
  | .e0, p => ∃ l1156 : List (List V), ∃ z1157 : Int, ∃ z1158 : Int, ∃ z1159 : Int, ∃ b1160 : Bool, ∃ z1161 : Int, ∃ z1162 : Int, ∃ z1163 : Int, ∃ z1164 : Int, ∃ z1165 : Int, ∃ z1166 : Int, ∃ z1167 : Int, ∃ z1168 : Int, ∃ z1169 : Int, ∃ z1170 : Int, ∃ b1171 : Bool, ∃ b1172 : Bool, p = (VX.ret, s16_0_0 l1156 z1157 z1158 z1159 b1160 z1161 z1162 z1163 z1164 z1165 z1166 z1167 z1168 z1169 z1170 b1171 b1172)
  | .e1 l1173, p => ∃ z1174 : Int, ∃ z1175 : Int, ∃ z1176 : Int, ∃ b1177 : Bool, p = (VX.exit 0, s16_0_1 l1173 z1174 z1175 z1176 b1177)
def L16_0 : Nat → List (List V) → Int → Int → Int → Option R16_0
  | 0, _, _, _, _ => none
  | n + 1, l1128, z1129, z1130, z1131 =>
    if z1131 < z1130 then
     if 0 ≤ z1131 then
      ((l1128[Int.toNat z1131]?).bind W33.dec).bind fun e1154 =>
      bnd (F36 (z1131) (z1129) (e1154.c0) (e1154.c5) (e1154.c6) (e1154.c7) (e1154.c8) (e1154.c9)) fun b1155 =>
      if (!b1155) = true then
       some (R16_0.e0)
      else
       L16_0 n (l1128) (e1154.c0) (z1130) (w64 (z1131 + 1))
     else
      none -- none
    else
     some (R16_0.e1 (l1128))
theorem L16_0_ok (m : Nat) : ∀ (n : Nat) (l1128 : List (List V)) (z1129 : Int) (z1130 : Int) (z1131 : Int) (r : R16_0), L16_0 n l1128 z1129 z1130 z1131 = some r → ∃ st, loopFrom Try.prog X (genO X (call Try.prog X O0 18446744073709551616 (m + 3))) 16 (0) 18446744073709551616 B16 0 n ({ T := V.list 10 l1128 :: U :: U :: i64 z1129 :: U :: U :: V.list 10 l1128 :: i64 z1130 :: i64 z1131 :: un 20 [], σ := [] }) = some st ∧ r.St st
  | 0, _, _, _, _, r, h => by cases h
  | n + 1, l1128, z1129, z1130, z1131, r, h => by
    rw [L16_0] at h
    rcases ite_eq h with ⟨h0, h⟩ | ⟨h0, h⟩
    · skip
      rcases ite_eq h with ⟨h1, h⟩ | ⟨h1, h⟩
      · skip
        obtain ⟨e1154, h2, h⟩ := Option.bind_eq_some_iff.mp h
        obtain ⟨b1155, h3, h⟩ := bnd_eq h
        rcases ite_eq h with ⟨h4, h⟩ | ⟨h4, h⟩
        · skip
          cases h
          exact ⟨_, round_out (gs := [.t, .t, .el (W33.cells e1154), .a, .a, .a, .a, .an (vb b1155) [], .t]) (notIn []) (by kernel_rfl) rfl (And.intro (decide_eq_true h0) (And.intro (decide_eq_true h1) (And.intro (W33.dec_ok h2) (And.intro (F36_ok (m + 0) (z1131) (z1129) (e1154.c0) (e1154.c5) (e1154.c6) (e1154.c7) (e1154.c8) (e1154.c9) b1155 h3) (And.intro h4 True.intro))))) n, l1128, z1129, z1131, z1130, decide (z1131 < z1130), e1154.c0, e1154.c1, e1154.c2, e1154.c3, e1154.c4, e1154.c5, e1154.c6, e1154.c7, e1154.c8, e1154.c9, b1155, !b1155, rfl⟩
        · skip
          obtain ⟨st, hs, hr⟩ := L16_0_ok m n (l1128) (e1154.c0) (z1130) (w64 (z1131 + 1)) r h
          exact ⟨st, (round_on (gs := [.t, .t, .el (W33.cells e1154), .a, .a, .a, .a, .an (vb b1155) [], .f, .a]) (notIn []) (by kernel_rfl) (And.intro (decide_eq_true h0) (And.intro (decide_eq_true h1) (And.intro (W33.dec_ok h2) (And.intro (F36_ok (m + 0) (z1131) (z1129) (e1154.c0) (e1154.c5) (e1154.c6) (e1154.c7) (e1154.c8) (e1154.c9) b1155 h3) (And.intro (Bool.eq_false_iff.mpr h4) True.intro))))) n).trans hs, hr⟩
      · skip
        cases h
    · skip
      cases h
      exact ⟨_, round_out (gs := [.f]) (notIn []) (by kernel_rfl) rfl (And.intro (decide_eq_false h0) True.intro) n, z1129, z1130, z1131, decide (z1131 < z1130), rfl⟩
inductive A16 where
  | a0 (b1195 : Bool)
@[reducible] def A16.out : A16 → V × Store
  | .a0 b1195 => (vb b1195, [])
def F16 (l1107 : List (List V)) : Option A16 :=
  (L16_0 18446744073709551616 (l1107) (0) ((↑(List.length l1107) : Int)) (0)).bind fun r => match r with
  | .e0 =>
   some (A16.a0 (false))
  | .e1 l1196 =>
   some (A16.a0 (decide ((↑(List.length l1196) : Int) ≤ 32)))
theorem F16_ok (m : Nat) (l1107 : List (List V)) (r : A16) (h : F16 l1107 = some r) : call Try.prog X O0 18446744073709551616 (m + 4) 16 ([V.list 10 l1107]) ([]) = some r.out := by
  unfold F16 at h
  obtain ⟨r0, h0, h⟩ := Option.bind_eq_some_iff.mp h
  obtain ⟨st0, h0, hr0⟩ := L16_0_ok m 18446744073709551616 (l1107) (0) ((↑(List.length l1107) : Int)) (0) r0 h0
  have h0 : loopRun Try.prog X (genO X (call Try.prog X O0 18446744073709551616 (m + 3))) 16 (0) 18446744073709551616 B16 0 ({ T := V.list 10 l1107 :: U :: vb false :: i64 0 :: U :: U :: V.list 10 l1107 :: i64 (↑(List.length l1107) : Int) :: i64 0 :: un 20 [], σ := [] }) = some st0 := by
    rw [loopRun_from, show pre X 16 (0) 0 ({ T := V.list 10 l1107 :: U :: vb false :: i64 0 :: U :: U :: V.list 10 l1107 :: i64 (↑(List.length l1107) : Int) :: i64 0 :: un 20 [], σ := [] }) = { T := V.list 10 l1107 :: U :: U :: i64 0 :: U :: U :: V.list 10 l1107 :: i64 (↑(List.length l1107) : Int) :: i64 0 :: un 20 [], σ := [] } by kernel_rfl]
    exact h0
  cases r0 with
  | e0 =>
    obtain ⟨l1178, z1179, z1180, z1181, b1182, z1183, z1184, z1185, z1186, z1187, z1188, z1189, z1190, z1191, z1192, b1193, b1194, rfl⟩ := hr0
    cases h
    exact call_pathL (gs := [.lp (VX.ret) (s16_0_0 l1178 z1179 z1180 z1181 b1182 z1183 z1184 z1185 z1186 z1187 z1188 z1189 z1190 z1191 z1192 b1193 b1194)]) (notIn []) rfl rfl (by kernel_rfl) (And.intro h0 True.intro)
  | e1 l1196 =>
    obtain ⟨z1197, z1198, z1199, b1200, rfl⟩ := hr0
    cases h
    exact call_pathL (gs := [.lp (VX.exit 0) (s16_0_1 l1196 z1197 z1198 z1199 b1200)]) (notIn []) rfl rfl (by kernel_rfl) (And.intro h0 True.intro)
/-! ## 83 -/
def F83 (z1214 : Int) : Bool :=
  if z1214 < 65536 then
   true
  else
   decide (z1214 > 67108864)
theorem F83_ok (m : Nat) (z1214 : Int) (b1217 : Bool) (h : F83 z1214 = b1217) : call Try.prog X O0 18446744073709551616 (m + 1) 83 ([i64 z1214]) ([]) = some (vb b1217, []) := by
  unfold F83 at h
  rcases ite_eq h with ⟨h0, h⟩ | ⟨h0, h⟩
  · skip
    subst h
    exact call_pathL (gs := [.t, .t, .t]) (notIn []) rfl rfl (by kernel_rfl) (And.intro (decide_eq_true h0) (And.intro (decide_eq_true h0) (And.intro (decide_eq_true h0) True.intro)))
  · skip
    subst h
    exact call_pathL (gs := [.f, .f, .f]) (notIn []) rfl rfl (by kernel_rfl) (And.intro (decide_eq_false h0) (And.intro (decide_eq_false h0) (And.intro (decide_eq_false h0) True.intro)))
/-! ## 105 -/
noncomputable abbrev B105 : Code := (Try.f105.body).getD .skip
inductive R105_0 where
  | e0 (z1242 : Int)
  | e1
@[reducible] def s105_0_0 (l1241 : List (List V)) (z1242 : Int) (z1243 : Int) (b1244 : Bool) (z1245 : Int) (b1246 : Bool) : S := { T := [V.list 1 l1241, V.fn 83 [], U, U, i64 z1242, i64 z1242, U, i64 z1243, i64 z1242, vb b1244, i64 z1242, V.fn 83 [], V.list 1 l1241, i64 z1242, V.pp [i64 z1245], i64 z1245, vb b1246, i64 z1242, U], σ := [] }
@[reducible] def s105_0_1 (l1247 : List (List V)) (z1248 : Int) (z1249 : Int) (b1250 : Bool) : S := { T := V.list 1 l1247 :: V.fn 83 [] :: un 5 (i64 z1248 :: i64 z1249 :: vb b1250 :: un 9 []), σ := [] }
def R105_0.St : R105_0 → VX × S → Prop
  | .e0 z1242, p => ∃ l1241 : List (List V), ∃ z1243 : Int, ∃ b1244 : Bool, ∃ z1245 : Int, ∃ b1246 : Bool, p = (VX.ret, s105_0_0 l1241 z1242 z1243 b1244 z1245 b1246)
  | .e1, p => ∃ l1247 : List (List V), ∃ z1248 : Int, ∃ z1249 : Int, ∃ b1250 : Bool, p = (VX.exit 0, s105_0_1 l1247 z1248 z1249 b1250)
def L105_0 : Nat → List (List V) → Int → Int → Option R105_0
  | 0, _, _, _ => none
  | n + 1, l1224, z1225, z1226 =>
    if z1226 < z1225 then
     if 0 ≤ z1226 then
      ((l1224[Int.toNat z1226]?).bind W2.dec).bind fun e1239 =>
      bnd (F83 (e1239.c0)) fun b1240 =>
      if (b1240) = true then
       some (R105_0.e0 (z1226))
      else
       L105_0 n (l1224) (z1225) (w64 (z1226 + 1))
     else
      none -- none
    else
     some (R105_0.e1)
theorem L105_0_ok (m : Nat) : ∀ (n : Nat) (l1224 : List (List V)) (z1225 : Int) (z1226 : Int) (r : R105_0), L105_0 n l1224 z1225 z1226 = some r → ∃ st, loopFrom Try.prog X (genO X (call Try.prog X O0 18446744073709551616 (m + 1))) 105 (0) 18446744073709551616 B105 0 n ({ T := V.list 1 l1224 :: V.fn 83 [] :: un 5 (i64 z1225 :: i64 z1226 :: un 10 []), σ := [] }) = some st ∧ r.St st
  | 0, _, _, _, r, h => by cases h
  | n + 1, l1224, z1225, z1226, r, h => by
    rw [L105_0] at h
    rcases ite_eq h with ⟨h0, h⟩ | ⟨h0, h⟩
    · skip
      rcases ite_eq h with ⟨h1, h⟩ | ⟨h1, h⟩
      · skip
        obtain ⟨e1239, h2, h⟩ := Option.bind_eq_some_iff.mp h
        obtain ⟨b1240, h3, h⟩ := bnd_eq h
        rcases ite_eq h with ⟨h4, h⟩ | ⟨h4, h⟩
        · skip
          cases h
          exact ⟨_, round_out (gs := [.t, .t, .el (W2.cells e1239), .an (vb b1240) [], .t]) (notIn []) (by kernel_rfl) rfl (And.intro (decide_eq_true h0) (And.intro (decide_eq_true h1) (And.intro (W2.dec_ok h2) (And.intro (F83_ok (m + 0) (e1239.c0) b1240 h3) (And.intro h4 True.intro))))) n, l1224, z1225, decide (z1226 < z1225), e1239.c0, b1240, rfl⟩
        · skip
          obtain ⟨st, hs, hr⟩ := L105_0_ok m n (l1224) (z1225) (w64 (z1226 + 1)) r h
          exact ⟨st, (round_on (gs := [.t, .t, .el (W2.cells e1239), .an (vb b1240) [], .f]) (notIn []) (by kernel_rfl) (And.intro (decide_eq_true h0) (And.intro (decide_eq_true h1) (And.intro (W2.dec_ok h2) (And.intro (F83_ok (m + 0) (e1239.c0) b1240 h3) (And.intro (Bool.eq_false_iff.mpr h4) True.intro))))) n).trans hs, hr⟩
      · skip
        cases h
    · skip
      cases h
      exact ⟨_, round_out (gs := [.f]) (notIn []) (by kernel_rfl) rfl (And.intro (decide_eq_false h0) True.intro) n, l1224, z1225, z1226, decide (z1226 < z1225), rfl⟩
inductive A105 where
  | a0 (z1257 : Int)
@[reducible] def A105.out : A105 → V × Store
  | .a0 z1257 => (i64 z1257, [])
def F105 (l1209 : List (List V)) : Option A105 :=
  (L105_0 18446744073709551616 (l1209) ((↑(List.length l1209) : Int)) (0)).bind fun r => match r with
  | .e0 z1252 =>
   some (A105.a0 (z1252))
  | .e1 =>
   some (A105.a0 (-1))
theorem F105_ok (m : Nat) (l1209 : List (List V)) (r : A105) (h : F105 l1209 = some r) : call Try.prog X O0 18446744073709551616 (m + 2) 105 ([V.list 1 l1209, V.fn 83 []]) ([]) = some r.out := by
  unfold F105 at h
  obtain ⟨r0, h0, h⟩ := Option.bind_eq_some_iff.mp h
  obtain ⟨st0, h0, hr0⟩ := L105_0_ok m 18446744073709551616 (l1209) ((↑(List.length l1209) : Int)) (0) r0 h0
  have h0 : loopRun Try.prog X (genO X (call Try.prog X O0 18446744073709551616 (m + 1))) 105 (0) 18446744073709551616 B105 0 ({ T := V.list 1 l1209 :: V.fn 83 [] :: U :: U :: i64 0 :: U :: V.list 1 l1209 :: i64 (↑(List.length l1209) : Int) :: i64 0 :: un 10 [], σ := [] }) = some st0 := by
    rw [loopRun_from, show pre X 105 (0) 0 ({ T := V.list 1 l1209 :: V.fn 83 [] :: U :: U :: i64 0 :: U :: V.list 1 l1209 :: i64 (↑(List.length l1209) : Int) :: i64 0 :: un 10 [], σ := [] }) = { T := V.list 1 l1209 :: V.fn 83 [] :: un 5 (i64 (↑(List.length l1209) : Int) :: i64 0 :: un 10 []), σ := [] } by kernel_rfl]
    exact h0
  cases r0 with
  | e0 z1252 =>
    obtain ⟨l1251, z1253, b1254, z1255, b1256, rfl⟩ := hr0
    cases h
    exact call_pathL (gs := [.lp (VX.ret) (s105_0_0 l1251 z1252 z1253 b1254 z1255 b1256)]) (notIn []) rfl rfl (by kernel_rfl) (And.intro h0 True.intro)
  | e1 =>
    obtain ⟨l1258, z1259, z1260, b1261, rfl⟩ := hr0
    cases h
    exact call_pathL (gs := [.lp (VX.exit 0) (s105_0_1 l1258 z1259 z1260 b1261)]) (notIn []) rfl rfl (by kernel_rfl) (And.intro h0 True.intro)
/-! ## 82 -/
inductive A82 where
  | a0 (b1263 : Bool)
@[reducible] def A82.out : A82 → V × Store
  | .a0 b1263 => (vb b1263, [])
def F82 (l1207 : List (List V)) : Option A82 :=
  (F105 (l1207)).bind fun r => match r with
  | .a0 z1262 =>
   some (A82.a0 (decide (z1262 ≥ 0)))
theorem F82_ok (m : Nat) (l1207 : List (List V)) (r : A82) (h : F82 l1207 = some r) : call Try.prog X O0 18446744073709551616 (m + 3) 82 ([V.list 1 l1207, V.fn 83 []]) ([]) = some r.out := by
  unfold F82 at h
  obtain ⟨r0, h0, h⟩ := Option.bind_eq_some_iff.mp h
  have h0 := F105_ok (m + 0) (l1207) r0 h0
  cases r0 with
  | a0 z1262 =>
    cases h
    exact call_pathL (gs := [.an (i64 z1262) []]) (notIn []) rfl rfl (by kernel_rfl) (And.intro h0 True.intro)
/-! ## 58 -/
inductive A58 where
  | a0 (b1265 : Bool)
@[reducible] def A58.out : A58 → V × Store
  | .a0 b1265 => (vb b1265, [])
def F58 (l1205 : List (List V)) : Option A58 :=
  if (↑(List.length l1205) : Int) ≤ 8 then
   (F82 (l1205)).bind fun r => match r with
   | .a0 b1264 =>
    some (A58.a0 (!b1264))
  else
   some (A58.a0 (false))
theorem F58_ok (m : Nat) (l1205 : List (List V)) (r : A58) (h : F58 l1205 = some r) : call Try.prog X O0 18446744073709551616 (m + 4) 58 ([V.list 1 l1205]) ([]) = some r.out := by
  unfold F58 at h
  rcases ite_eq h with ⟨h0, h⟩ | ⟨h0, h⟩
  · skip
    obtain ⟨r1, h1, h⟩ := Option.bind_eq_some_iff.mp h
    have h1 := F82_ok (m + 0) (l1205) r1 h1
    cases r1 with
    | a0 b1264 =>
      cases h
      exact call_pathL (gs := [.t, .t, .an (vb b1264) [], .t, .t]) (notIn []) rfl rfl (by kernel_rfl) (And.intro (decide_eq_true h0) (And.intro (decide_eq_true h0) (And.intro h1 (And.intro (decide_eq_true h0) (And.intro (decide_eq_true h0) True.intro)))))
  · skip
    cases h
    exact call_pathL (gs := [.f, .f, .f, .f]) (notIn []) rfl rfl (by kernel_rfl) (And.intro (decide_eq_false h0) (And.intro (decide_eq_false h0) (And.intro (decide_eq_false h0) (And.intro (decide_eq_false h0) True.intro))))
end Go.Proofs.Ytcomanfboibhiaa.H
