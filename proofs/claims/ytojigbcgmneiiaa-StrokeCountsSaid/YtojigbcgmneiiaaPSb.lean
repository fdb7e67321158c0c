/- What the functions compute, and that they do so over the machine of plain values (printed by this session's program wip/vm/Walk.lean). No condition beyond those stated. -/
import Derived.Test.YtojigbcgmneiiaaWk
import Derived.Test.YtojigbcgmneiiaaPSa
set_option linter.unusedVariables false
set_option linter.unusedSimpArgs false
namespace Go.Proofs.Ytojigbcgmneiiaa.H
open Go Go.VM
set_option maxRecDepth 100000
/-! ## 4 -/
noncomputable abbrev B4 : Code := (Try.f4.body).getD .skip
inductive R4_0 where
  | e0
  | e1
  | e2
  | e3
  | e4 (k1020 : Nat) (l1022 : List (List V))
@[reducible] def s4_0_0 (k956 : Nat) (z957 : Int) (z958 : Int) (b959 : Bool) (k960 : Nat) (b961 : Bool) (l962 : List (List V)) (b963 : Bool) (b964 : Bool) (k965 : Nat) (l966 : List (List V)) (l967 : List (List V)) : S := { T := un 4 (vb false :: V.ptr 0 0 0 :: U :: V.ptr 3 0 0 :: un 9 (V.hs 1 0 k956 :: i64 z957 :: i64 z958 :: vb b959 :: V.ptr 1 k960 0 :: V.agg [vb b961, V.list 2 l962] :: V.ptr 3 0 0 :: vb b961 :: vb b963 :: vb b963 :: E :: E :: E :: E :: vb true :: vb true :: E :: E :: E :: E :: vb true :: vb true :: E :: E :: E :: E :: vb true :: un 32 [])), σ := [Ob.cells true false 2 [[vb b964, V.hs 2 0 k965]], Ob.cells true true 2 l966, Ob.cells false true 2 l967, Ob.cells true false 2 [[vb b961, V.list 2 l962]]] }
@[reducible] def s4_0_1 (k968 : Nat) (z969 : Int) (z970 : Int) (b971 : Bool) (k972 : Nat) (b973 : Bool) (l974 : List (List V)) (b975 : Bool) (z976 : Int) (b977 : Bool) (b978 : Bool) (k979 : Nat) (l980 : List (List V)) (l981 : List (List V)) : S := { T := un 4 (vb false :: V.ptr 0 0 0 :: U :: V.ptr 3 0 0 :: un 9 (V.hs 1 0 k968 :: i64 z969 :: i64 z970 :: vb b971 :: V.ptr 1 k972 0 :: V.agg [vb b973, V.list 2 l974] :: V.ptr 3 0 0 :: vb b973 :: vb b975 :: vb b975 :: V.ptr 3 0 1 :: V.list 2 l974 :: i64 z976 :: vb b977 :: vb b977 :: vb b977 :: E :: E :: E :: E :: vb true :: vb true :: E :: E :: E :: E :: vb true :: un 32 [])), σ := [Ob.cells true false 2 [[vb b978, V.hs 2 0 k979]], Ob.cells true true 2 l980, Ob.cells false true 2 l981, Ob.cells true false 2 [[vb b973, V.list 2 l974]]] }
@[reducible] def s4_0_2 (k982 : Nat) (z983 : Int) (z984 : Int) (b985 : Bool) (k986 : Nat) (b987 : Bool) (l988 : List (List V)) (b989 : Bool) (z990 : Int) (b991 : Bool) (b992 : Bool) (b993 : Bool) (k994 : Nat) (l995 : List (List V)) (l996 : List (List V)) : S := { T := un 4 (vb false :: V.ptr 0 0 0 :: U :: V.ptr 3 0 0 :: un 9 (V.hs 1 0 k982 :: i64 z983 :: i64 z984 :: vb b985 :: V.ptr 1 k986 0 :: V.agg [vb b987, V.list 2 l988] :: V.ptr 3 0 0 :: vb b987 :: vb b989 :: vb b989 :: V.ptr 3 0 1 :: V.list 2 l988 :: i64 z990 :: vb b991 :: vb b991 :: vb b991 :: V.ptr 3 0 1 :: V.list 2 l988 :: i64 z990 :: vb b992 :: vb b992 :: vb b992 :: E :: E :: E :: E :: vb true :: un 32 [])), σ := [Ob.cells true false 2 [[vb b993, V.hs 2 0 k994]], Ob.cells true true 2 l995, Ob.cells false true 2 l996, Ob.cells true false 2 [[vb b987, V.list 2 l988]]] }
@[reducible] def s4_0_3 (k998 : Nat) (z999 : Int) (z1000 : Int) (b1001 : Bool) (k1002 : Nat) (b1003 : Bool) (l1004 : List (List V)) (b1005 : Bool) (z1006 : Int) (b1007 : Bool) (b1008 : Bool) (z1009 : Int) (b1010 : Bool) (b1011 : Bool) (k1012 : Nat) (l1013 : List (List V)) (l1014 : List (List V)) : S := { T := un 4 (vb false :: V.ptr 0 0 0 :: U :: V.ptr 3 0 0 :: un 9 (V.hs 1 0 k998 :: i64 z999 :: i64 z1000 :: vb b1001 :: V.ptr 1 k1002 0 :: V.agg [vb b1003, V.list 2 l1004] :: V.ptr 3 0 0 :: vb b1003 :: vb b1005 :: vb b1005 :: V.ptr 3 0 1 :: V.list 2 l1004 :: i64 z1006 :: vb b1007 :: vb b1007 :: vb b1007 :: V.ptr 3 0 1 :: V.list 2 l1004 :: i64 z1006 :: vb b1008 :: vb b1008 :: vb b1008 :: V.ptr 3 0 1 :: V.list 2 l1004 :: i64 z1009 :: vb b1010 :: vb b1010 :: un 32 [])), σ := [Ob.cells true false 2 [[vb b1011, V.hs 2 0 k1012]], Ob.cells true true 2 l1013, Ob.cells false true 2 l1014, Ob.cells true false 2 [[vb b1003, V.list 2 l1004]]] }
@[reducible] def s4_0_4 (k1015 : Nat) (z1016 : Int) (z1017 : Int) (b1018 : Bool) (b1019 : Bool) (k1020 : Nat) (l1021 : List (List V)) (l1022 : List (List V)) : S := { T := un 5 (V.ptr 0 0 0 :: un 11 (V.hs 1 0 k1015 :: i64 z1016 :: i64 z1017 :: vb b1018 :: un 55 [])), σ := [Ob.cells true false 2 [[vb b1019, V.hs 2 0 k1020]], Ob.cells true true 2 l1021, Ob.cells false true 2 l1022] }
def R4_0.St : R4_0 → VX × S → Prop
  | .e0, p => ∃ k956 : Nat, ∃ z957 : Int, ∃ z958 : Int, ∃ b959 : Bool, ∃ k960 : Nat, ∃ b961 : Bool, ∃ l962 : List (List V), ∃ b963 : Bool, ∃ b964 : Bool, ∃ k965 : Nat, ∃ l966 : List (List V), ∃ l967 : List (List V), p = (VX.ret, s4_0_0 k956 z957 z958 b959 k960 b961 l962 b963 b964 k965 l966 l967)
  | .e1, p => ∃ k968 : Nat, ∃ z969 : Int, ∃ z970 : Int, ∃ b971 : Bool, ∃ k972 : Nat, ∃ b973 : Bool, ∃ l974 : List (List V), ∃ b975 : Bool, ∃ z976 : Int, ∃ b977 : Bool, ∃ b978 : Bool, ∃ k979 : Nat, ∃ l980 : List (List V), ∃ l981 : List (List V), p = (VX.ret, s4_0_1 k968 z969 z970 b971 k972 b973 l974 b975 z976 b977 b978 k979 l980 l981)
  | .e2, p => ∃ k982 : Nat, ∃ z983 : Int, ∃ z984 : Int, ∃ b985 : Bool, ∃ k986 : Nat, ∃ b987 : Bool, ∃ l988 : List (List V), ∃ b989 : Bool, ∃ z990 : Int, ∃ b991 : Bool, ∃ b992 : Bool, ∃ b993 : Bool, ∃ k994 : Nat, ∃ l995 : List (List V), ∃ l996 : List (List V), p = (VX.ret, s4_0_2 k982 z983 z984 b985 k986 b987 l988 b989 z990 b991 b992 b993 k994 l995 l996)
  | .e3, p => ∃ k998 : Nat, ∃ z999 : Int, ∃ z1000 : Int, ∃ b1001 : Bool, ∃ k1002 : Nat, ∃ b1003 : Bool, ∃ l1004 : List (List V), ∃ b1005 : Bool, ∃ z1006 : Int, ∃ b1007 : Bool, ∃ b1008 : Bool, ∃ z1009 : Int, ∃ b1010 : Bool, ∃ b1011 : Bool, ∃ k1012 : Nat, ∃ l1013 : List (List V), ∃ l1014 : List (List V), p = (VX.ret, s4_0_3 k998 z999 z1000 b1001 k1002 b1003 l1004 b1005 z1006 b1007 b1008 z1009 b1010 b1011 k1012 l1013 l1014)
  | .e4 k1020 l1022, p => ∃ k1015 : Nat, ∃ z1016 : Int, ∃ z1017 : Int, ∃ b1018 : Bool, ∃ b1019 : Bool, ∃ l1021 : List (List V), p = (VX.exit 0, s4_0_4 k1015 z1016 z1017 b1018 b1019 k1020 l1021 l1022)
def L4_0 : Nat → Nat → Int → Int → Bool → Nat → List (List V) → List (List V) → Option R4_0
  | 0, _, _, _, _, _, _, _ => none
  | n + 1, k785, z786, z787, b788, k789, l790, l791 =>
    if z787 < z786 then
     if 0 ≤ z787 ∧ z787 < (↑k785 : Int) then
      ((l790[(0 : Nat) + Int.toNat z787]?).bind W25.dec).bind fun e955 =>
      if (!e955.c0) = true then
       some (R4_0.e0)
      else
       if (↑(List.length e955.2) : Int) < 3 then
        some (R4_0.e1)
       else
        if (↑(List.length e955.2) : Int) > 4 then
         some (R4_0.e2)
        else
         (F17 (e955.2)).bind fun r => match r with
         | .a0 z997 =>
          if z997 < 0 then
           some (R4_0.e3)
          else
           L4_0 n (k785) (z786) (w64 (z787 + 1)) (b788) (k789) (l790) (l791)
     else
      none -- none
    else
     some (R4_0.e4 (k789) (l791))
theorem L4_0_ok (m : Nat) : ∀ (n : Nat) (k785 : Nat) (z786 : Int) (z787 : Int) (b788 : Bool) (k789 : Nat) (l790 : List (List V)) (l791 : List (List V)) (r : R4_0), L4_0 n k785 z786 z787 b788 k789 l790 l791 = some r → ∃ st, loopFrom Try.prog X (genO X (call Try.prog X O0 18446744073709551616 (m + 9))) 4 (0) 18446744073709551616 B4 0 n ({ T := un 5 (V.ptr 0 0 0 :: un 11 (V.hs 1 0 k785 :: i64 z786 :: i64 z787 :: un 56 [])), σ := [Ob.cells true false 2 [[vb b788, V.hs 2 0 k789]], Ob.cells true true 2 l790, Ob.cells false true 2 l791] }) = some st ∧ r.St st
  | 0, _, _, _, _, _, _, _, r, h => by cases h
  | n + 1, k785, z786, z787, b788, k789, l790, l791, r, h => by
    rw [L4_0] at h
    rcases ite_eq h with ⟨h0, h⟩ | ⟨h0, h⟩
    · skip
      rcases ite_eq h with ⟨h1, h⟩ | ⟨h1, h⟩
      · skip
        obtain ⟨e955, h2, h⟩ := Option.bind_eq_some_iff.mp h
        rcases ite_eq h with ⟨h3, h⟩ | ⟨h3, h⟩
        · skip
          cases h
          exact ⟨_, round_out (gs := [.t, .t, .el (W25.cells e955), .a, .a, .t, .t, .t, .t, .t, .a, .a, .a, .a, .a, .a, .a, .a, .a, .a, .a]) (notIn []) (by kernel_rfl) rfl (And.intro (decide_eq_true h0) (And.intro (decide_eq_true h1) (And.intro (W25.dec_ok h2) (And.intro h3 (And.intro h3 (And.intro h3 (And.intro h3 (And.intro h3 True.intro)))))))) n, k785, z786, z787, decide (z787 < z786), 0 + Int.toNat z787, e955.c0, e955.2, !e955.c0, b788, k789, l790, l791, rfl⟩
        · skip
          rcases ite_eq h with ⟨h4, h⟩ | ⟨h4, h⟩
          · skip
            cases h
            exact ⟨_, round_out (gs := [.t, .t, .el (W25.cells e955), .a, .a, .f, .f, .a, .f, .f, .f, .t, .t, .t, .t, .t, .a, .a, .a, .a, .a, .a]) (notIn []) (by kernel_rfl) rfl (And.intro (decide_eq_true h0) (And.intro (decide_eq_true h1) (And.intro (W25.dec_ok h2) (And.intro (Bool.eq_false_iff.mpr h3) (And.intro (Bool.eq_false_iff.mpr h3) (And.intro (Bool.eq_false_iff.mpr h3) (And.intro (Bool.eq_false_iff.mpr h3) (And.intro (Bool.eq_false_iff.mpr h3) (And.intro (decide_eq_true h4) (And.intro (decide_eq_true h4) (And.intro (decide_eq_true h4) (And.intro (decide_eq_true h4) (And.intro (decide_eq_true h4) True.intro))))))))))))) n, k785, z786, z787, decide (z787 < z786), 0 + Int.toNat z787, e955.c0, e955.2, !e955.c0, (↑(List.length e955.2) : Int), decide ((↑(List.length e955.2) : Int) < 3), b788, k789, l790, l791, rfl⟩
          · skip
            rcases ite_eq h with ⟨h5, h⟩ | ⟨h5, h⟩
            · skip
              cases h
              exact ⟨_, round_out (gs := [.t, .t, .el (W25.cells e955), .a, .a, .f, .f, .a, .f, .f, .f, .f, .f, .a, .f, .f, .f, .t, .t, .t, .t, .t, .a]) (notIn []) (by kernel_rfl) rfl (And.intro (decide_eq_true h0) (And.intro (decide_eq_true h1) (And.intro (W25.dec_ok h2) (And.intro (Bool.eq_false_iff.mpr h3) (And.intro (Bool.eq_false_iff.mpr h3) (And.intro (Bool.eq_false_iff.mpr h3) (And.intro (Bool.eq_false_iff.mpr h3) (And.intro (Bool.eq_false_iff.mpr h3) (And.intro (decide_eq_false h4) (And.intro (decide_eq_false h4) (And.intro (decide_eq_false h4) (And.intro (decide_eq_false h4) (And.intro (decide_eq_false h4) (And.intro (decide_eq_true h5) (And.intro (decide_eq_true h5) (And.intro (decide_eq_true h5) (And.intro (decide_eq_true h5) (And.intro (decide_eq_true h5) True.intro)))))))))))))))))) n, k785, z786, z787, decide (z787 < z786), 0 + Int.toNat z787, e955.c0, e955.2, !e955.c0, (↑(List.length e955.2) : Int), decide ((↑(List.length e955.2) : Int) < 3), decide ((↑(List.length e955.2) : Int) > 4), b788, k789, l790, l791, rfl⟩
            · skip
              obtain ⟨r6, h6, h⟩ := Option.bind_eq_some_iff.mp h
              have h6 := F17_ok (m + 5) (e955.2) r6 h6
              cases r6 with
              | a0 z997 =>
                rcases ite_eq h with ⟨h7, h⟩ | ⟨h7, h⟩
                · skip
                  cases h
                  exact ⟨_, round_out (gs := [.t, .t, .el (W25.cells e955), .a, .a, .f, .f, .a, .f, .f, .f, .f, .f, .a, .f, .f, .f, .f, .f, .a, .f, .an (i64 z997) [], .f, .f, .t]) (notIn []) (by kernel_rfl) rfl (And.intro (decide_eq_true h0) (And.intro (decide_eq_true h1) (And.intro (W25.dec_ok h2) (And.intro (Bool.eq_false_iff.mpr h3) (And.intro (Bool.eq_false_iff.mpr h3) (And.intro (Bool.eq_false_iff.mpr h3) (And.intro (Bool.eq_false_iff.mpr h3) (And.intro (Bool.eq_false_iff.mpr h3) (And.intro (decide_eq_false h4) (And.intro (decide_eq_false h4) (And.intro (decide_eq_false h4) (And.intro (decide_eq_false h4) (And.intro (decide_eq_false h4) (And.intro (decide_eq_false h5) (And.intro (decide_eq_false h5) (And.intro (decide_eq_false h5) (And.intro h6 (And.intro (decide_eq_false h5) (And.intro (decide_eq_false h5) (And.intro (decide_eq_true h7) True.intro)))))))))))))))))))) n, k785, z786, z787, decide (z787 < z786), 0 + Int.toNat z787, e955.c0, e955.2, !e955.c0, (↑(List.length e955.2) : Int), decide ((↑(List.length e955.2) : Int) < 3), decide ((↑(List.length e955.2) : Int) > 4), z997, decide (z997 < 0), b788, k789, l790, l791, rfl⟩
                · skip
                  obtain ⟨st, hs, hr⟩ := L4_0_ok m n (k785) (z786) (w64 (z787 + 1)) (b788) (k789) (l790) (l791) r h
                  exact ⟨st, (round_on (gs := [.t, .t, .el (W25.cells e955), .a, .a, .f, .f, .a, .f, .f, .f, .f, .f, .a, .f, .f, .f, .f, .f, .a, .f, .an (i64 z997) [], .f, .f, .f]) (notIn []) (by kernel_rfl) (And.intro (decide_eq_true h0) (And.intro (decide_eq_true h1) (And.intro (W25.dec_ok h2) (And.intro (Bool.eq_false_iff.mpr h3) (And.intro (Bool.eq_false_iff.mpr h3) (And.intro (Bool.eq_false_iff.mpr h3) (And.intro (Bool.eq_false_iff.mpr h3) (And.intro (Bool.eq_false_iff.mpr h3) (And.intro (decide_eq_false h4) (And.intro (decide_eq_false h4) (And.intro (decide_eq_false h4) (And.intro (decide_eq_false h4) (And.intro (decide_eq_false h4) (And.intro (decide_eq_false h5) (And.intro (decide_eq_false h5) (And.intro (decide_eq_false h5) (And.intro h6 (And.intro (decide_eq_false h5) (And.intro (decide_eq_false h5) (And.intro (decide_eq_false h7) True.intro)))))))))))))))))))) n).trans hs, hr⟩
      · skip
        cases h
    · skip
      cases h
      exact ⟨_, round_out (gs := [.f]) (notIn []) (by kernel_rfl) rfl (And.intro (decide_eq_false h0) True.intro) n, k785, z786, z787, decide (z787 < z786), b788, l790, rfl⟩
inductive A4 where
  | a0 (b1097 : Bool)
@[reducible] def A4.out : A4 → V × Store
  | .a0 b1097 => (vb b1097, [])
def F4 (l0 : List (List V)) (z1 : Int) : Option A4 :=
  (F15 (l0) (0)).bind fun r => match r with
  | .a0 b948 k949 l950 z951 l952 =>
   if 0 + k949 ≤ List.length l952 then
    (F16 (b948) (List.take k949 l952) (w64 (↑(BitVec.toNat (BitVec.ofInt (IntKind.bits IntKind.i64) z1 &&& BitVec.ofInt (IntKind.bits IntKind.i64) 524287)) : Int)) (1)).bind fun r => match r with
    | .a0 k953 l954 =>
     (L4_0 18446744073709551616 (k953) ((↑k953 : Int)) (0) (b948) (k949) (l954) (l952)).bind fun r => match r with
     | .e0 =>
      none -- false
     | .e1 =>
      none -- false
     | .e2 =>
      none -- false
     | .e3 =>
      none -- false
     | .e4 k1086 l1088 =>
      if 0 + k1086 ≤ List.length l1088 then
       (F18 (List.take k1086 l1088)).bind fun r => match r with
       | .a0 k1089 l1090 =>
        (F17 (List.take k1086 l1088)).bind fun r => match r with
        | .a0 z1091 =>
         if z1091 < 0 then
          if 0 + k1089 ≤ List.length l1090 then
           (F17 (List.take k1089 l1090)).bind fun r => match r with
           | .a0 z1092 =>
            if (z1092 == w64 (0 - z1091)) = true then
             if ((↑k1089 : Int) == (↑k1086 : Int)) = true then
              (F18 (List.take k1089 l1090)).bind fun r => match r with
              | .a0 k1093 l1094 =>
               if 0 + k1093 ≤ List.length l1094 then
                (F19 (List.take k1093 l1094) (List.take k1089 l1090)).bind fun r => match r with
                | .a0 b1095 =>
                 if (b1095) = true then
                  (F20).bind fun r => match r with
                  | .a0 b1096 =>
                   some (A4.a0 (b1096))
                 else
                  none -- false
               else
                none -- none
             else
              none -- false
            else
             none -- false
          else
           none -- none
         else
          if 0 + k1089 ≤ List.length l1090 then
           (F17 (List.take k1089 l1090)).bind fun r => match r with
           | .a0 z1098 =>
            if (z1098 == z1091) = true then
             if ((↑k1089 : Int) == (↑k1086 : Int)) = true then
              (F18 (List.take k1089 l1090)).bind fun r => match r with
              | .a0 k1099 l1100 =>
               if 0 + k1099 ≤ List.length l1100 then
                (F19 (List.take k1099 l1100) (List.take k1089 l1090)).bind fun r => match r with
                | .a0 b1101 =>
                 if (b1101) = true then
                  (F20).bind fun r => match r with
                  | .a0 b1102 =>
                   some (A4.a0 (b1102))
                 else
                  none -- false
               else
                none -- none
             else
              none -- false
            else
             none -- false
          else
           none -- none
      else
       none -- none
   else
    none -- none
theorem F4_ok (m : Nat) (l0 : List (List V)) (z1 : Int) (r : A4) (h : F4 l0 z1 = some r) : call Try.prog X O0 18446744073709551616 (m + 10) 4 ([V.list 1 l0, i64 z1]) ([]) = some r.out := by
  unfold F4 at h
  obtain ⟨r0, h0, h⟩ := Option.bind_eq_some_iff.mp h
  have h0 := F15_ok (m + 5) (l0) (0) r0 h0
  cases r0 with
  | a0 b948 k949 l950 z951 l952 =>
    rcases ite_eq h with ⟨h1, h⟩ | ⟨h1, h⟩
    · skip
      obtain ⟨r2, h2, h⟩ := Option.bind_eq_some_iff.mp h
      have h2 := F16_ok (m + 1) (b948) (List.take k949 l952) (w64 (↑(BitVec.toNat (BitVec.ofInt (IntKind.bits IntKind.i64) z1 &&& BitVec.ofInt (IntKind.bits IntKind.i64) 524287)) : Int)) (1) r2 h2
      cases r2 with
      | a0 k953 l954 =>
        obtain ⟨r3, h3, h⟩ := Option.bind_eq_some_iff.mp h
        obtain ⟨st3, h3, hr3⟩ := L4_0_ok m 18446744073709551616 (k953) ((↑k953 : Int)) (0) (b948) (k949) (l954) (l952) r3 h3
        have h3 : loopRun Try.prog X (genO X (call Try.prog X O0 18446744073709551616 (m + 9))) 4 (0) 18446744073709551616 B4 0 ({ T := V.list 1 l0 :: i64 z1 :: U :: U :: vb false :: V.ptr 2 0 0 :: un 4 (V.list 1 l0 :: V.agg [V.list 1 l0, i64 0] :: V.ptr 0 0 0 :: V.agg [vb b948, V.hs 1 0 k949] :: V.agg [vb b948, V.hs 1 0 k949] :: i64 z1 :: i64 (w64 (↑(BitVec.toNat (BitVec.ofInt (IntKind.bits IntKind.i64) z1 &&& BitVec.ofInt (IntKind.bits IntKind.i64) 524287)) : Int)) :: V.hs 3 0 k953 :: i64 (↑k953 : Int) :: i64 0 :: un 56 []), σ := [Ob.cells true false 2 [[V.list 1 l950, i64 z951]], Ob.cells false true 2 l952, Ob.cells true false 2 [[vb b948, V.hs 1 0 k949]], Ob.cells true true 2 l954] }) = some st3 := by
          rw [loopRun_from, show pre X 4 (0) 0 ({ T := V.list 1 l0 :: i64 z1 :: U :: U :: vb false :: V.ptr 2 0 0 :: un 4 (V.list 1 l0 :: V.agg [V.list 1 l0, i64 0] :: V.ptr 0 0 0 :: V.agg [vb b948, V.hs 1 0 k949] :: V.agg [vb b948, V.hs 1 0 k949] :: i64 z1 :: i64 (w64 (↑(BitVec.toNat (BitVec.ofInt (IntKind.bits IntKind.i64) z1 &&& BitVec.ofInt (IntKind.bits IntKind.i64) 524287)) : Int)) :: V.hs 3 0 k953 :: i64 (↑k953 : Int) :: i64 0 :: un 56 []), σ := [Ob.cells true false 2 [[V.list 1 l950, i64 z951]], Ob.cells false true 2 l952, Ob.cells true false 2 [[vb b948, V.hs 1 0 k949]], Ob.cells true true 2 l954] }) = { T := un 5 (V.ptr 0 0 0 :: un 11 (V.hs 1 0 k953 :: i64 (↑k953 : Int) :: i64 0 :: un 56 [])), σ := [Ob.cells true false 2 [[vb b948, V.hs 2 0 k949]], Ob.cells true true 2 l954, Ob.cells false true 2 l952] } by kernel_rfl]
          exact h3
        cases r3 with
        | e0 =>
          obtain ⟨k1023, z1024, z1025, b1026, k1027, b1028, l1029, b1030, b1031, k1032, l1033, l1034, rfl⟩ := hr3
          cases h
        | e1 =>
          obtain ⟨k1035, z1036, z1037, b1038, k1039, b1040, l1041, b1042, z1043, b1044, b1045, k1046, l1047, l1048, rfl⟩ := hr3
          cases h
        | e2 =>
          obtain ⟨k1049, z1050, z1051, b1052, k1053, b1054, l1055, b1056, z1057, b1058, b1059, b1060, k1061, l1062, l1063, rfl⟩ := hr3
          cases h
        | e3 =>
          obtain ⟨k1064, z1065, z1066, b1067, k1068, b1069, l1070, b1071, z1072, b1073, b1074, z1075, b1076, b1077, k1078, l1079, l1080, rfl⟩ := hr3
          cases h
        | e4 k1086 l1088 =>
          obtain ⟨k1081, z1082, z1083, b1084, b1085, l1087, rfl⟩ := hr3
          rcases ite_eq h with ⟨h4, h⟩ | ⟨h4, h⟩
          · skip
            obtain ⟨r5, h5, h⟩ := Option.bind_eq_some_iff.mp h
            have h5 := F18_ok (m + 4) (List.take k1086 l1088) r5 h5
            cases r5 with
            | a0 k1089 l1090 =>
              obtain ⟨r6, h6, h⟩ := Option.bind_eq_some_iff.mp h
              have h6 := F17_ok (m + 5) (List.take k1086 l1088) r6 h6
              cases r6 with
              | a0 z1091 =>
                rcases ite_eq h with ⟨h7, h⟩ | ⟨h7, h⟩
                · skip
                  rcases ite_eq h with ⟨h8, h⟩ | ⟨h8, h⟩
                  · skip
                    obtain ⟨r9, h9, h⟩ := Option.bind_eq_some_iff.mp h
                    have h9 := F17_ok (m + 5) (List.take k1089 l1090) r9 h9
                    cases r9 with
                    | a0 z1092 =>
                      rcases ite_eq h with ⟨h10, h⟩ | ⟨h10, h⟩
                      · skip
                        rcases ite_eq h with ⟨h11, h⟩ | ⟨h11, h⟩
                        · skip
                          obtain ⟨r12, h12, h⟩ := Option.bind_eq_some_iff.mp h
                          have h12 := F18_ok (m + 4) (List.take k1089 l1090) r12 h12
                          cases r12 with
                          | a0 k1093 l1094 =>
                            rcases ite_eq h with ⟨h13, h⟩ | ⟨h13, h⟩
                            · skip
                              obtain ⟨r14, h14, h⟩ := Option.bind_eq_some_iff.mp h
                              have h14 := F19_ok (m + 8) (List.take k1093 l1094) (List.take k1089 l1090) r14 h14
                              cases r14 with
                              | a0 b1095 =>
                                rcases ite_eq h with ⟨h15, h⟩ | ⟨h15, h⟩
                                · skip
                                  obtain ⟨r16, h16, h⟩ := Option.bind_eq_some_iff.mp h
                                  have h16 := F20_ok (m + 0) r16 h16
                                  cases r16 with
                                  | a0 b1096 =>
                                    cases h
                                    exact call_pathL (gs := [.an (V.agg [vb b948, V.hs 1 0 k949]) [Ob.cells true false 2 [[V.list 1 l950, i64 z951]], Ob.cells true true 2 l952], .a, .a, .t, .an (V.hs 0 0 k953) [Ob.cells true true 2 l954], .lp (VX.exit 0) (s4_0_4 k1081 z1082 z1083 b1084 b1085 k1086 l1087 l1088), .a, .t, .an (V.hs 0 0 k1089) [Ob.cells true true 2 l1090], .a, .t, .an (i64 z1091) [], .t, .t, .an (i64 z1092) [], .t, .t, .t, .t, .a, .t, .t, .t, .t, .t, .t, .an (V.hs 0 0 k1093) [Ob.cells true true 2 l1094], .t, .t, .t, .t, .an (vb b1095) [], .t, .t, .an (vb b1096) [], .t]) (notIn []) rfl rfl (by kernel_rfl) (And.intro h0 (And.intro (decide_eq_true h1) (And.intro h2 (And.intro h3 (And.intro (decide_eq_true h4) (And.intro h5 (And.intro (decide_eq_true h4) (And.intro h6 (And.intro (decide_eq_true h7) (And.intro (decide_eq_true h8) (And.intro h9 (And.intro h10 (And.intro h10 (And.intro h10 (And.intro h10 (And.intro h10 (And.intro h10 (And.intro h10 (And.intro h11 (And.intro h11 (And.intro (decide_eq_true h8) (And.intro h12 (And.intro h11 (And.intro h11 (And.intro (decide_eq_true h13) (And.intro (decide_eq_true h8) (And.intro h14 (And.intro h11 (And.intro h15 (And.intro h16 (And.intro h15 True.intro)))))))))))))))))))))))))))))))
                                · skip
                                  cases h
                            · skip
                              cases h
                        · skip
                          cases h
                      · skip
                        cases h
                  · skip
                    cases h
                · skip
                  rcases ite_eq h with ⟨h8, h⟩ | ⟨h8, h⟩
                  · skip
                    obtain ⟨r9, h9, h⟩ := Option.bind_eq_some_iff.mp h
                    have h9 := F17_ok (m + 5) (List.take k1089 l1090) r9 h9
                    cases r9 with
                    | a0 z1098 =>
                      rcases ite_eq h with ⟨h10, h⟩ | ⟨h10, h⟩
                      · skip
                        rcases ite_eq h with ⟨h11, h⟩ | ⟨h11, h⟩
                        · skip
                          obtain ⟨r12, h12, h⟩ := Option.bind_eq_some_iff.mp h
                          have h12 := F18_ok (m + 4) (List.take k1089 l1090) r12 h12
                          cases r12 with
                          | a0 k1099 l1100 =>
                            rcases ite_eq h with ⟨h13, h⟩ | ⟨h13, h⟩
                            · skip
                              obtain ⟨r14, h14, h⟩ := Option.bind_eq_some_iff.mp h
                              have h14 := F19_ok (m + 8) (List.take k1099 l1100) (List.take k1089 l1090) r14 h14
                              cases r14 with
                              | a0 b1101 =>
                                rcases ite_eq h with ⟨h15, h⟩ | ⟨h15, h⟩
                                · skip
                                  obtain ⟨r16, h16, h⟩ := Option.bind_eq_some_iff.mp h
                                  have h16 := F20_ok (m + 0) r16 h16
                                  cases r16 with
                                  | a0 b1102 =>
                                    cases h
                                    exact call_pathL (gs := [.an (V.agg [vb b948, V.hs 1 0 k949]) [Ob.cells true false 2 [[V.list 1 l950, i64 z951]], Ob.cells true true 2 l952], .a, .a, .t, .an (V.hs 0 0 k953) [Ob.cells true true 2 l954], .lp (VX.exit 0) (s4_0_4 k1081 z1082 z1083 b1084 b1085 k1086 l1087 l1088), .a, .t, .an (V.hs 0 0 k1089) [Ob.cells true true 2 l1090], .a, .t, .an (i64 z1091) [], .f, .t, .an (i64 z1098) [], .t, .t, .t, .t, .a, .t, .t, .t, .t, .t, .t, .an (V.hs 0 0 k1099) [Ob.cells true true 2 l1100], .t, .t, .t, .t, .an (vb b1101) [], .t, .t, .an (vb b1102) [], .t]) (notIn []) rfl rfl (by kernel_rfl) (And.intro h0 (And.intro (decide_eq_true h1) (And.intro h2 (And.intro h3 (And.intro (decide_eq_true h4) (And.intro h5 (And.intro (decide_eq_true h4) (And.intro h6 (And.intro (decide_eq_false h7) (And.intro (decide_eq_true h8) (And.intro h9 (And.intro h10 (And.intro h10 (And.intro h10 (And.intro h10 (And.intro h10 (And.intro h10 (And.intro h10 (And.intro h11 (And.intro h11 (And.intro (decide_eq_true h8) (And.intro h12 (And.intro h11 (And.intro h11 (And.intro (decide_eq_true h13) (And.intro (decide_eq_true h8) (And.intro h14 (And.intro h11 (And.intro h15 (And.intro h16 (And.intro h15 True.intro)))))))))))))))))))))))))))))))
                                · skip
                                  cases h
                            · skip
                              cases h
                        · skip
                          cases h
                      · skip
                        cases h
                  · skip
                    cases h
          · skip
            cases h
    · skip
      cases h
/-! ## 21 -/
def F21 (b1117 : Bool) (l1118 : List (List V)) : Int :=
  if (↑(List.length l1118) : Int) < 2 then
   0
  else
   if (b1117) = true then
    (↑(List.length l1118) : Int)
   else
    w64 ((↑(List.length l1118) : Int) - 1)
theorem F21_ok (m : Nat) (b1117 : Bool) (l1118 : List (List V)) (z1121 : Int) (h : F21 b1117 l1118 = z1121) : call Try.prog X O0 18446744073709551616 (m + 1) 21 ([V.agg [vb b1117, V.list 2 l1118]]) ([]) = some (i64 z1121, []) := by
  unfold F21 at h
  rcases ite_eq h with ⟨h0, h⟩ | ⟨h0, h⟩
  · skip
    subst h
    exact call_pathL (gs := [.a, .t]) (notIn []) rfl rfl (by kernel_rfl) (And.intro (decide_eq_true h0) True.intro)
  · skip
    rcases ite_eq h with ⟨h1, h⟩ | ⟨h1, h⟩
    · skip
      subst h
      exact call_pathL (gs := [.a, .f, .a, .t]) (notIn []) rfl rfl (by kernel_rfl) (And.intro (decide_eq_false h0) (And.intro h1 True.intro))
    · skip
      subst h
      exact call_pathL (gs := [.a, .f, .a, .f]) (notIn []) rfl rfl (by kernel_rfl) (And.intro (decide_eq_false h0) (And.intro (Bool.eq_false_iff.mpr h1) True.intro))
/-! ## 5 -/
noncomputable abbrev B5 : Code := (Try.f5.body).getD .skip
inductive R5_0 where
  | e0 (z1166 : Int) (z1167 : Int) (z1168 : Int) (b1170 : Bool) (k1171 : Nat) (l1174 : List (List V))
@[reducible] def s5_0_0 (z1166 : Int) (z1167 : Int) (z1168 : Int) (z1169 : Int) (b1170 : Bool) (k1171 : Nat) (z1172 : Int) (b1173 : Bool) (l1174 : List (List V)) : S := { T := U :: i64 z1166 :: i64 z1167 :: un 4 (V.ptr 0 0 0 :: i64 z1168 :: i64 z1169 :: un 5 (i64 z1169 :: V.agg [vb b1170, V.hs 1 0 k1171] :: i64 z1172 :: vb b1173 :: un 55 [])), σ := [Ob.cells true false 2 [[vb b1170, V.hs 1 0 k1171]], Ob.cells true true 2 l1174] }
def R5_0.St : R5_0 → VX × S → Prop
  | .e0 z1166 z1167 z1168 b1170 k1171 l1174, p => ∃ z1169 : Int, ∃ z1172 : Int, ∃ b1173 : Bool, p = (VX.exit 0, s5_0_0 z1166 z1167 z1168 z1169 b1170 k1171 z1172 b1173 l1174)
def L5_0 : Nat → Int → Int → Int → Int → Bool → Nat → List (List V) → Option R5_0
  | 0, _, _, _, _, _, _, _ => none
  | n + 1, z1131, z1132, z1133, z1134, b1135, k1136, l1137 =>
    if 0 + k1136 ≤ List.length l1137 then
     bnd (F21 (b1135) (List.take k1136 l1137)) fun z1163 =>
     if z1134 < z1163 then
      if 0 ≤ z1134 ∧ z1134 < (↑k1136 : Int) then
       ((l1137[(0 : Nat) + Int.toNat z1134]?).bind W43.dec).bind fun e1164 =>
       if (↑k1136 : Int) = 0 then
        none -- none
       else
        if 0 ≤ Int.tmod (w64 (z1134 + 1)) (↑k1136 : Int) ∧ Int.tmod (w64 (z1134 + 1)) (↑k1136 : Int) < (↑k1136 : Int) then
         ((l1137[(0 : Nat) + Int.toNat (Int.tmod (w64 (z1134 + (1 : Int))) (↑k1136 : Int))]?).bind W43.dec).bind fun e1165 =>
         if (!(e1164.c0 == e1165.c0 && (e1164.c1 == e1165.c1 && true))) = true then
          L5_0 n (z1131) (z1132) (w64 (z1133 + 1)) (w64 (z1134 + 1)) (b1135) (k1136) (l1137)
         else
          L5_0 n (z1131) (z1132) (z1133) (w64 (z1134 + 1)) (b1135) (k1136) (l1137)
        else
         none -- none
      else
       none -- none
     else
      some (R5_0.e0 (z1131) (z1132) (z1133) (b1135) (k1136) (l1137))
    else
     none -- none
theorem L5_0_ok (m : Nat) : ∀ (n : Nat) (z1131 : Int) (z1132 : Int) (z1133 : Int) (z1134 : Int) (b1135 : Bool) (k1136 : Nat) (l1137 : List (List V)) (r : R5_0), L5_0 n z1131 z1132 z1133 z1134 b1135 k1136 l1137 = some r → ∃ st, loopFrom Try.prog X (genO X (call Try.prog X O0 18446744073709551616 (m + 9))) 5 (0) 18446744073709551616 B5 0 n ({ T := U :: i64 z1131 :: i64 z1132 :: un 4 (V.ptr 0 0 0 :: i64 z1133 :: i64 z1134 :: un 64 []), σ := [Ob.cells true false 2 [[vb b1135, V.hs 1 0 k1136]], Ob.cells true true 2 l1137] }) = some st ∧ r.St st
  | 0, _, _, _, _, _, _, _, r, h => by cases h
  | n + 1, z1131, z1132, z1133, z1134, b1135, k1136, l1137, r, h => by
    rw [L5_0] at h
    rcases ite_eq h with ⟨h0, h⟩ | ⟨h0, h⟩
    · skip
      obtain ⟨z1163, h1, h⟩ := bnd_eq h
      rcases ite_eq h with ⟨h2, h⟩ | ⟨h2, h⟩
      · skip
        rcases ite_eq h with ⟨h3, h⟩ | ⟨h3, h⟩
        · skip
          obtain ⟨e1164, h4, h⟩ := Option.bind_eq_some_iff.mp h
          rcases ite_eq h with ⟨h5, h⟩ | ⟨h5, h⟩
          · skip
            cases h
          · skip
            rcases ite_eq h with ⟨h6, h⟩ | ⟨h6, h⟩
            · skip
              obtain ⟨e1165, h7, h⟩ := Option.bind_eq_some_iff.mp h
              rcases ite_eq h with ⟨h8, h⟩ | ⟨h8, h⟩
              · skip
                obtain ⟨st, hs, hr⟩ := L5_0_ok m n (z1131) (z1132) (w64 (z1133 + 1)) (w64 (z1134 + 1)) (b1135) (k1136) (l1137) r h
                exact ⟨st, (round_on (gs := [.a, .t, .an (i64 z1163) [], .t, .a, .t, .el (W43.cells e1164), .a, .a, .f, .t, .el (W43.cells e1165), .ft [⟨0, [0], []⟩, ⟨1, [0], []⟩, ⟨2, [], []⟩, ⟨3, [1], []⟩, ⟨4, [1], []⟩, ⟨5, [0], []⟩, ⟨6, [0], []⟩, ⟨7, [], []⟩, ⟨8, [], []⟩, ⟨9, [0], []⟩, ⟨10, [0], []⟩, ⟨11, [1], []⟩, ⟨12, [], []⟩, ⟨13, [1], []⟩, ⟨14, [1], []⟩, ⟨15, [], []⟩], .t]) (notIn []) (by kernel_rfl) (And.intro (decide_eq_true h0) (And.intro (F21_ok (m + 8) (b1135) (List.take k1136 l1137) z1163 h1) (And.intro (decide_eq_true h2) (And.intro (decide_eq_true h3) (And.intro (W43.dec_ok h4) (And.intro (decide_eq_false h5) (And.intro (decide_eq_true h6) (And.intro (W43.dec_ok h7) (And.intro (Eq.refl ([⟨0, [0], []⟩, ⟨1, [0], []⟩, ⟨2, [], []⟩, ⟨3, [1], []⟩, ⟨4, [1], []⟩, ⟨5, [0], []⟩, ⟨6, [0], []⟩, ⟨7, [], []⟩, ⟨8, [], []⟩, ⟨9, [0], []⟩, ⟨10, [0], []⟩, ⟨11, [1], []⟩, ⟨12, [], []⟩, ⟨13, [1], []⟩, ⟨14, [1], []⟩, ⟨15, [], []⟩] : List Foot)) (And.intro h8 True.intro)))))))))) n).trans hs, hr⟩
              · skip
                obtain ⟨st, hs, hr⟩ := L5_0_ok m n (z1131) (z1132) (z1133) (w64 (z1134 + 1)) (b1135) (k1136) (l1137) r h
                exact ⟨st, (round_on (gs := [.a, .t, .an (i64 z1163) [], .t, .a, .t, .el (W43.cells e1164), .a, .a, .f, .t, .el (W43.cells e1165), .ft [⟨0, [0], []⟩, ⟨1, [0], []⟩, ⟨2, [], []⟩, ⟨3, [1], []⟩, ⟨4, [1], []⟩, ⟨5, [0], []⟩, ⟨6, [0], []⟩, ⟨7, [], []⟩, ⟨8, [], []⟩, ⟨9, [0], []⟩, ⟨10, [0], []⟩, ⟨11, [1], []⟩, ⟨12, [], []⟩, ⟨13, [1], []⟩, ⟨14, [1], []⟩, ⟨15, [], []⟩], .f]) (notIn []) (by kernel_rfl) (And.intro (decide_eq_true h0) (And.intro (F21_ok (m + 8) (b1135) (List.take k1136 l1137) z1163 h1) (And.intro (decide_eq_true h2) (And.intro (decide_eq_true h3) (And.intro (W43.dec_ok h4) (And.intro (decide_eq_false h5) (And.intro (decide_eq_true h6) (And.intro (W43.dec_ok h7) (And.intro (Eq.refl ([⟨0, [0], []⟩, ⟨1, [0], []⟩, ⟨2, [], []⟩, ⟨3, [1], []⟩, ⟨4, [1], []⟩, ⟨5, [0], []⟩, ⟨6, [0], []⟩, ⟨7, [], []⟩, ⟨8, [], []⟩, ⟨9, [0], []⟩, ⟨10, [0], []⟩, ⟨11, [1], []⟩, ⟨12, [], []⟩, ⟨13, [1], []⟩, ⟨14, [1], []⟩, ⟨15, [], []⟩] : List Foot)) (And.intro (Bool.eq_false_iff.mpr h8) True.intro)))))))))) n).trans hs, hr⟩
            · skip
              cases h
        · skip
          cases h
      · skip
        cases h
        exact ⟨_, round_out (gs := [.a, .t, .an (i64 z1163) [], .f]) (notIn []) (by kernel_rfl) rfl (And.intro (decide_eq_true h0) (And.intro (F21_ok (m + 8) (b1135) (List.take k1136 l1137) z1163 h1) (And.intro (decide_eq_false h2) True.intro))) n, z1134, z1163, decide (z1134 < z1163), rfl⟩
    · skip
      cases h
inductive A5 where
  | a0 (b1189 : Bool)
@[reducible] def A5.out : A5 → V × Store
  | .a0 b1189 => (vb b1189, [])
def F5 (l1103 : List (List V)) (z1104 : Int) (z1105 : Int) : Option A5 :=
  (F15 (l1103) (0)).bind fun r => match r with
  | .a0 b1158 k1159 l1160 z1161 l1162 =>
   (L5_0 18446744073709551616 (z1104) (z1105) (0) (0) (b1158) (k1159) (l1162)).bind fun r => match r with
   | .e0 z1175 z1176 z1177 b1179 k1180 l1183 =>
    if z1177 > 0 then
     if (b1179) = true then
      if z1177 ≥ 2 then
       if 0 + k1180 ≤ List.length l1183 then
        (F16 (b1179) (List.take k1180 l1183) (w64 (2 + w64 (↑(BitVec.toNat (BitVec.ofInt (IntKind.bits IntKind.i64) z1175 &&& BitVec.ofInt (IntKind.bits IntKind.i64) 524287)) : Int))) (w64 (↑(BitVec.toNat (BitVec.ofInt (IntKind.bits IntKind.i64) z1176 &&& BitVec.ofInt (IntKind.bits IntKind.i64) 1)) : Int))).bind fun r => match r with
        | .a0 k1184 l1185 =>
         if ((↑k1184 : Int) == w64 (w64 (z1177 + w64 (2 * w64 (z1177 - 1))) + 2)) = true then
          (F16 (b1179) (List.take k1180 l1183) (1) (z1176)).bind fun r => match r with
          | .a0 k1186 l1187 =>
           if ((↑k1186 : Int) == 0) = true then
            (F20).bind fun r => match r with
            | .a0 b1188 =>
             some (A5.a0 (b1188))
           else
            none -- false
         else
          none -- false
       else
        none -- none
      else
       if 0 + k1180 ≤ List.length l1183 then
        (F16 (b1179) (List.take k1180 l1183) (w64 (2 + w64 (↑(BitVec.toNat (BitVec.ofInt (IntKind.bits IntKind.i64) z1175 &&& BitVec.ofInt (IntKind.bits IntKind.i64) 524287)) : Int))) (w64 (↑(BitVec.toNat (BitVec.ofInt (IntKind.bits IntKind.i64) z1176 &&& BitVec.ofInt (IntKind.bits IntKind.i64) 1)) : Int))).bind fun r => match r with
        | .a0 k1190 l1191 =>
         if ((↑k1190 : Int) == w64 (z1177 + w64 (2 * w64 (z1177 - 1)))) = true then
          (F16 (b1179) (List.take k1180 l1183) (1) (z1176)).bind fun r => match r with
          | .a0 k1192 l1193 =>
           if ((↑k1192 : Int) == 0) = true then
            (F20).bind fun r => match r with
            | .a0 b1194 =>
             some (A5.a0 (b1194))
           else
            none -- false
         else
          none -- false
       else
        none -- none
     else
      if 0 + k1180 ≤ List.length l1183 then
       (F16 (b1179) (List.take k1180 l1183) (w64 (2 + w64 (↑(BitVec.toNat (BitVec.ofInt (IntKind.bits IntKind.i64) z1175 &&& BitVec.ofInt (IntKind.bits IntKind.i64) 524287)) : Int))) (w64 (↑(BitVec.toNat (BitVec.ofInt (IntKind.bits IntKind.i64) z1176 &&& BitVec.ofInt (IntKind.bits IntKind.i64) 1)) : Int))).bind fun r => match r with
       | .a0 k1195 l1196 =>
        if ((↑k1195 : Int) == w64 (z1177 + w64 (2 * w64 (z1177 - 1)))) = true then
         (F16 (b1179) (List.take k1180 l1183) (1) (z1176)).bind fun r => match r with
         | .a0 k1197 l1198 =>
          if ((↑k1197 : Int) == 0) = true then
           (F20).bind fun r => match r with
           | .a0 b1199 =>
            some (A5.a0 (b1199))
          else
           none -- false
        else
         none -- false
      else
       none -- none
    else
     if 0 + k1180 ≤ List.length l1183 then
      (F16 (b1179) (List.take k1180 l1183) (w64 (2 + w64 (↑(BitVec.toNat (BitVec.ofInt (IntKind.bits IntKind.i64) z1175 &&& BitVec.ofInt (IntKind.bits IntKind.i64) 524287)) : Int))) (w64 (↑(BitVec.toNat (BitVec.ofInt (IntKind.bits IntKind.i64) z1176 &&& BitVec.ofInt (IntKind.bits IntKind.i64) 1)) : Int))).bind fun r => match r with
      | .a0 k1200 l1201 =>
       if ((↑k1200 : Int) == 0) = true then
        (F16 (b1179) (List.take k1180 l1183) (1) (z1176)).bind fun r => match r with
        | .a0 k1202 l1203 =>
         if ((↑k1202 : Int) == 0) = true then
          (F20).bind fun r => match r with
          | .a0 b1204 =>
           some (A5.a0 (b1204))
         else
          none -- false
       else
        none -- false
     else
      none -- none
theorem F5_ok (m : Nat) (l1103 : List (List V)) (z1104 : Int) (z1105 : Int) (r : A5) (h : F5 l1103 z1104 z1105 = some r) : call Try.prog X O0 18446744073709551616 (m + 10) 5 ([V.list 1 l1103, i64 z1104, i64 z1105]) ([]) = some r.out := by
  unfold F5 at h
  obtain ⟨r0, h0, h⟩ := Option.bind_eq_some_iff.mp h
  have h0 := F15_ok (m + 5) (l1103) (0) r0 h0
  cases r0 with
  | a0 b1158 k1159 l1160 z1161 l1162 =>
    obtain ⟨r1, h1, h⟩ := Option.bind_eq_some_iff.mp h
    obtain ⟨st1, h1, hr1⟩ := L5_0_ok m 18446744073709551616 (z1104) (z1105) (0) (0) (b1158) (k1159) (l1162) r1 h1
    have h1 : loopRun Try.prog X (genO X (call Try.prog X O0 18446744073709551616 (m + 9))) 5 (0) 18446744073709551616 B5 0 ({ T := V.list 1 l1103 :: i64 z1104 :: i64 z1105 :: U :: U :: U :: vb false :: V.ptr 2 0 0 :: i64 0 :: i64 0 :: U :: V.list 1 l1103 :: V.agg [V.list 1 l1103, i64 0] :: V.ptr 0 0 0 :: V.agg [vb b1158, V.hs 1 0 k1159] :: un 59 [], σ := [Ob.cells true false 2 [[V.list 1 l1160, i64 z1161]], Ob.cells true true 2 l1162, Ob.cells true false 2 [[vb b1158, V.hs 1 0 k1159]]] }) = some st1 := by
      rw [loopRun_from, show pre X 5 (0) 0 ({ T := V.list 1 l1103 :: i64 z1104 :: i64 z1105 :: U :: U :: U :: vb false :: V.ptr 2 0 0 :: i64 0 :: i64 0 :: U :: V.list 1 l1103 :: V.agg [V.list 1 l1103, i64 0] :: V.ptr 0 0 0 :: V.agg [vb b1158, V.hs 1 0 k1159] :: un 59 [], σ := [Ob.cells true false 2 [[V.list 1 l1160, i64 z1161]], Ob.cells true true 2 l1162, Ob.cells true false 2 [[vb b1158, V.hs 1 0 k1159]]] }) = { T := U :: i64 z1104 :: i64 z1105 :: un 4 (V.ptr 0 0 0 :: i64 0 :: i64 0 :: un 64 []), σ := [Ob.cells true false 2 [[vb b1158, V.hs 1 0 k1159]], Ob.cells true true 2 l1162] } by kernel_rfl]
      exact h1
    cases r1 with
    | e0 z1175 z1176 z1177 b1179 k1180 l1183 =>
      obtain ⟨z1178, z1181, b1182, rfl⟩ := hr1
      rcases ite_eq h with ⟨h2, h⟩ | ⟨h2, h⟩
      · skip
        rcases ite_eq h with ⟨h3, h⟩ | ⟨h3, h⟩
        · skip
          rcases ite_eq h with ⟨h4, h⟩ | ⟨h4, h⟩
          · skip
            rcases ite_eq h with ⟨h5, h⟩ | ⟨h5, h⟩
            · skip
              obtain ⟨r6, h6, h⟩ := Option.bind_eq_some_iff.mp h
              have h6 := F16_ok (m + 1) (b1179) (List.take k1180 l1183) (w64 (2 + w64 (↑(BitVec.toNat (BitVec.ofInt (IntKind.bits IntKind.i64) z1175 &&& BitVec.ofInt (IntKind.bits IntKind.i64) 524287)) : Int))) (w64 (↑(BitVec.toNat (BitVec.ofInt (IntKind.bits IntKind.i64) z1176 &&& BitVec.ofInt (IntKind.bits IntKind.i64) 1)) : Int)) r6 h6
              cases r6 with
              | a0 k1184 l1185 =>
                rcases ite_eq h with ⟨h7, h⟩ | ⟨h7, h⟩
                · skip
                  obtain ⟨r8, h8, h⟩ := Option.bind_eq_some_iff.mp h
                  have h8 := F16_ok (m + 1) (b1179) (List.take k1180 l1183) (1) (z1176) r8 h8
                  cases r8 with
                  | a0 k1186 l1187 =>
                    rcases ite_eq h with ⟨h9, h⟩ | ⟨h9, h⟩
                    · skip
                      obtain ⟨r10, h10, h⟩ := Option.bind_eq_some_iff.mp h
                      have h10 := F20_ok (m + 0) r10 h10
                      cases r10 with
                      | a0 b1188 =>
                        cases h
                        exact call_pathL (gs := [.an (V.agg [vb b1158, V.hs 1 0 k1159]) [Ob.cells true false 2 [[V.list 1 l1160, i64 z1161]], Ob.cells true true 2 l1162], .a, .lp (VX.exit 0) (s5_0_0 z1175 z1176 z1177 z1178 b1179 k1180 z1181 b1182 l1183), .t, .a, .t, .t, .t, .t, .a, .t, .an (V.hs 0 0 k1184) [Ob.cells true true 2 l1185], .t, .a, .t, .t, .t, .an (V.hs 0 0 k1186) [Ob.cells true true 2 l1187], .t, .t, .t, .t, .an (vb b1188) [], .t]) (notIn []) rfl rfl (by kernel_rfl) (And.intro h0 (And.intro h1 (And.intro (decide_eq_true h2) (And.intro h3 (And.intro h3 (And.intro h3 (And.intro (decide_eq_true h4) (And.intro (decide_eq_true h5) (And.intro h6 (And.intro h7 (And.intro h7 (And.intro h7 (And.intro (decide_eq_true h5) (And.intro h8 (And.intro h7 (And.intro h7 (And.intro h7 (And.intro h9 (And.intro h10 (And.intro h9 True.intro))))))))))))))))))))
                    · skip
                      cases h
                · skip
                  cases h
            · skip
              cases h
          · skip
            rcases ite_eq h with ⟨h5, h⟩ | ⟨h5, h⟩
            · skip
              obtain ⟨r6, h6, h⟩ := Option.bind_eq_some_iff.mp h
              have h6 := F16_ok (m + 1) (b1179) (List.take k1180 l1183) (w64 (2 + w64 (↑(BitVec.toNat (BitVec.ofInt (IntKind.bits IntKind.i64) z1175 &&& BitVec.ofInt (IntKind.bits IntKind.i64) 524287)) : Int))) (w64 (↑(BitVec.toNat (BitVec.ofInt (IntKind.bits IntKind.i64) z1176 &&& BitVec.ofInt (IntKind.bits IntKind.i64) 1)) : Int)) r6 h6
              cases r6 with
              | a0 k1190 l1191 =>
                rcases ite_eq h with ⟨h7, h⟩ | ⟨h7, h⟩
                · skip
                  obtain ⟨r8, h8, h⟩ := Option.bind_eq_some_iff.mp h
                  have h8 := F16_ok (m + 1) (b1179) (List.take k1180 l1183) (1) (z1176) r8 h8
                  cases r8 with
                  | a0 k1192 l1193 =>
                    rcases ite_eq h with ⟨h9, h⟩ | ⟨h9, h⟩
                    · skip
                      obtain ⟨r10, h10, h⟩ := Option.bind_eq_some_iff.mp h
                      have h10 := F20_ok (m + 0) r10 h10
                      cases r10 with
                      | a0 b1194 =>
                        cases h
                        exact call_pathL (gs := [.an (V.agg [vb b1158, V.hs 1 0 k1159]) [Ob.cells true false 2 [[V.list 1 l1160, i64 z1161]], Ob.cells true true 2 l1162], .a, .lp (VX.exit 0) (s5_0_0 z1175 z1176 z1177 z1178 b1179 k1180 z1181 b1182 l1183), .t, .a, .t, .t, .t, .f, .a, .t, .an (V.hs 0 0 k1190) [Ob.cells true true 2 l1191], .t, .a, .t, .t, .t, .an (V.hs 0 0 k1192) [Ob.cells true true 2 l1193], .t, .t, .t, .t, .an (vb b1194) [], .t]) (notIn []) rfl rfl (by kernel_rfl) (And.intro h0 (And.intro h1 (And.intro (decide_eq_true h2) (And.intro h3 (And.intro h3 (And.intro h3 (And.intro (decide_eq_false h4) (And.intro (decide_eq_true h5) (And.intro h6 (And.intro h7 (And.intro h7 (And.intro h7 (And.intro (decide_eq_true h5) (And.intro h8 (And.intro h7 (And.intro h7 (And.intro h7 (And.intro h9 (And.intro h10 (And.intro h9 True.intro))))))))))))))))))))
                    · skip
                      cases h
                · skip
                  cases h
            · skip
              cases h
        · skip
          rcases ite_eq h with ⟨h4, h⟩ | ⟨h4, h⟩
          · skip
            obtain ⟨r5, h5, h⟩ := Option.bind_eq_some_iff.mp h
            have h5 := F16_ok (m + 1) (b1179) (List.take k1180 l1183) (w64 (2 + w64 (↑(BitVec.toNat (BitVec.ofInt (IntKind.bits IntKind.i64) z1175 &&& BitVec.ofInt (IntKind.bits IntKind.i64) 524287)) : Int))) (w64 (↑(BitVec.toNat (BitVec.ofInt (IntKind.bits IntKind.i64) z1176 &&& BitVec.ofInt (IntKind.bits IntKind.i64) 1)) : Int)) r5 h5
            cases r5 with
            | a0 k1195 l1196 =>
              rcases ite_eq h with ⟨h6, h⟩ | ⟨h6, h⟩
              · skip
                obtain ⟨r7, h7, h⟩ := Option.bind_eq_some_iff.mp h
                have h7 := F16_ok (m + 1) (b1179) (List.take k1180 l1183) (1) (z1176) r7 h7
                cases r7 with
                | a0 k1197 l1198 =>
                  rcases ite_eq h with ⟨h8, h⟩ | ⟨h8, h⟩
                  · skip
                    obtain ⟨r9, h9, h⟩ := Option.bind_eq_some_iff.mp h
                    have h9 := F20_ok (m + 0) r9 h9
                    cases r9 with
                    | a0 b1199 =>
                      cases h
                      exact call_pathL (gs := [.an (V.agg [vb b1158, V.hs 1 0 k1159]) [Ob.cells true false 2 [[V.list 1 l1160, i64 z1161]], Ob.cells true true 2 l1162], .a, .lp (VX.exit 0) (s5_0_0 z1175 z1176 z1177 z1178 b1179 k1180 z1181 b1182 l1183), .t, .a, .f, .f, .f, .a, .a, .t, .an (V.hs 0 0 k1195) [Ob.cells true true 2 l1196], .t, .a, .t, .t, .t, .an (V.hs 0 0 k1197) [Ob.cells true true 2 l1198], .t, .t, .t, .t, .an (vb b1199) [], .t]) (notIn []) rfl rfl (by kernel_rfl) (And.intro h0 (And.intro h1 (And.intro (decide_eq_true h2) (And.intro (Bool.eq_false_iff.mpr h3) (And.intro (Bool.eq_false_iff.mpr h3) (And.intro (Bool.eq_false_iff.mpr h3) (And.intro (decide_eq_true h4) (And.intro h5 (And.intro h6 (And.intro h6 (And.intro h6 (And.intro (decide_eq_true h4) (And.intro h7 (And.intro h6 (And.intro h6 (And.intro h6 (And.intro h8 (And.intro h9 (And.intro h8 True.intro)))))))))))))))))))
                  · skip
                    cases h
              · skip
                cases h
          · skip
            cases h
      · skip
        rcases ite_eq h with ⟨h3, h⟩ | ⟨h3, h⟩
        · skip
          obtain ⟨r4, h4, h⟩ := Option.bind_eq_some_iff.mp h
          have h4 := F16_ok (m + 1) (b1179) (List.take k1180 l1183) (w64 (2 + w64 (↑(BitVec.toNat (BitVec.ofInt (IntKind.bits IntKind.i64) z1175 &&& BitVec.ofInt (IntKind.bits IntKind.i64) 524287)) : Int))) (w64 (↑(BitVec.toNat (BitVec.ofInt (IntKind.bits IntKind.i64) z1176 &&& BitVec.ofInt (IntKind.bits IntKind.i64) 1)) : Int)) r4 h4
          cases r4 with
          | a0 k1200 l1201 =>
            rcases ite_eq h with ⟨h5, h⟩ | ⟨h5, h⟩
            · skip
              obtain ⟨r6, h6, h⟩ := Option.bind_eq_some_iff.mp h
              have h6 := F16_ok (m + 1) (b1179) (List.take k1180 l1183) (1) (z1176) r6 h6
              cases r6 with
              | a0 k1202 l1203 =>
                rcases ite_eq h with ⟨h7, h⟩ | ⟨h7, h⟩
                · skip
                  obtain ⟨r8, h8, h⟩ := Option.bind_eq_some_iff.mp h
                  have h8 := F20_ok (m + 0) r8 h8
                  cases r8 with
                  | a0 b1204 =>
                    cases h
                    exact call_pathL (gs := [.an (V.agg [vb b1158, V.hs 1 0 k1159]) [Ob.cells true false 2 [[V.list 1 l1160, i64 z1161]], Ob.cells true true 2 l1162], .a, .lp (VX.exit 0) (s5_0_0 z1175 z1176 z1177 z1178 b1179 k1180 z1181 b1182 l1183), .f, .a, .t, .an (V.hs 0 0 k1200) [Ob.cells true true 2 l1201], .t, .a, .t, .t, .t, .an (V.hs 0 0 k1202) [Ob.cells true true 2 l1203], .t, .t, .t, .t, .an (vb b1204) [], .t]) (notIn []) rfl rfl (by kernel_rfl) (And.intro h0 (And.intro h1 (And.intro (decide_eq_false h2) (And.intro (decide_eq_true h3) (And.intro h4 (And.intro h5 (And.intro h5 (And.intro h5 (And.intro (decide_eq_true h3) (And.intro h6 (And.intro h5 (And.intro h5 (And.intro h5 (And.intro h7 (And.intro h8 (And.intro h7 True.intro))))))))))))))))
                · skip
                  cases h
            · skip
              cases h
        · skip
          cases h
/-! ## 67 -/
def F67 (z1228 : Int) (z1229 : Int) (z1230 : Int) : Int :=
  if z1228 < z1229 then
   z1229
  else
   if z1228 > z1230 then
    z1230
   else
    z1228
theorem F67_ok (m : Nat) (z1228 : Int) (z1229 : Int) (z1230 : Int) (z1233 : Int) (h : F67 z1228 z1229 z1230 = z1233) : call Try.prog X O0 18446744073709551616 (m + 1) 67 ([i64 z1228, i64 z1229, i64 z1230]) ([]) = some (i64 z1233, []) := by
  unfold F67 at h
  rcases ite_eq h with ⟨h0, h⟩ | ⟨h0, h⟩
  · skip
    subst h
    exact call_pathL (gs := [.t]) (notIn []) rfl rfl (by kernel_rfl) (And.intro (decide_eq_true h0) True.intro)
  · skip
    rcases ite_eq h with ⟨h1, h⟩ | ⟨h1, h⟩
    · skip
      subst h
      exact call_pathL (gs := [.f, .t]) (notIn []) rfl rfl (by kernel_rfl) (And.intro (decide_eq_false h0) (And.intro (decide_eq_true h1) True.intro))
    · skip
      subst h
      exact call_pathL (gs := [.f, .f]) (notIn []) rfl rfl (by kernel_rfl) (And.intro (decide_eq_false h0) (And.intro (decide_eq_false h1) True.intro))
/-! ## 78 -/
def F78 (z1253 : Int) : Int :=
  bnd (F67 (z1253) (-536870912) (536870912)) fun z1255 =>
  z1255
theorem F78_ok (m : Nat) (z1253 : Int) (z1257 : Int) (h : F78 z1253 = z1257) : call Try.prog X O0 18446744073709551616 (m + 2) 78 ([i64 z1253]) ([]) = some (i64 z1257, []) := by
  unfold F78 at h
  obtain ⟨z1255, h0, h⟩ := bnd_eq h
  subst h
  exact call_pathL (gs := [.an (i64 z1255) []]) (notIn []) rfl rfl (by kernel_rfl) (And.intro (F67_ok (m + 0) (z1253) (-536870912) (536870912) z1255 h0) True.intro)
/-! ## 58 -/
inductive A58 where
  | a0 (z1260 : Int) (z1261 : Int)
@[reducible] def A58.out : A58 → V × Store
  | .a0 z1260 z1261 => (V.agg [i64 z1260, i64 z1261], [])
def F58 (z1250 : Int) (z1251 : Int) : Option A58 :=
  bnd (F78 (z1250)) fun z1258 =>
  bnd (F78 (z1251)) fun z1259 =>
  some (A58.a0 (z1258) (z1259))
theorem F58_ok (m : Nat) (z1250 : Int) (z1251 : Int) (r : A58) (h : F58 z1250 z1251 = some r) : call Try.prog X O0 18446744073709551616 (m + 3) 58 ([V.agg [i64 z1250, i64 z1251]]) ([]) = some r.out := by
  unfold F58 at h
  obtain ⟨z1258, h0, h⟩ := bnd_eq h
  obtain ⟨z1259, h1, h⟩ := bnd_eq h
  cases h
  exact call_pathL (gs := [.a, .an (i64 z1258) [], .a, .an (i64 z1259) [], .a, .ft [⟨0, [0], []⟩, ⟨1, [0], []⟩, ⟨2, [], []⟩, ⟨3, [0], []⟩, ⟨4, [0], []⟩, ⟨5, [], []⟩, ⟨6, [], []⟩, ⟨7, [1], [1]⟩]]) (notIn []) rfl rfl (by kernel_rfl) (And.intro (F78_ok (m + 0) (z1250) z1258 h0) (And.intro (F78_ok (m + 0) (z1251) z1259 h1) (And.intro (Eq.refl ([⟨0, [0], []⟩, ⟨1, [0], []⟩, ⟨2, [], []⟩, ⟨3, [0], []⟩, ⟨4, [0], []⟩, ⟨5, [], []⟩, ⟨6, [], []⟩, ⟨7, [1], [1]⟩] : List Foot)) True.intro)))
/-! ## 34 -/
inductive A34 where
  | a0 (z1267 : Int) (z1268 : Int) (z1269 : Int) (z1270 : Int)
@[reducible] def A34.out : A34 → V × Store
  | .a0 z1267 z1268 z1269 z1270 => (V.tup [V.agg [i64 z1267, i64 z1268], V.agg [i64 z1269, i64 z1270]], [])
def F34 (b1245 : Bool) (l1246 : List (List V)) (z1247 : Int) : Option A34 :=
  if 0 ≤ z1247 then
   ((l1246[Int.toNat z1247]?).bind W43.dec).bind fun e1249 =>
   (F58 (e1249.c0) (e1249.c1)).bind fun r => match r with
   | .a0 z1262 z1263 =>
    if (↑(List.length l1246) : Int) = 0 then
     none -- none
    else
     if 0 ≤ Int.tmod (w64 (z1247 + 1)) (↑(List.length l1246) : Int) then
      ((l1246[Int.toNat (Int.tmod (w64 (z1247 + (1 : Int))) (↑(List.length l1246) : Int))]?).bind W43.dec).bind fun e1264 =>
      (F58 (e1264.c0) (e1264.c1)).bind fun r => match r with
      | .a0 z1265 z1266 =>
       some (A34.a0 (z1262) (z1263) (z1265) (z1266))
     else
      none -- none
  else
   none -- none
theorem F34_ok (m : Nat) (b1245 : Bool) (l1246 : List (List V)) (z1247 : Int) (r : A34) (h : F34 b1245 l1246 z1247 = some r) : call Try.prog X O0 18446744073709551616 (m + 4) 34 ([V.agg [vb b1245, V.list 2 l1246], i64 z1247]) ([]) = some r.out := by
  unfold F34 at h
  rcases ite_eq h with ⟨h0, h⟩ | ⟨h0, h⟩
  · skip
    obtain ⟨e1249, h1, h⟩ := Option.bind_eq_some_iff.mp h
    obtain ⟨r2, h2, h⟩ := Option.bind_eq_some_iff.mp h
    have h2 := F58_ok (m + 0) (e1249.c0) (e1249.c1) r2 h2
    cases r2 with
    | a0 z1262 z1263 =>
      rcases ite_eq h with ⟨h3, h⟩ | ⟨h3, h⟩
      · skip
        cases h
      · skip
        rcases ite_eq h with ⟨h4, h⟩ | ⟨h4, h⟩
        · skip
          obtain ⟨e1264, h5, h⟩ := Option.bind_eq_some_iff.mp h
          obtain ⟨r6, h6, h⟩ := Option.bind_eq_some_iff.mp h
          have h6 := F58_ok (m + 0) (e1264.c0) (e1264.c1) r6 h6
          cases r6 with
          | a0 z1265 z1266 =>
            cases h
            exact call_pathL (gs := [.a, .t, .el (W43.cells e1249), .an (V.agg [i64 z1262, i64 z1263]) [], .a, .a, .f, .t, .el (W43.cells e1264), .an (V.agg [i64 z1265, i64 z1266]) [], .a, .a, .ft [⟨0, [0], []⟩, ⟨1, [0], []⟩, ⟨2, [], []⟩, ⟨3, [], []⟩, ⟨4, [], []⟩, ⟨5, [], []⟩, ⟨6, [0], []⟩, ⟨7, [0], []⟩, ⟨8, [], []⟩, ⟨9, [], []⟩, ⟨10, [0], []⟩, ⟨11, [0], []⟩, ⟨12, [], []⟩, ⟨13, [], []⟩, ⟨14, [], []⟩, ⟨15, [], []⟩, ⟨16, [], []⟩, ⟨17, [1], [1]⟩, ⟨18, [2], [2]⟩]]) (notIn []) rfl rfl (by kernel_rfl) (And.intro (decide_eq_true h0) (And.intro (W43.dec_ok h1) (And.intro h2 (And.intro (decide_eq_false h3) (And.intro (decide_eq_true h4) (And.intro (W43.dec_ok h5) (And.intro h6 (And.intro (Eq.refl ([⟨0, [0], []⟩, ⟨1, [0], []⟩, ⟨2, [], []⟩, ⟨3, [], []⟩, ⟨4, [], []⟩, ⟨5, [], []⟩, ⟨6, [0], []⟩, ⟨7, [0], []⟩, ⟨8, [], []⟩, ⟨9, [], []⟩, ⟨10, [0], []⟩, ⟨11, [0], []⟩, ⟨12, [], []⟩, ⟨13, [], []⟩, ⟨14, [], []⟩, ⟨15, [], []⟩, ⟨16, [], []⟩, ⟨17, [1], [1]⟩, ⟨18, [2], [2]⟩] : List Foot)) True.intro))))))))
        · skip
          cases h
  · skip
    cases h
/-! ## 79 -/
noncomputable abbrev B79 : Code := (Try.f79.body).getD .skip
inductive R79_0 where
  | e0 (z1292 : Int)
@[reducible] def s79_0_0 (z1291 : Int) (z1292 : Int) (z1293 : Int) (b1294 : Bool) : S := { T := V.int IntKind.u64 z1291 :: U :: U :: V.int IntKind.u64 z1292 :: V.int IntKind.u64 z1293 :: V.int IntKind.u64 z1293 :: vb b1294 :: un 15 [], σ := [] }
def R79_0.St : R79_0 → VX × S → Prop
  | .e0 z1292, p => ∃ z1291 : Int, ∃ z1293 : Int, ∃ b1294 : Bool, p = (VX.exit 0, s79_0_0 z1291 z1292 z1293 b1294)
def L79_0 : Nat → Int → Int → Int → Option R79_0
  | 0, _, _, _ => none
  | n + 1, z1288, z1289, z1290 =>
    if z1290 > 0 then
     if IntKind.wrap IntKind.u64 (IntKind.wrap IntKind.u64 (z1289 + z1290) * IntKind.wrap IntKind.u64 (z1289 + z1290)) ≤ z1288 then
      L79_0 n (z1288) (IntKind.wrap IntKind.u64 (z1289 + z1290)) (IntKind.wrap IntKind.u64 (Int.tdiv z1290 2))
     else
      L79_0 n (z1288) (z1289) (IntKind.wrap IntKind.u64 (Int.tdiv z1290 2))
    else
     some (R79_0.e0 (z1289))
theorem L79_0_ok (m : Nat) : ∀ (n : Nat) (z1288 : Int) (z1289 : Int) (z1290 : Int) (r : R79_0), L79_0 n z1288 z1289 z1290 = some r → ∃ st, loopFrom Try.prog X (genO X (call Try.prog X O0 18446744073709551616 (m + 0))) 79 (0) 18446744073709551616 B79 0 n ({ T := V.int IntKind.u64 z1288 :: U :: U :: V.int IntKind.u64 z1289 :: V.int IntKind.u64 z1290 :: un 17 [], σ := [] }) = some st ∧ r.St st
  | 0, _, _, _, r, h => by cases h
  | n + 1, z1288, z1289, z1290, r, h => by
    rw [L79_0] at h
    rcases ite_eq h with ⟨h0, h⟩ | ⟨h0, h⟩
    · skip
      rcases ite_eq h with ⟨h1, h⟩ | ⟨h1, h⟩
      · skip
        obtain ⟨st, hs, hr⟩ := L79_0_ok m n (z1288) (IntKind.wrap IntKind.u64 (z1289 + z1290)) (IntKind.wrap IntKind.u64 (Int.tdiv z1290 2)) r h
        exact ⟨st, (round_on (gs := [.t, .t, .a]) (notIn []) (by kernel_rfl) (And.intro (decide_eq_true h0) (And.intro (decide_eq_true h1) True.intro)) n).trans hs, hr⟩
      · skip
        obtain ⟨st, hs, hr⟩ := L79_0_ok m n (z1288) (z1289) (IntKind.wrap IntKind.u64 (Int.tdiv z1290 2)) r h
        exact ⟨st, (round_on (gs := [.t, .f, .a]) (notIn []) (by kernel_rfl) (And.intro (decide_eq_true h0) (And.intro (decide_eq_false h1) True.intro)) n).trans hs, hr⟩
    · skip
      cases h
      exact ⟨_, round_out (gs := [.f]) (notIn []) (by kernel_rfl) rfl (And.intro (decide_eq_false h0) True.intro) n, z1288, z1290, decide (z1290 > 0), rfl⟩
inductive A79 where
  | a0 (z1299 : Int)
@[reducible] def A79.out : A79 → V × Store
  | .a0 z1299 => (V.int IntKind.u64 z1299, [])
def F79 (z1285 : Int) : Option A79 :=
  (L79_0 18446744073709551616 (z1285) (0) (2147483648)).bind fun r => match r with
  | .e0 z1296 =>
   some (A79.a0 (z1296))
theorem F79_ok (m : Nat) (z1285 : Int) (r : A79) (h : F79 z1285 = some r) : call Try.prog X O0 18446744073709551616 (m + 1) 79 ([V.int IntKind.u64 z1285]) ([]) = some r.out := by
  unfold F79 at h
  obtain ⟨r0, h0, h⟩ := Option.bind_eq_some_iff.mp h
  obtain ⟨st0, h0, hr0⟩ := L79_0_ok m 18446744073709551616 (z1285) (0) (2147483648) r0 h0
  have h0 : loopRun Try.prog X (genO X (call Try.prog X O0 18446744073709551616 (m + 0))) 79 (0) 18446744073709551616 B79 0 ({ T := V.int IntKind.u64 z1285 :: U :: V.int IntKind.u64 0 :: V.int IntKind.u64 0 :: V.int IntKind.u64 2147483648 :: un 17 [], σ := [] }) = some st0 := by
    rw [loopRun_from, show pre X 79 (0) 0 ({ T := V.int IntKind.u64 z1285 :: U :: V.int IntKind.u64 0 :: V.int IntKind.u64 0 :: V.int IntKind.u64 2147483648 :: un 17 [], σ := [] }) = { T := V.int IntKind.u64 z1285 :: U :: U :: V.int IntKind.u64 0 :: V.int IntKind.u64 2147483648 :: un 17 [], σ := [] } by kernel_rfl]
    exact h0
  cases r0 with
  | e0 z1296 =>
    obtain ⟨z1295, z1297, b1298, rfl⟩ := hr0
    cases h
    exact call_pathL (gs := [.lp (VX.exit 0) (s79_0_0 z1295 z1296 z1297 b1298)]) (notIn []) rfl rfl (by kernel_rfl) (And.intro h0 True.intro)
/-! ## 59 -/
inductive A59 where
  | a0 (z1301 : Int)
@[reducible] def A59.out : A59 → V × Store
  | .a0 z1301 => (i64 z1301, [])
def F59 (z1280 : Int) (z1281 : Int) : Option A59 :=
  bnd (F67 (z1280) (-1073741824) (1073741824)) fun z1283 =>
  bnd (F67 (z1281) (-1073741824) (1073741824)) fun z1284 =>
  (F79 (IntKind.wrap IntKind.u64 (IntKind.wrap IntKind.u64 (w64 (z1283 * z1283)) + IntKind.wrap IntKind.u64 (w64 (z1284 * z1284))))).bind fun r => match r with
  | .a0 z1300 =>
   some (A59.a0 (w64 z1300))
theorem F59_ok (m : Nat) (z1280 : Int) (z1281 : Int) (r : A59) (h : F59 z1280 z1281 = some r) : call Try.prog X O0 18446744073709551616 (m + 2) 59 ([i64 z1280, i64 z1281]) ([]) = some r.out := by
  unfold F59 at h
  obtain ⟨z1283, h0, h⟩ := bnd_eq h
  obtain ⟨z1284, h1, h⟩ := bnd_eq h
  obtain ⟨r2, h2, h⟩ := Option.bind_eq_some_iff.mp h
  have h2 := F79_ok (m + 0) (IntKind.wrap IntKind.u64 (IntKind.wrap IntKind.u64 (w64 (z1283 * z1283)) + IntKind.wrap IntKind.u64 (w64 (z1284 * z1284)))) r2 h2
  cases r2 with
  | a0 z1300 =>
    cases h
    exact call_pathL (gs := [.an (i64 z1283) [], .an (i64 z1284) [], .an (V.int IntKind.u64 z1300) []]) (notIn []) rfl rfl (by kernel_rfl) (And.intro (F67_ok (m + 0) (z1280) (-1073741824) (1073741824) z1283 h0) (And.intro (F67_ok (m + 0) (z1281) (-1073741824) (1073741824) z1284 h1) (And.intro h2 True.intro)))
/-! ## 36 -/
inductive A36 where
  | a0 (z1303 : Int)
@[reducible] def A36.out : A36 → V × Store
  | .a0 z1303 => (i64 z1303, [])
def F36 (z1275 : Int) (z1276 : Int) (z1277 : Int) (z1278 : Int) : Option A36 :=
  (F59 (w64 (z1277 - z1275)) (w64 (z1278 - z1276))).bind fun r => match r with
  | .a0 z1302 =>
   some (A36.a0 (z1302))
theorem F36_ok (m : Nat) (z1275 : Int) (z1276 : Int) (z1277 : Int) (z1278 : Int) (r : A36) (h : F36 z1275 z1276 z1277 z1278 = some r) : call Try.prog X O0 18446744073709551616 (m + 3) 36 ([V.agg [i64 z1275, i64 z1276], V.agg [i64 z1277, i64 z1278]]) ([]) = some r.out := by
  unfold F36 at h
  obtain ⟨r0, h0, h⟩ := Option.bind_eq_some_iff.mp h
  have h0 := F59_ok (m + 0) (w64 (z1277 - z1275)) (w64 (z1278 - z1276)) r0 h0
  cases r0 with
  | a0 z1302 =>
    cases h
    exact call_pathL (gs := [.a, .a, .a, .a, .an (i64 z1302) []]) (notIn []) rfl rfl (by kernel_rfl) (And.intro h0 True.intro)
/-! ## 45 -/
def F45 (z1308 : Int) : Int :=
  bnd (F67 (z1308) (-1099511627776) (1099511627776)) fun z1310 =>
  z1310
theorem F45_ok (m : Nat) (z1308 : Int) (z1312 : Int) (h : F45 z1308 = z1312) : call Try.prog X O0 18446744073709551616 (m + 2) 45 ([i64 z1308]) ([]) = some (i64 z1312, []) := by
  unfold F45 at h
  obtain ⟨z1310, h0, h⟩ := bnd_eq h
  subst h
  exact call_pathL (gs := [.an (i64 z1310) []]) (notIn []) rfl rfl (by kernel_rfl) (And.intro (F67_ok (m + 0) (z1308) (-1099511627776) (1099511627776) z1310 h0) True.intro)
/-! ## 82 -/
inductive A82 where
  | a0 (z1316 : Int) (b1317 : Bool)
@[reducible] def A82.out : A82 → V × Store
  | .a0 z1316 b1317 => (V.tup [V.int IntKind.u64 z1316, vb b1317], [])
def F82 (z1314 : Int) : Option A82 :=
  if z1314 < 0 then
   some (A82.a0 (IntKind.wrap IntKind.u64 (w64 (0 - z1314))) (true))
  else
   some (A82.a0 (IntKind.wrap IntKind.u64 z1314) (false))
theorem F82_ok (m : Nat) (z1314 : Int) (r : A82) (h : F82 z1314 = some r) : call Try.prog X O0 18446744073709551616 (m + 1) 82 ([i64 z1314]) ([]) = some r.out := by
  unfold F82 at h
  rcases ite_eq h with ⟨h0, h⟩ | ⟨h0, h⟩
  · skip
    cases h
    exact call_pathL (gs := [.t]) (notIn []) rfl rfl (by kernel_rfl) (And.intro (decide_eq_true h0) True.intro)
  · skip
    cases h
    exact call_pathL (gs := [.f]) (notIn []) rfl rfl (by kernel_rfl) (And.intro (decide_eq_false h0) True.intro)
def Y0 : ByteArray := { data := List.toArray (List.append (List.append [0, 1, 2, 2, 3, 3, 3, 3, 4, 4, 4, 4, 4, 4, 4, 4, 5, 5, 5, 5, 5, 5, 5, 5, 5, 5, 5, 5, 5, 5, 5, 5, 6, 6, 6, 6, 6, 6, 6, 6, 6, 6, 6, 6, 6, 6, 6, 6, 6, 6, 6, 6, 6, 6, 6, 6, 6, 6, 6, 6, 6, 6, 6, 6] [7, 7, 7, 7, 7, 7, 7, 7, 7, 7, 7, 7, 7, 7, 7, 7, 7, 7, 7, 7, 7, 7, 7, 7, 7, 7, 7, 7, 7, 7, 7, 7, 7, 7, 7, 7, 7, 7, 7, 7, 7, 7, 7, 7, 7, 7, 7, 7, 7, 7, 7, 7, 7, 7, 7, 7, 7, 7, 7, 7, 7, 7, 7, 7]) (List.append [8, 8, 8, 8, 8, 8, 8, 8, 8, 8, 8, 8, 8, 8, 8, 8, 8, 8, 8, 8, 8, 8, 8, 8, 8, 8, 8, 8, 8, 8, 8, 8, 8, 8, 8, 8, 8, 8, 8, 8, 8, 8, 8, 8, 8, 8, 8, 8, 8, 8, 8, 8, 8, 8, 8, 8, 8, 8, 8, 8, 8, 8, 8, 8] [8, 8, 8, 8, 8, 8, 8, 8, 8, 8, 8, 8, 8, 8, 8, 8, 8, 8, 8, 8, 8, 8, 8, 8, 8, 8, 8, 8, 8, 8, 8, 8, 8, 8, 8, 8, 8, 8, 8, 8, 8, 8, 8, 8, 8, 8, 8, 8, 8, 8, 8, 8, 8, 8, 8, 8, 8, 8, 8, 8, 8, 8, 8, 8])) }
/-! ## 89 -/
inductive A89 where
  | a0 (z1342 : Int)
@[reducible] def A89.out : A89 → V × Store
  | .a0 z1342 => (i64 z1342, [])
def F89 (z1340 : Int) : Option A89 :=
  if z1340 ≥ 4294967296 then
   if Int.fdiv z1340 4294967296 ≥ 65536 then
    if Int.fdiv (Int.fdiv z1340 4294967296) 65536 ≥ 256 then
     if 0 ≤ IntKind.wrap IntKind.u8 (Int.fdiv (Int.fdiv (Int.fdiv z1340 4294967296) 65536) 256) ∧ Int.toNat (IntKind.wrap IntKind.u8 (Int.fdiv (Int.fdiv (Int.fdiv z1340 4294967296) 65536) 256)) < 256 then
      some (A89.a0 (w64 (56 + w64 (byteAt Y0 (Int.toNat (IntKind.wrap IntKind.u8 (Int.fdiv (Int.fdiv (Int.fdiv z1340 4294967296) 65536) 256)))))))
     else
      none -- none
    else
     if 0 ≤ IntKind.wrap IntKind.u8 (Int.fdiv (Int.fdiv z1340 4294967296) 65536) ∧ Int.toNat (IntKind.wrap IntKind.u8 (Int.fdiv (Int.fdiv z1340 4294967296) 65536)) < 256 then
      some (A89.a0 (w64 (48 + w64 (byteAt Y0 (Int.toNat (IntKind.wrap IntKind.u8 (Int.fdiv (Int.fdiv z1340 4294967296) 65536)))))))
     else
      none -- none
   else
    if Int.fdiv z1340 4294967296 ≥ 256 then
     if 0 ≤ IntKind.wrap IntKind.u8 (Int.fdiv (Int.fdiv z1340 4294967296) 256) ∧ Int.toNat (IntKind.wrap IntKind.u8 (Int.fdiv (Int.fdiv z1340 4294967296) 256)) < 256 then
      some (A89.a0 (w64 (40 + w64 (byteAt Y0 (Int.toNat (IntKind.wrap IntKind.u8 (Int.fdiv (Int.fdiv z1340 4294967296) 256)))))))
     else
      none -- none
    else
     if 0 ≤ IntKind.wrap IntKind.u8 (Int.fdiv z1340 4294967296) ∧ Int.toNat (IntKind.wrap IntKind.u8 (Int.fdiv z1340 4294967296)) < 256 then
      some (A89.a0 (w64 (32 + w64 (byteAt Y0 (Int.toNat (IntKind.wrap IntKind.u8 (Int.fdiv z1340 4294967296)))))))
     else
      none -- none
  else
   if z1340 ≥ 65536 then
    if Int.fdiv z1340 65536 ≥ 256 then
     if 0 ≤ IntKind.wrap IntKind.u8 (Int.fdiv (Int.fdiv z1340 65536) 256) ∧ Int.toNat (IntKind.wrap IntKind.u8 (Int.fdiv (Int.fdiv z1340 65536) 256)) < 256 then
      some (A89.a0 (w64 (24 + w64 (byteAt Y0 (Int.toNat (IntKind.wrap IntKind.u8 (Int.fdiv (Int.fdiv z1340 65536) 256)))))))
     else
      none -- none
    else
     if 0 ≤ IntKind.wrap IntKind.u8 (Int.fdiv z1340 65536) ∧ Int.toNat (IntKind.wrap IntKind.u8 (Int.fdiv z1340 65536)) < 256 then
      some (A89.a0 (w64 (16 + w64 (byteAt Y0 (Int.toNat (IntKind.wrap IntKind.u8 (Int.fdiv z1340 65536)))))))
     else
      none -- none
   else
    if z1340 ≥ 256 then
     if 0 ≤ IntKind.wrap IntKind.u8 (Int.fdiv z1340 256) ∧ Int.toNat (IntKind.wrap IntKind.u8 (Int.fdiv z1340 256)) < 256 then
      some (A89.a0 (w64 (8 + w64 (byteAt Y0 (Int.toNat (IntKind.wrap IntKind.u8 (Int.fdiv z1340 256)))))))
     else
      none -- none
    else
     if 0 ≤ IntKind.wrap IntKind.u8 z1340 ∧ Int.toNat (IntKind.wrap IntKind.u8 z1340) < 256 then
      some (A89.a0 (w64 (0 + w64 (byteAt Y0 (Int.toNat (IntKind.wrap IntKind.u8 z1340))))))
     else
      none -- none
theorem F89_ok (m : Nat) (z1340 : Int) (r : A89) (h : F89 z1340 = some r) : call Try.prog X O0 18446744073709551616 (m + 1) 89 ([V.int IntKind.u64 z1340]) ([]) = some r.out := by
  unfold F89 at h
  rcases ite_eq h with ⟨h0, h⟩ | ⟨h0, h⟩
  · skip
    rcases ite_eq h with ⟨h1, h⟩ | ⟨h1, h⟩
    · skip
      rcases ite_eq h with ⟨h2, h⟩ | ⟨h2, h⟩
      · skip
        rcases ite_eq h with ⟨h3, h⟩ | ⟨h3, h⟩
        · skip
          cases h
          exact call_pathL (gs := [.t, .a, .t, .a, .t, .a, .t]) (notIn []) rfl rfl (by kernel_rfl) (And.intro (decide_eq_true h0) (And.intro (decide_eq_true h1) (And.intro (decide_eq_true h2) (And.intro (decide_eq_true h3) True.intro))))
        · skip
          cases h
      · skip
        rcases ite_eq h with ⟨h3, h⟩ | ⟨h3, h⟩
        · skip
          cases h
          exact call_pathL (gs := [.t, .a, .t, .a, .f, .t]) (notIn []) rfl rfl (by kernel_rfl) (And.intro (decide_eq_true h0) (And.intro (decide_eq_true h1) (And.intro (decide_eq_false h2) (And.intro (decide_eq_true h3) True.intro))))
        · skip
          cases h
    · skip
      rcases ite_eq h with ⟨h2, h⟩ | ⟨h2, h⟩
      · skip
        rcases ite_eq h with ⟨h3, h⟩ | ⟨h3, h⟩
        · skip
          cases h
          exact call_pathL (gs := [.t, .a, .f, .t, .a, .t]) (notIn []) rfl rfl (by kernel_rfl) (And.intro (decide_eq_true h0) (And.intro (decide_eq_false h1) (And.intro (decide_eq_true h2) (And.intro (decide_eq_true h3) True.intro))))
        · skip
          cases h
      · skip
        rcases ite_eq h with ⟨h3, h⟩ | ⟨h3, h⟩
        · skip
          cases h
          exact call_pathL (gs := [.t, .a, .f, .f, .t]) (notIn []) rfl rfl (by kernel_rfl) (And.intro (decide_eq_true h0) (And.intro (decide_eq_false h1) (And.intro (decide_eq_false h2) (And.intro (decide_eq_true h3) True.intro))))
        · skip
          cases h
  · skip
    rcases ite_eq h with ⟨h1, h⟩ | ⟨h1, h⟩
    · skip
      rcases ite_eq h with ⟨h2, h⟩ | ⟨h2, h⟩
      · skip
        rcases ite_eq h with ⟨h3, h⟩ | ⟨h3, h⟩
        · skip
          cases h
          exact call_pathL (gs := [.f, .t, .a, .t, .a, .t]) (notIn []) rfl rfl (by kernel_rfl) (And.intro (decide_eq_false h0) (And.intro (decide_eq_true h1) (And.intro (decide_eq_true h2) (And.intro (decide_eq_true h3) True.intro))))
        · skip
          cases h
      · skip
        rcases ite_eq h with ⟨h3, h⟩ | ⟨h3, h⟩
        · skip
          cases h
          exact call_pathL (gs := [.f, .t, .a, .f, .t]) (notIn []) rfl rfl (by kernel_rfl) (And.intro (decide_eq_false h0) (And.intro (decide_eq_true h1) (And.intro (decide_eq_false h2) (And.intro (decide_eq_true h3) True.intro))))
        · skip
          cases h
    · skip
      rcases ite_eq h with ⟨h2, h⟩ | ⟨h2, h⟩
      · skip
        rcases ite_eq h with ⟨h3, h⟩ | ⟨h3, h⟩
        · skip
          cases h
          exact call_pathL (gs := [.f, .f, .t, .a, .t]) (notIn []) rfl rfl (by kernel_rfl) (And.intro (decide_eq_false h0) (And.intro (decide_eq_false h1) (And.intro (decide_eq_true h2) (And.intro (decide_eq_true h3) True.intro))))
        · skip
          cases h
      · skip
        rcases ite_eq h with ⟨h3, h⟩ | ⟨h3, h⟩
        · skip
          cases h
          exact call_pathL (gs := [.f, .f, .f, .t]) (notIn []) rfl rfl (by kernel_rfl) (And.intro (decide_eq_false h0) (And.intro (decide_eq_false h1) (And.intro (decide_eq_false h2) (And.intro (decide_eq_true h3) True.intro))))
        · skip
          cases h
/-! ## 88 -/
inductive A88 where
  | a0 (z1345 : Int)
@[reducible] def A88.out : A88 → V × Store
  | .a0 z1345 => (i64 z1345, [])
def F88 (z1338 : Int) : Option A88 :=
  (F89 (z1338)).bind fun r => match r with
  | .a0 z1344 =>
   some (A88.a0 (w64 (64 - z1344)))
theorem F88_ok (m : Nat) (z1338 : Int) (r : A88) (h : F88 z1338 = some r) : call Try.prog X O0 18446744073709551616 (m + 2) 88 ([V.int IntKind.u64 z1338]) ([]) = some r.out := by
  unfold F88 at h
  obtain ⟨r0, h0, h⟩ := Option.bind_eq_some_iff.mp h
  have h0 := F89_ok (m + 0) (z1338) r0 h0
  cases r0 with
  | a0 z1344 =>
    cases h
    exact call_pathL (gs := [.an (i64 z1344) []]) (notIn []) rfl rfl (by kernel_rfl) (And.intro h0 True.intro)
/-! ## 87 -/
noncomputable abbrev B87 : Code := (Try.f87.body).getD .skip
inductive R87_2 where
  | e0 (z1689 : Int) (z1690 : Int) (z1693 : Int) (z1694 : Int) (z1696 : Int) (z1697 : Int)
  | e1 (z1702 : Int) (z1703 : Int) (z1706 : Int) (z1707 : Int) (z1709 : Int) (z1710 : Int)
  | e2 (z1719 : Int) (z1720 : Int) (z1723 : Int) (z1724 : Int) (z1726 : Int) (z1727 : Int)
@[reducible] def s87_2_0 (z1689 : Int) (z1690 : Int) (z1691 : Int) (z1692 : Int) (z1693 : Int) (z1694 : Int) (z1695 : Int) (z1696 : Int) (z1697 : Int) (z1698 : Int) (b1699 : Bool) (z1700 : Int) (b1701 : Bool) : S := { T := U :: U :: V.int IntKind.u64 z1689 :: un 5 (V.int IntKind.u64 z1690 :: V.int IntKind.u64 z1691 :: V.int IntKind.u64 z1692 :: U :: U :: U :: V.int IntKind.u64 z1693 :: V.int IntKind.u64 z1694 :: V.int IntKind.u64 z1695 :: V.int IntKind.u64 z1696 :: V.int IntKind.u64 z1697 :: un 83 (V.int IntKind.u64 z1698 :: vb b1699 :: vb b1699 :: E :: E :: E :: E :: E :: E :: E :: E :: vb true :: V.int IntKind.u64 z1698 :: V.int IntKind.u64 z1697 :: V.int IntKind.u64 z1700 :: V.int IntKind.u64 z1691 :: V.int IntKind.u64 z1695 :: V.int IntKind.u64 z1695 :: vb b1701 :: un 14 [])), σ := [] }
@[reducible] def s87_2_1 (z1702 : Int) (z1703 : Int) (z1704 : Int) (z1705 : Int) (z1706 : Int) (z1707 : Int) (z1708 : Int) (z1709 : Int) (z1710 : Int) (z1711 : Int) (b1712 : Bool) (z1713 : Int) (z1714 : Int) (z1715 : Int) (z1716 : Int) (b1717 : Bool) (b1718 : Bool) : S := { T := U :: U :: V.int IntKind.u64 z1702 :: un 5 (V.int IntKind.u64 z1703 :: V.int IntKind.u64 z1704 :: V.int IntKind.u64 z1705 :: U :: U :: U :: V.int IntKind.u64 z1706 :: V.int IntKind.u64 z1707 :: V.int IntKind.u64 z1708 :: V.int IntKind.u64 z1709 :: V.int IntKind.u64 z1710 :: un 83 (V.int IntKind.u64 z1711 :: vb b1712 :: vb b1712 :: V.int IntKind.u64 z1711 :: V.int IntKind.u64 z1705 :: V.int IntKind.u64 z1713 :: V.int IntKind.u64 z1714 :: V.int IntKind.u64 z1715 :: V.int IntKind.u64 z1706 :: V.int IntKind.u64 z1716 :: vb b1717 :: vb b1717 :: V.int IntKind.u64 z1711 :: V.int IntKind.u64 z1710 :: V.int IntKind.u64 z1714 :: V.int IntKind.u64 z1704 :: V.int IntKind.u64 z1708 :: V.int IntKind.u64 z1708 :: vb b1718 :: un 14 [])), σ := [] }
@[reducible] def s87_2_2 (z1719 : Int) (z1720 : Int) (z1721 : Int) (z1722 : Int) (z1723 : Int) (z1724 : Int) (z1725 : Int) (z1726 : Int) (z1727 : Int) (b1728 : Bool) (z1729 : Int) (z1730 : Int) (z1731 : Int) (b1732 : Bool) : S := { T := U :: U :: V.int IntKind.u64 z1719 :: un 5 (V.int IntKind.u64 z1720 :: V.int IntKind.u64 z1721 :: V.int IntKind.u64 z1722 :: U :: U :: U :: V.int IntKind.u64 z1723 :: V.int IntKind.u64 z1724 :: V.int IntKind.u64 z1725 :: V.int IntKind.u64 z1726 :: V.int IntKind.u64 z1727 :: un 83 (V.int IntKind.u64 z1727 :: vb b1728 :: vb b1728 :: V.int IntKind.u64 z1727 :: V.int IntKind.u64 z1722 :: V.int IntKind.u64 z1729 :: V.int IntKind.u64 z1725 :: V.int IntKind.u64 z1730 :: V.int IntKind.u64 z1723 :: V.int IntKind.u64 z1731 :: vb b1732 :: vb b1732 :: un 21 [])), σ := [] }
def R87_2.St : R87_2 → VX × S → Prop
  | .e0 z1689 z1690 z1693 z1694 z1696 z1697, p => ∃ z1691 : Int, ∃ z1692 : Int, ∃ z1695 : Int, ∃ z1698 : Int, ∃ b1699 : Bool, ∃ z1700 : Int, ∃ b1701 : Bool, p = (VX.exit 2, s87_2_0 z1689 z1690 z1691 z1692 z1693 z1694 z1695 z1696 z1697 z1698 b1699 z1700 b1701)
  | .e1 z1702 z1703 z1706 z1707 z1709 z1710, p => ∃ z1704 : Int, ∃ z1705 : Int, ∃ z1708 : Int, ∃ z1711 : Int, ∃ b1712 : Bool, ∃ z1713 : Int, ∃ z1714 : Int, ∃ z1715 : Int, ∃ z1716 : Int, ∃ b1717 : Bool, ∃ b1718 : Bool, p = (VX.exit 2, s87_2_1 z1702 z1703 z1704 z1705 z1706 z1707 z1708 z1709 z1710 z1711 b1712 z1713 z1714 z1715 z1716 b1717 b1718)
  | .e2 z1719 z1720 z1723 z1724 z1726 z1727, p => ∃ z1721 : Int, ∃ z1722 : Int, ∃ z1725 : Int, ∃ b1728 : Bool, ∃ z1729 : Int, ∃ z1730 : Int, ∃ z1731 : Int, ∃ b1732 : Bool, p = (VX.exit 2, s87_2_2 z1719 z1720 z1721 z1722 z1723 z1724 z1725 z1726 z1727 b1728 z1729 z1730 z1731 b1732)
def L87_2 : Nat → Int → Int → Int → Int → Int → Int → Int → Int → Int → Option R87_2
  | 0, _, _, _, _, _, _, _, _, _ => none
  | n + 1, z1413, z1414, z1415, z1416, z1417, z1418, z1419, z1420, z1421 =>
    if z1421 ≥ 4294967296 then
     if IntKind.wrap IntKind.u64 (z1419 + z1415) ≥ 4294967296 then
      some (R87_2.e0 (z1413) (z1414) (z1417) (z1418) (z1420) (IntKind.wrap IntKind.u64 (z1421 - 1)))
     else
      L87_2 n (z1413) (z1414) (z1415) (z1416) (z1417) (z1418) (IntKind.wrap IntKind.u64 (z1419 + z1415)) (z1420) (IntKind.wrap IntKind.u64 (z1421 - 1))
    else
     if IntKind.wrap IntKind.u64 (z1421 * z1416) > IntKind.wrap IntKind.u64 (IntKind.wrap IntKind.u64 (4294967296 * z1419) + z1417) then
      if IntKind.wrap IntKind.u64 (z1419 + z1415) ≥ 4294967296 then
       some (R87_2.e1 (z1413) (z1414) (z1417) (z1418) (z1420) (IntKind.wrap IntKind.u64 (z1421 - 1)))
      else
       L87_2 n (z1413) (z1414) (z1415) (z1416) (z1417) (z1418) (IntKind.wrap IntKind.u64 (z1419 + z1415)) (z1420) (IntKind.wrap IntKind.u64 (z1421 - 1))
     else
      some (R87_2.e2 (z1413) (z1414) (z1417) (z1418) (z1420) (z1421))
theorem L87_2_ok (m : Nat) : ∀ (n : Nat) (z1413 : Int) (z1414 : Int) (z1415 : Int) (z1416 : Int) (z1417 : Int) (z1418 : Int) (z1419 : Int) (z1420 : Int) (z1421 : Int) (r : R87_2), L87_2 n z1413 z1414 z1415 z1416 z1417 z1418 z1419 z1420 z1421 = some r → ∃ st, loopFrom Try.prog X (genO X (call Try.prog X O0 18446744073709551616 (m + 2))) 87 (0) 18446744073709551616 B87 2 n ({ T := U :: U :: V.int IntKind.u64 z1413 :: un 5 (V.int IntKind.u64 z1414 :: V.int IntKind.u64 z1415 :: V.int IntKind.u64 z1416 :: U :: U :: U :: V.int IntKind.u64 z1417 :: V.int IntKind.u64 z1418 :: V.int IntKind.u64 z1419 :: V.int IntKind.u64 z1420 :: V.int IntKind.u64 z1421 :: un 116 []), σ := [] }) = some st ∧ r.St st
  | 0, _, _, _, _, _, _, _, _, _, r, h => by cases h
  | n + 1, z1413, z1414, z1415, z1416, z1417, z1418, z1419, z1420, z1421, r, h => by
    rw [L87_2] at h
    rcases ite_eq h with ⟨h0, h⟩ | ⟨h0, h⟩
    · skip
      rcases ite_eq h with ⟨h1, h⟩ | ⟨h1, h⟩
      · skip
        cases h
        exact ⟨_, round_out (gs := [.t, .t, .t, .t, .t, .t, .t, .t, .t, .a, .t]) (notIn []) (by kernel_rfl) rfl (And.intro (decide_eq_true h0) (And.intro (decide_eq_true h0) (And.intro (decide_eq_true h0) (And.intro (decide_eq_true h0) (And.intro (decide_eq_true h0) (And.intro (decide_eq_true h0) (And.intro (decide_eq_true h0) (And.intro (decide_eq_true h0) (And.intro (decide_eq_true h0) (And.intro (decide_eq_true h1) True.intro)))))))))) n, z1415, z1416, IntKind.wrap IntKind.u64 (z1419 + z1415), z1421, decide (z1421 ≥ 4294967296), z1419, decide (IntKind.wrap IntKind.u64 (z1419 + z1415) ≥ 4294967296), rfl⟩
      · skip
        obtain ⟨st, hs, hr⟩ := L87_2_ok m n (z1413) (z1414) (z1415) (z1416) (z1417) (z1418) (IntKind.wrap IntKind.u64 (z1419 + z1415)) (z1420) (IntKind.wrap IntKind.u64 (z1421 - 1)) r h
        exact ⟨st, (round_on (gs := [.t, .t, .t, .t, .t, .t, .t, .t, .t, .a, .f]) (notIn []) (by kernel_rfl) (And.intro (decide_eq_true h0) (And.intro (decide_eq_true h0) (And.intro (decide_eq_true h0) (And.intro (decide_eq_true h0) (And.intro (decide_eq_true h0) (And.intro (decide_eq_true h0) (And.intro (decide_eq_true h0) (And.intro (decide_eq_true h0) (And.intro (decide_eq_true h0) (And.intro (decide_eq_false h1) True.intro)))))))))) n).trans hs, hr⟩
    · skip
      rcases ite_eq h with ⟨h1, h⟩ | ⟨h1, h⟩
      · skip
        rcases ite_eq h with ⟨h2, h⟩ | ⟨h2, h⟩
        · skip
          cases h
          exact ⟨_, round_out (gs := [.f, .f, .f, .f, .f, .f, .f, .f, .f, .t, .t]) (notIn []) (by kernel_rfl) rfl (And.intro (decide_eq_false h0) (And.intro (decide_eq_false h0) (And.intro (decide_eq_false h0) (And.intro (decide_eq_false h0) (And.intro (decide_eq_false h0) (And.intro (decide_eq_false h0) (And.intro (decide_eq_false h0) (And.intro (decide_eq_false h0) (And.intro (decide_eq_false h0) (And.intro (decide_eq_true h1) (And.intro (decide_eq_true h2) True.intro))))))))))) n, z1415, z1416, IntKind.wrap IntKind.u64 (z1419 + z1415), z1421, decide (z1421 ≥ 4294967296), IntKind.wrap IntKind.u64 (z1421 * z1416), z1419, IntKind.wrap IntKind.u64 (4294967296 * z1419), IntKind.wrap IntKind.u64 (IntKind.wrap IntKind.u64 (4294967296 * z1419) + z1417), decide (IntKind.wrap IntKind.u64 (z1421 * z1416) > IntKind.wrap IntKind.u64 (IntKind.wrap IntKind.u64 (4294967296 * z1419) + z1417)), decide (IntKind.wrap IntKind.u64 (z1419 + z1415) ≥ 4294967296), rfl⟩
        · skip
          obtain ⟨st, hs, hr⟩ := L87_2_ok m n (z1413) (z1414) (z1415) (z1416) (z1417) (z1418) (IntKind.wrap IntKind.u64 (z1419 + z1415)) (z1420) (IntKind.wrap IntKind.u64 (z1421 - 1)) r h
          exact ⟨st, (round_on (gs := [.f, .f, .f, .f, .f, .f, .f, .f, .f, .t, .f]) (notIn []) (by kernel_rfl) (And.intro (decide_eq_false h0) (And.intro (decide_eq_false h0) (And.intro (decide_eq_false h0) (And.intro (decide_eq_false h0) (And.intro (decide_eq_false h0) (And.intro (decide_eq_false h0) (And.intro (decide_eq_false h0) (And.intro (decide_eq_false h0) (And.intro (decide_eq_false h0) (And.intro (decide_eq_true h1) (And.intro (decide_eq_false h2) True.intro))))))))))) n).trans hs, hr⟩
      · skip
        cases h
        exact ⟨_, round_out (gs := [.f, .f, .f, .f, .f, .f, .f, .f, .f, .f]) (notIn []) (by kernel_rfl) rfl (And.intro (decide_eq_false h0) (And.intro (decide_eq_false h0) (And.intro (decide_eq_false h0) (And.intro (decide_eq_false h0) (And.intro (decide_eq_false h0) (And.intro (decide_eq_false h0) (And.intro (decide_eq_false h0) (And.intro (decide_eq_false h0) (And.intro (decide_eq_false h0) (And.intro (decide_eq_false h1) True.intro)))))))))) n, z1415, z1416, z1419, decide (z1421 ≥ 4294967296), IntKind.wrap IntKind.u64 (z1421 * z1416), IntKind.wrap IntKind.u64 (4294967296 * z1419), IntKind.wrap IntKind.u64 (IntKind.wrap IntKind.u64 (4294967296 * z1419) + z1417), decide (IntKind.wrap IntKind.u64 (z1421 * z1416) > IntKind.wrap IntKind.u64 (IntKind.wrap IntKind.u64 (4294967296 * z1419) + z1417)), rfl⟩
inductive R87_0 where
  | e0 (z1632 : Int) (z1633 : Int) (z1634 : Int) (z1635 : Int) (z1636 : Int) (z1637 : Int) (z1638 : Int) (z1639 : Int)
  | e1 (z1645 : Int) (z1646 : Int) (z1647 : Int) (z1648 : Int) (z1649 : Int) (z1650 : Int) (z1651 : Int) (z1652 : Int)
  | e2 (z1662 : Int) (z1663 : Int) (z1664 : Int) (z1665 : Int) (z1666 : Int) (z1667 : Int) (z1668 : Int) (z1669 : Int)
@[reducible] def s87_0_0 (z1632 : Int) (z1633 : Int) (z1634 : Int) (z1635 : Int) (z1636 : Int) (z1637 : Int) (z1638 : Int) (z1639 : Int) (z1640 : Int) (z1641 : Int) (b1642 : Bool) (z1643 : Int) (b1644 : Bool) : S := { T := U :: U :: V.int IntKind.u64 z1632 :: un 5 (V.int IntKind.u64 z1633 :: V.int IntKind.u64 z1634 :: V.int IntKind.u64 z1635 :: V.int IntKind.u64 z1636 :: U :: V.int IntKind.u64 z1637 :: V.int IntKind.u64 z1638 :: V.int IntKind.u64 z1639 :: V.int IntKind.u64 z1640 :: un 50 (V.int IntKind.u64 z1641 :: vb b1642 :: vb b1642 :: E :: E :: E :: E :: E :: E :: E :: E :: vb true :: V.int IntKind.u64 z1641 :: V.int IntKind.u64 z1639 :: V.int IntKind.u64 z1643 :: V.int IntKind.u64 z1634 :: V.int IntKind.u64 z1640 :: V.int IntKind.u64 z1640 :: vb b1644 :: un 49 [])), σ := [] }
@[reducible] def s87_0_1 (z1645 : Int) (z1646 : Int) (z1647 : Int) (z1648 : Int) (z1649 : Int) (z1650 : Int) (z1651 : Int) (z1652 : Int) (z1653 : Int) (z1654 : Int) (b1655 : Bool) (z1656 : Int) (z1657 : Int) (z1658 : Int) (z1659 : Int) (b1660 : Bool) (b1661 : Bool) : S := { T := U :: U :: V.int IntKind.u64 z1645 :: un 5 (V.int IntKind.u64 z1646 :: V.int IntKind.u64 z1647 :: V.int IntKind.u64 z1648 :: V.int IntKind.u64 z1649 :: U :: V.int IntKind.u64 z1650 :: V.int IntKind.u64 z1651 :: V.int IntKind.u64 z1652 :: V.int IntKind.u64 z1653 :: un 50 (V.int IntKind.u64 z1654 :: vb b1655 :: vb b1655 :: V.int IntKind.u64 z1654 :: V.int IntKind.u64 z1648 :: V.int IntKind.u64 z1656 :: V.int IntKind.u64 z1657 :: V.int IntKind.u64 z1658 :: V.int IntKind.u64 z1650 :: V.int IntKind.u64 z1659 :: vb b1660 :: vb b1660 :: V.int IntKind.u64 z1654 :: V.int IntKind.u64 z1652 :: V.int IntKind.u64 z1657 :: V.int IntKind.u64 z1647 :: V.int IntKind.u64 z1653 :: V.int IntKind.u64 z1653 :: vb b1661 :: un 49 [])), σ := [] }
@[reducible] def s87_0_2 (z1662 : Int) (z1663 : Int) (z1664 : Int) (z1665 : Int) (z1666 : Int) (z1667 : Int) (z1668 : Int) (z1669 : Int) (z1670 : Int) (b1671 : Bool) (z1672 : Int) (z1673 : Int) (z1674 : Int) (b1675 : Bool) : S := { T := U :: U :: V.int IntKind.u64 z1662 :: un 5 (V.int IntKind.u64 z1663 :: V.int IntKind.u64 z1664 :: V.int IntKind.u64 z1665 :: V.int IntKind.u64 z1666 :: U :: V.int IntKind.u64 z1667 :: V.int IntKind.u64 z1668 :: V.int IntKind.u64 z1669 :: V.int IntKind.u64 z1670 :: un 50 (V.int IntKind.u64 z1669 :: vb b1671 :: vb b1671 :: V.int IntKind.u64 z1669 :: V.int IntKind.u64 z1665 :: V.int IntKind.u64 z1672 :: V.int IntKind.u64 z1670 :: V.int IntKind.u64 z1673 :: V.int IntKind.u64 z1667 :: V.int IntKind.u64 z1674 :: vb b1675 :: vb b1675 :: un 56 [])), σ := [] }
def R87_0.St : R87_0 → VX × S → Prop
  | .e0 z1632 z1633 z1634 z1635 z1636 z1637 z1638 z1639, p => ∃ z1640 : Int, ∃ z1641 : Int, ∃ b1642 : Bool, ∃ z1643 : Int, ∃ b1644 : Bool, p = (VX.exit 0, s87_0_0 z1632 z1633 z1634 z1635 z1636 z1637 z1638 z1639 z1640 z1641 b1642 z1643 b1644)
  | .e1 z1645 z1646 z1647 z1648 z1649 z1650 z1651 z1652, p => ∃ z1653 : Int, ∃ z1654 : Int, ∃ b1655 : Bool, ∃ z1656 : Int, ∃ z1657 : Int, ∃ z1658 : Int, ∃ z1659 : Int, ∃ b1660 : Bool, ∃ b1661 : Bool, p = (VX.exit 0, s87_0_1 z1645 z1646 z1647 z1648 z1649 z1650 z1651 z1652 z1653 z1654 b1655 z1656 z1657 z1658 z1659 b1660 b1661)
  | .e2 z1662 z1663 z1664 z1665 z1666 z1667 z1668 z1669, p => ∃ z1670 : Int, ∃ b1671 : Bool, ∃ z1672 : Int, ∃ z1673 : Int, ∃ z1674 : Int, ∃ b1675 : Bool, p = (VX.exit 0, s87_0_2 z1662 z1663 z1664 z1665 z1666 z1667 z1668 z1669 z1670 b1671 z1672 z1673 z1674 b1675)
def L87_0 : Nat → Int → Int → Int → Int → Int → Int → Int → Int → Int → Option R87_0
  | 0, _, _, _, _, _, _, _, _, _ => none
  | n + 1, z1347, z1348, z1349, z1350, z1351, z1352, z1353, z1354, z1355 =>
    if z1354 ≥ 4294967296 then
     if IntKind.wrap IntKind.u64 (z1355 + z1349) ≥ 4294967296 then
      some (R87_0.e0 (z1347) (z1348) (z1349) (z1350) (z1351) (z1352) (z1353) (IntKind.wrap IntKind.u64 (z1354 - 1)))
     else
      L87_0 n (z1347) (z1348) (z1349) (z1350) (z1351) (z1352) (z1353) (IntKind.wrap IntKind.u64 (z1354 - 1)) (IntKind.wrap IntKind.u64 (z1355 + z1349))
    else
     if IntKind.wrap IntKind.u64 (z1354 * z1350) > IntKind.wrap IntKind.u64 (IntKind.wrap IntKind.u64 (4294967296 * z1355) + z1352) then
      if IntKind.wrap IntKind.u64 (z1355 + z1349) ≥ 4294967296 then
       some (R87_0.e1 (z1347) (z1348) (z1349) (z1350) (z1351) (z1352) (z1353) (IntKind.wrap IntKind.u64 (z1354 - 1)))
      else
       L87_0 n (z1347) (z1348) (z1349) (z1350) (z1351) (z1352) (z1353) (IntKind.wrap IntKind.u64 (z1354 - 1)) (IntKind.wrap IntKind.u64 (z1355 + z1349))
     else
      some (R87_0.e2 (z1347) (z1348) (z1349) (z1350) (z1351) (z1352) (z1353) (z1354))
theorem L87_0_ok (m : Nat) : ∀ (n : Nat) (z1347 : Int) (z1348 : Int) (z1349 : Int) (z1350 : Int) (z1351 : Int) (z1352 : Int) (z1353 : Int) (z1354 : Int) (z1355 : Int) (r : R87_0), L87_0 n z1347 z1348 z1349 z1350 z1351 z1352 z1353 z1354 z1355 = some r → ∃ st, loopFrom Try.prog X (genO X (call Try.prog X O0 18446744073709551616 (m + 2))) 87 (0) 18446744073709551616 B87 0 n ({ T := U :: U :: V.int IntKind.u64 z1347 :: un 5 (V.int IntKind.u64 z1348 :: V.int IntKind.u64 z1349 :: V.int IntKind.u64 z1350 :: V.int IntKind.u64 z1351 :: U :: V.int IntKind.u64 z1352 :: V.int IntKind.u64 z1353 :: V.int IntKind.u64 z1354 :: V.int IntKind.u64 z1355 :: un 118 []), σ := [] }) = some st ∧ r.St st
  | 0, _, _, _, _, _, _, _, _, _, r, h => by cases h
  | n + 1, z1347, z1348, z1349, z1350, z1351, z1352, z1353, z1354, z1355, r, h => by
    rw [L87_0] at h
    rcases ite_eq h with ⟨h0, h⟩ | ⟨h0, h⟩
    · skip
      rcases ite_eq h with ⟨h1, h⟩ | ⟨h1, h⟩
      · skip
        cases h
        exact ⟨_, round_out (gs := [.t, .t, .t, .t, .t, .t, .t, .t, .t, .a, .t]) (notIn []) (by kernel_rfl) rfl (And.intro (decide_eq_true h0) (And.intro (decide_eq_true h0) (And.intro (decide_eq_true h0) (And.intro (decide_eq_true h0) (And.intro (decide_eq_true h0) (And.intro (decide_eq_true h0) (And.intro (decide_eq_true h0) (And.intro (decide_eq_true h0) (And.intro (decide_eq_true h0) (And.intro (decide_eq_true h1) True.intro)))))))))) n, IntKind.wrap IntKind.u64 (z1355 + z1349), z1354, decide (z1354 ≥ 4294967296), z1355, decide (IntKind.wrap IntKind.u64 (z1355 + z1349) ≥ 4294967296), rfl⟩
      · skip
        obtain ⟨st, hs, hr⟩ := L87_0_ok m n (z1347) (z1348) (z1349) (z1350) (z1351) (z1352) (z1353) (IntKind.wrap IntKind.u64 (z1354 - 1)) (IntKind.wrap IntKind.u64 (z1355 + z1349)) r h
        exact ⟨st, (round_on (gs := [.t, .t, .t, .t, .t, .t, .t, .t, .t, .a, .f]) (notIn []) (by kernel_rfl) (And.intro (decide_eq_true h0) (And.intro (decide_eq_true h0) (And.intro (decide_eq_true h0) (And.intro (decide_eq_true h0) (And.intro (decide_eq_true h0) (And.intro (decide_eq_true h0) (And.intro (decide_eq_true h0) (And.intro (decide_eq_true h0) (And.intro (decide_eq_true h0) (And.intro (decide_eq_false h1) True.intro)))))))))) n).trans hs, hr⟩
    · skip
      rcases ite_eq h with ⟨h1, h⟩ | ⟨h1, h⟩
      · skip
        rcases ite_eq h with ⟨h2, h⟩ | ⟨h2, h⟩
        · skip
          cases h
          exact ⟨_, round_out (gs := [.f, .f, .f, .f, .f, .f, .f, .f, .f, .t, .t]) (notIn []) (by kernel_rfl) rfl (And.intro (decide_eq_false h0) (And.intro (decide_eq_false h0) (And.intro (decide_eq_false h0) (And.intro (decide_eq_false h0) (And.intro (decide_eq_false h0) (And.intro (decide_eq_false h0) (And.intro (decide_eq_false h0) (And.intro (decide_eq_false h0) (And.intro (decide_eq_false h0) (And.intro (decide_eq_true h1) (And.intro (decide_eq_true h2) True.intro))))))))))) n, IntKind.wrap IntKind.u64 (z1355 + z1349), z1354, decide (z1354 ≥ 4294967296), IntKind.wrap IntKind.u64 (z1354 * z1350), z1355, IntKind.wrap IntKind.u64 (4294967296 * z1355), IntKind.wrap IntKind.u64 (IntKind.wrap IntKind.u64 (4294967296 * z1355) + z1352), decide (IntKind.wrap IntKind.u64 (z1354 * z1350) > IntKind.wrap IntKind.u64 (IntKind.wrap IntKind.u64 (4294967296 * z1355) + z1352)), decide (IntKind.wrap IntKind.u64 (z1355 + z1349) ≥ 4294967296), rfl⟩
        · skip
          obtain ⟨st, hs, hr⟩ := L87_0_ok m n (z1347) (z1348) (z1349) (z1350) (z1351) (z1352) (z1353) (IntKind.wrap IntKind.u64 (z1354 - 1)) (IntKind.wrap IntKind.u64 (z1355 + z1349)) r h
          exact ⟨st, (round_on (gs := [.f, .f, .f, .f, .f, .f, .f, .f, .f, .t, .f]) (notIn []) (by kernel_rfl) (And.intro (decide_eq_false h0) (And.intro (decide_eq_false h0) (And.intro (decide_eq_false h0) (And.intro (decide_eq_false h0) (And.intro (decide_eq_false h0) (And.intro (decide_eq_false h0) (And.intro (decide_eq_false h0) (And.intro (decide_eq_false h0) (And.intro (decide_eq_false h0) (And.intro (decide_eq_true h1) (And.intro (decide_eq_false h2) True.intro))))))))))) n).trans hs, hr⟩
      · skip
        cases h
        exact ⟨_, round_out (gs := [.f, .f, .f, .f, .f, .f, .f, .f, .f, .f]) (notIn []) (by kernel_rfl) rfl (And.intro (decide_eq_false h0) (And.intro (decide_eq_false h0) (And.intro (decide_eq_false h0) (And.intro (decide_eq_false h0) (And.intro (decide_eq_false h0) (And.intro (decide_eq_false h0) (And.intro (decide_eq_false h0) (And.intro (decide_eq_false h0) (And.intro (decide_eq_false h0) (And.intro (decide_eq_false h1) True.intro)))))))))) n, z1355, decide (z1354 ≥ 4294967296), IntKind.wrap IntKind.u64 (z1354 * z1350), IntKind.wrap IntKind.u64 (4294967296 * z1355), IntKind.wrap IntKind.u64 (IntKind.wrap IntKind.u64 (4294967296 * z1355) + z1352), decide (IntKind.wrap IntKind.u64 (z1354 * z1350) > IntKind.wrap IntKind.u64 (IntKind.wrap IntKind.u64 (4294967296 * z1355) + z1352)), rfl⟩
inductive A87 where
  | a0 (z1629 : Int) (z1630 : Int)
@[reducible] def A87.out : A87 → V × Store
  | .a0 z1629 z1630 => (V.tup [V.int IntKind.u64 z1629, V.int IntKind.u64 z1630], [])
def F87 (z1332 : Int) (z1333 : Int) (z1334 : Int) : Option A87 :=
  if (z1334 == 0) = true then
   none -- none
  else
   if z1334 ≤ z1332 then
    none -- none
   else
    if (z1332 == 0) = true then
     if z1334 = 0 then
      none -- none
     else
      some (A87.a0 (IntKind.wrap IntKind.u64 (Int.tdiv z1333 z1334)) (Int.tmod z1333 z1334))
    else
     (F88 (z1334)).bind fun r => match r with
     | .a0 z1631 =>
      if IntKind.wrap IntKind.u64 z1631 < 0 then
       none -- none
      else
       if IntKind.wrap IntKind.u64 (64 - IntKind.wrap IntKind.u64 z1631) < 0 then
        none -- none
       else
        if Int.fdiv (IntKind.wrap IntKind.u64 (z1334 * 2 ^ min (Int.toNat (IntKind.wrap IntKind.u64 z1631)) 64)) 4294967296 = 0 then
         none -- none
        else
         (L87_0 18446744073709551616 (IntKind.wrap IntKind.u64 (z1334 * 2 ^ min (Int.toNat (IntKind.wrap IntKind.u64 z1631)) 64)) (IntKind.wrap IntKind.u64 z1631) (Int.fdiv (IntKind.wrap IntKind.u64 (z1334 * 2 ^ min (Int.toNat (IntKind.wrap IntKind.u64 z1631)) 64)) 4294967296) (IntKind.wrap IntKind.u64 (↑(BitVec.toNat (BitVec.ofInt (IntKind.bits IntKind.u64) (IntKind.wrap IntKind.u64 (z1334 * 2 ^ min (Int.toNat (IntKind.wrap IntKind.u64 z1631)) 64)) &&& BitVec.ofInt (IntKind.bits IntKind.u64) 4294967295)) : Int)) (IntKind.wrap IntKind.u64 (↑(BitVec.toNat (BitVec.ofInt (IntKind.bits IntKind.u64) (IntKind.wrap IntKind.u64 (z1332 * 2 ^ min (Int.toNat (IntKind.wrap IntKind.u64 z1631)) (IntKind.bits IntKind.u64))) ||| BitVec.ofInt (IntKind.bits IntKind.u64) (Int.fdiv z1333 (2 ^ min (Int.toNat (IntKind.wrap IntKind.u64 (64 - IntKind.wrap IntKind.u64 z1631))) (IntKind.bits IntKind.u64))))) : Int)) (Int.fdiv (IntKind.wrap IntKind.u64 (z1333 * 2 ^ min (Int.toNat (IntKind.wrap IntKind.u64 z1631)) 64)) 4294967296) (IntKind.wrap IntKind.u64 (↑(BitVec.toNat (BitVec.ofInt (IntKind.bits IntKind.u64) (IntKind.wrap IntKind.u64 (z1333 * 2 ^ min (Int.toNat (IntKind.wrap IntKind.u64 z1631)) 64)) &&& BitVec.ofInt (IntKind.bits IntKind.u64) 4294967295)) : Int)) (IntKind.wrap IntKind.u64 (Int.tdiv (IntKind.wrap IntKind.u64 (↑(BitVec.toNat (BitVec.ofInt (IntKind.bits IntKind.u64) (IntKind.wrap IntKind.u64 (z1332 * 2 ^ min (Int.toNat (IntKind.wrap IntKind.u64 z1631)) (IntKind.bits IntKind.u64))) ||| BitVec.ofInt (IntKind.bits IntKind.u64) (Int.fdiv z1333 (2 ^ min (Int.toNat (IntKind.wrap IntKind.u64 (64 - IntKind.wrap IntKind.u64 z1631))) (IntKind.bits IntKind.u64))))) : Int)) (Int.fdiv (IntKind.wrap IntKind.u64 (z1334 * 2 ^ min (Int.toNat (IntKind.wrap IntKind.u64 z1631)) 64)) 4294967296))) (IntKind.wrap IntKind.u64 (IntKind.wrap IntKind.u64 (↑(BitVec.toNat (BitVec.ofInt (IntKind.bits IntKind.u64) (IntKind.wrap IntKind.u64 (z1332 * 2 ^ min (Int.toNat (IntKind.wrap IntKind.u64 z1631)) (IntKind.bits IntKind.u64))) ||| BitVec.ofInt (IntKind.bits IntKind.u64) (Int.fdiv z1333 (2 ^ min (Int.toNat (IntKind.wrap IntKind.u64 (64 - IntKind.wrap IntKind.u64 z1631))) (IntKind.bits IntKind.u64))))) : Int) - IntKind.wrap IntKind.u64 (IntKind.wrap IntKind.u64 (Int.tdiv (IntKind.wrap IntKind.u64 (↑(BitVec.toNat (BitVec.ofInt (IntKind.bits IntKind.u64) (IntKind.wrap IntKind.u64 (z1332 * 2 ^ min (Int.toNat (IntKind.wrap IntKind.u64 z1631)) (IntKind.bits IntKind.u64))) ||| BitVec.ofInt (IntKind.bits IntKind.u64) (Int.fdiv z1333 (2 ^ min (Int.toNat (IntKind.wrap IntKind.u64 (64 - IntKind.wrap IntKind.u64 z1631))) (IntKind.bits IntKind.u64))))) : Int)) (Int.fdiv (IntKind.wrap IntKind.u64 (z1334 * 2 ^ min (Int.toNat (IntKind.wrap IntKind.u64 z1631)) 64)) 4294967296)) * Int.fdiv (IntKind.wrap IntKind.u64 (z1334 * 2 ^ min (Int.toNat (IntKind.wrap IntKind.u64 z1631)) 64)) 4294967296)))).bind fun r => match r with
         | .e0 z1676 z1677 z1678 z1679 z1680 z1681 z1682 z1683 =>
          if z1678 = 0 then
           none -- none
          else
           (L87_2 18446744073709551616 (z1676) (z1677) (z1678) (z1679) (z1682) (z1683) (IntKind.wrap IntKind.u64 (IntKind.wrap IntKind.u64 (IntKind.wrap IntKind.u64 (IntKind.wrap IntKind.u64 (z1680 * 4294967296) + z1681) - IntKind.wrap IntKind.u64 (z1683 * z1676)) - IntKind.wrap IntKind.u64 (IntKind.wrap IntKind.u64 (Int.tdiv (IntKind.wrap IntKind.u64 (IntKind.wrap IntKind.u64 (IntKind.wrap IntKind.u64 (z1680 * 4294967296) + z1681) - IntKind.wrap IntKind.u64 (z1683 * z1676))) z1678) * z1678))) (IntKind.wrap IntKind.u64 (IntKind.wrap IntKind.u64 (IntKind.wrap IntKind.u64 (z1680 * 4294967296) + z1681) - IntKind.wrap IntKind.u64 (z1683 * z1676))) (IntKind.wrap IntKind.u64 (Int.tdiv (IntKind.wrap IntKind.u64 (IntKind.wrap IntKind.u64 (IntKind.wrap IntKind.u64 (z1680 * 4294967296) + z1681) - IntKind.wrap IntKind.u64 (z1683 * z1676))) z1678))).bind fun r => match r with
           | .e0 z1733 z1734 z1737 z1738 z1740 z1741 =>
            if z1734 < 0 then
             none -- none
            else
             some (A87.a0 (IntKind.wrap IntKind.u64 (IntKind.wrap IntKind.u64 (z1738 * 4294967296) + z1741)) (Int.fdiv (IntKind.wrap IntKind.u64 (IntKind.wrap IntKind.u64 (IntKind.wrap IntKind.u64 (z1740 * 4294967296) + z1737) - IntKind.wrap IntKind.u64 (z1741 * z1733))) (2 ^ min (Int.toNat z1734) 64)))
           | .e1 z1746 z1747 z1750 z1751 z1753 z1754 =>
            if z1747 < 0 then
             none -- none
            else
             some (A87.a0 (IntKind.wrap IntKind.u64 (IntKind.wrap IntKind.u64 (z1751 * 4294967296) + z1754)) (Int.fdiv (IntKind.wrap IntKind.u64 (IntKind.wrap IntKind.u64 (IntKind.wrap IntKind.u64 (z1753 * 4294967296) + z1750) - IntKind.wrap IntKind.u64 (z1754 * z1746))) (2 ^ min (Int.toNat z1747) 64)))
           | .e2 z1763 z1764 z1767 z1768 z1770 z1771 =>
            if z1764 < 0 then
             none -- none
            else
             some (A87.a0 (IntKind.wrap IntKind.u64 (IntKind.wrap IntKind.u64 (z1768 * 4294967296) + z1771)) (Int.fdiv (IntKind.wrap IntKind.u64 (IntKind.wrap IntKind.u64 (IntKind.wrap IntKind.u64 (z1770 * 4294967296) + z1767) - IntKind.wrap IntKind.u64 (z1771 * z1763))) (2 ^ min (Int.toNat z1764) 64)))
         | .e1 z1777 z1778 z1779 z1780 z1781 z1782 z1783 z1784 =>
          if z1779 = 0 then
           none -- none
          else
           (L87_2 18446744073709551616 (z1777) (z1778) (z1779) (z1780) (z1783) (z1784) (IntKind.wrap IntKind.u64 (IntKind.wrap IntKind.u64 (IntKind.wrap IntKind.u64 (IntKind.wrap IntKind.u64 (z1781 * 4294967296) + z1782) - IntKind.wrap IntKind.u64 (z1784 * z1777)) - IntKind.wrap IntKind.u64 (IntKind.wrap IntKind.u64 (Int.tdiv (IntKind.wrap IntKind.u64 (IntKind.wrap IntKind.u64 (IntKind.wrap IntKind.u64 (z1781 * 4294967296) + z1782) - IntKind.wrap IntKind.u64 (z1784 * z1777))) z1779) * z1779))) (IntKind.wrap IntKind.u64 (IntKind.wrap IntKind.u64 (IntKind.wrap IntKind.u64 (z1781 * 4294967296) + z1782) - IntKind.wrap IntKind.u64 (z1784 * z1777))) (IntKind.wrap IntKind.u64 (Int.tdiv (IntKind.wrap IntKind.u64 (IntKind.wrap IntKind.u64 (IntKind.wrap IntKind.u64 (z1781 * 4294967296) + z1782) - IntKind.wrap IntKind.u64 (z1784 * z1777))) z1779))).bind fun r => match r with
           | .e0 z1794 z1795 z1798 z1799 z1801 z1802 =>
            if z1795 < 0 then
             none -- none
            else
             some (A87.a0 (IntKind.wrap IntKind.u64 (IntKind.wrap IntKind.u64 (z1799 * 4294967296) + z1802)) (Int.fdiv (IntKind.wrap IntKind.u64 (IntKind.wrap IntKind.u64 (IntKind.wrap IntKind.u64 (z1801 * 4294967296) + z1798) - IntKind.wrap IntKind.u64 (z1802 * z1794))) (2 ^ min (Int.toNat z1795) 64)))
           | .e1 z1807 z1808 z1811 z1812 z1814 z1815 =>
            if z1808 < 0 then
             none -- none
            else
             some (A87.a0 (IntKind.wrap IntKind.u64 (IntKind.wrap IntKind.u64 (z1812 * 4294967296) + z1815)) (Int.fdiv (IntKind.wrap IntKind.u64 (IntKind.wrap IntKind.u64 (IntKind.wrap IntKind.u64 (z1814 * 4294967296) + z1811) - IntKind.wrap IntKind.u64 (z1815 * z1807))) (2 ^ min (Int.toNat z1808) 64)))
           | .e2 z1824 z1825 z1828 z1829 z1831 z1832 =>
            if z1825 < 0 then
             none -- none
            else
             some (A87.a0 (IntKind.wrap IntKind.u64 (IntKind.wrap IntKind.u64 (z1829 * 4294967296) + z1832)) (Int.fdiv (IntKind.wrap IntKind.u64 (IntKind.wrap IntKind.u64 (IntKind.wrap IntKind.u64 (z1831 * 4294967296) + z1828) - IntKind.wrap IntKind.u64 (z1832 * z1824))) (2 ^ min (Int.toNat z1825) 64)))
         | .e2 z1838 z1839 z1840 z1841 z1842 z1843 z1844 z1845 =>
          if z1840 = 0 then
           none -- none
          else
           (L87_2 18446744073709551616 (z1838) (z1839) (z1840) (z1841) (z1844) (z1845) (IntKind.wrap IntKind.u64 (IntKind.wrap IntKind.u64 (IntKind.wrap IntKind.u64 (IntKind.wrap IntKind.u64 (z1842 * 4294967296) + z1843) - IntKind.wrap IntKind.u64 (z1845 * z1838)) - IntKind.wrap IntKind.u64 (IntKind.wrap IntKind.u64 (Int.tdiv (IntKind.wrap IntKind.u64 (IntKind.wrap IntKind.u64 (IntKind.wrap IntKind.u64 (z1842 * 4294967296) + z1843) - IntKind.wrap IntKind.u64 (z1845 * z1838))) z1840) * z1840))) (IntKind.wrap IntKind.u64 (IntKind.wrap IntKind.u64 (IntKind.wrap IntKind.u64 (z1842 * 4294967296) + z1843) - IntKind.wrap IntKind.u64 (z1845 * z1838))) (IntKind.wrap IntKind.u64 (Int.tdiv (IntKind.wrap IntKind.u64 (IntKind.wrap IntKind.u64 (IntKind.wrap IntKind.u64 (z1842 * 4294967296) + z1843) - IntKind.wrap IntKind.u64 (z1845 * z1838))) z1840))).bind fun r => match r with
           | .e0 z1852 z1853 z1856 z1857 z1859 z1860 =>
            if z1853 < 0 then
             none -- none
            else
             some (A87.a0 (IntKind.wrap IntKind.u64 (IntKind.wrap IntKind.u64 (z1857 * 4294967296) + z1860)) (Int.fdiv (IntKind.wrap IntKind.u64 (IntKind.wrap IntKind.u64 (IntKind.wrap IntKind.u64 (z1859 * 4294967296) + z1856) - IntKind.wrap IntKind.u64 (z1860 * z1852))) (2 ^ min (Int.toNat z1853) 64)))
           | .e1 z1865 z1866 z1869 z1870 z1872 z1873 =>
            if z1866 < 0 then
             none -- none
            else
             some (A87.a0 (IntKind.wrap IntKind.u64 (IntKind.wrap IntKind.u64 (z1870 * 4294967296) + z1873)) (Int.fdiv (IntKind.wrap IntKind.u64 (IntKind.wrap IntKind.u64 (IntKind.wrap IntKind.u64 (z1872 * 4294967296) + z1869) - IntKind.wrap IntKind.u64 (z1873 * z1865))) (2 ^ min (Int.toNat z1866) 64)))
           | .e2 z1882 z1883 z1886 z1887 z1889 z1890 =>
            if z1883 < 0 then
             none -- none
            else
             some (A87.a0 (IntKind.wrap IntKind.u64 (IntKind.wrap IntKind.u64 (z1887 * 4294967296) + z1890)) (Int.fdiv (IntKind.wrap IntKind.u64 (IntKind.wrap IntKind.u64 (IntKind.wrap IntKind.u64 (z1889 * 4294967296) + z1886) - IntKind.wrap IntKind.u64 (z1890 * z1882))) (2 ^ min (Int.toNat z1883) 64)))
theorem F87_ok (m : Nat) (z1332 : Int) (z1333 : Int) (z1334 : Int) (r : A87) (h : F87 z1332 z1333 z1334 = some r) : call Try.prog X O0 18446744073709551616 (m + 3) 87 ([V.int IntKind.u64 z1332, V.int IntKind.u64 z1333, V.int IntKind.u64 z1334]) ([]) = some r.out := by
  unfold F87 at h
  rcases ite_eq h with ⟨h0, h⟩ | ⟨h0, h⟩
  · skip
    cases h
  · skip
    rcases ite_eq h with ⟨h1, h⟩ | ⟨h1, h⟩
    · skip
      cases h
    · skip
      rcases ite_eq h with ⟨h2, h⟩ | ⟨h2, h⟩
      · skip
        rcases ite_eq h with ⟨h3, h⟩ | ⟨h3, h⟩
        · skip
          cases h
        · skip
          cases h
          exact call_pathL (gs := [.f, .f, .t, .f, .f, .ft [⟨0, [], []⟩, ⟨1, [], []⟩, ⟨2, [], []⟩, ⟨3, [], []⟩, ⟨4, [], []⟩, ⟨5, [], []⟩, ⟨6, [], []⟩, ⟨7, [], []⟩]]) (notIn []) rfl rfl (by kernel_rfl) (And.intro (Bool.eq_false_iff.mpr h0) (And.intro (decide_eq_false h1) (And.intro h2 (And.intro (decide_eq_false h3) (And.intro (decide_eq_false h3) (And.intro (Eq.refl ([⟨0, [], []⟩, ⟨1, [], []⟩, ⟨2, [], []⟩, ⟨3, [], []⟩, ⟨4, [], []⟩, ⟨5, [], []⟩, ⟨6, [], []⟩, ⟨7, [], []⟩] : List Foot)) True.intro))))))
      · skip
        obtain ⟨r3, h3, h⟩ := Option.bind_eq_some_iff.mp h
        have h3 := F88_ok (m + 0) (z1334) r3 h3
        cases r3 with
        | a0 z1631 =>
          rcases ite_eq h with ⟨h4, h⟩ | ⟨h4, h⟩
          · skip
            cases h
          · skip
            rcases ite_eq h with ⟨h5, h⟩ | ⟨h5, h⟩
            · skip
              cases h
            · skip
              rcases ite_eq h with ⟨h6, h⟩ | ⟨h6, h⟩
              · skip
                cases h
              · skip
                obtain ⟨r7, h7, h⟩ := Option.bind_eq_some_iff.mp h
                obtain ⟨st7, h7, hr7⟩ := L87_0_ok m 18446744073709551616 (IntKind.wrap IntKind.u64 (z1334 * 2 ^ min (Int.toNat (IntKind.wrap IntKind.u64 z1631)) 64)) (IntKind.wrap IntKind.u64 z1631) (Int.fdiv (IntKind.wrap IntKind.u64 (z1334 * 2 ^ min (Int.toNat (IntKind.wrap IntKind.u64 z1631)) 64)) 4294967296) (IntKind.wrap IntKind.u64 (↑(BitVec.toNat (BitVec.ofInt (IntKind.bits IntKind.u64) (IntKind.wrap IntKind.u64 (z1334 * 2 ^ min (Int.toNat (IntKind.wrap IntKind.u64 z1631)) 64)) &&& BitVec.ofInt (IntKind.bits IntKind.u64) 4294967295)) : Int)) (IntKind.wrap IntKind.u64 (↑(BitVec.toNat (BitVec.ofInt (IntKind.bits IntKind.u64) (IntKind.wrap IntKind.u64 (z1332 * 2 ^ min (Int.toNat (IntKind.wrap IntKind.u64 z1631)) (IntKind.bits IntKind.u64))) ||| BitVec.ofInt (IntKind.bits IntKind.u64) (Int.fdiv z1333 (2 ^ min (Int.toNat (IntKind.wrap IntKind.u64 (64 - IntKind.wrap IntKind.u64 z1631))) (IntKind.bits IntKind.u64))))) : Int)) (Int.fdiv (IntKind.wrap IntKind.u64 (z1333 * 2 ^ min (Int.toNat (IntKind.wrap IntKind.u64 z1631)) 64)) 4294967296) (IntKind.wrap IntKind.u64 (↑(BitVec.toNat (BitVec.ofInt (IntKind.bits IntKind.u64) (IntKind.wrap IntKind.u64 (z1333 * 2 ^ min (Int.toNat (IntKind.wrap IntKind.u64 z1631)) 64)) &&& BitVec.ofInt (IntKind.bits IntKind.u64) 4294967295)) : Int)) (IntKind.wrap IntKind.u64 (Int.tdiv (IntKind.wrap IntKind.u64 (↑(BitVec.toNat (BitVec.ofInt (IntKind.bits IntKind.u64) (IntKind.wrap IntKind.u64 (z1332 * 2 ^ min (Int.toNat (IntKind.wrap IntKind.u64 z1631)) (IntKind.bits IntKind.u64))) ||| BitVec.ofInt (IntKind.bits IntKind.u64) (Int.fdiv z1333 (2 ^ min (Int.toNat (IntKind.wrap IntKind.u64 (64 - IntKind.wrap IntKind.u64 z1631))) (IntKind.bits IntKind.u64))))) : Int)) (Int.fdiv (IntKind.wrap IntKind.u64 (z1334 * 2 ^ min (Int.toNat (IntKind.wrap IntKind.u64 z1631)) 64)) 4294967296))) (IntKind.wrap IntKind.u64 (IntKind.wrap IntKind.u64 (↑(BitVec.toNat (BitVec.ofInt (IntKind.bits IntKind.u64) (IntKind.wrap IntKind.u64 (z1332 * 2 ^ min (Int.toNat (IntKind.wrap IntKind.u64 z1631)) (IntKind.bits IntKind.u64))) ||| BitVec.ofInt (IntKind.bits IntKind.u64) (Int.fdiv z1333 (2 ^ min (Int.toNat (IntKind.wrap IntKind.u64 (64 - IntKind.wrap IntKind.u64 z1631))) (IntKind.bits IntKind.u64))))) : Int) - IntKind.wrap IntKind.u64 (IntKind.wrap IntKind.u64 (Int.tdiv (IntKind.wrap IntKind.u64 (↑(BitVec.toNat (BitVec.ofInt (IntKind.bits IntKind.u64) (IntKind.wrap IntKind.u64 (z1332 * 2 ^ min (Int.toNat (IntKind.wrap IntKind.u64 z1631)) (IntKind.bits IntKind.u64))) ||| BitVec.ofInt (IntKind.bits IntKind.u64) (Int.fdiv z1333 (2 ^ min (Int.toNat (IntKind.wrap IntKind.u64 (64 - IntKind.wrap IntKind.u64 z1631))) (IntKind.bits IntKind.u64))))) : Int)) (Int.fdiv (IntKind.wrap IntKind.u64 (z1334 * 2 ^ min (Int.toNat (IntKind.wrap IntKind.u64 z1631)) 64)) 4294967296)) * Int.fdiv (IntKind.wrap IntKind.u64 (z1334 * 2 ^ min (Int.toNat (IntKind.wrap IntKind.u64 z1631)) 64)) 4294967296))) r7 h7
                have h7 : loopRun Try.prog X (genO X (call Try.prog X O0 18446744073709551616 (m + 2))) 87 (0) 18446744073709551616 B87 0 ({ T := V.int IntKind.u64 z1332 :: V.int IntKind.u64 z1333 :: V.int IntKind.u64 (IntKind.wrap IntKind.u64 (z1334 * 2 ^ min (Int.toNat (IntKind.wrap IntKind.u64 z1631)) 64)) :: U :: U :: U :: V.int IntKind.u64 0 :: V.int IntKind.u64 0 :: V.int IntKind.u64 (IntKind.wrap IntKind.u64 z1631) :: V.int IntKind.u64 (Int.fdiv (IntKind.wrap IntKind.u64 (z1334 * 2 ^ min (Int.toNat (IntKind.wrap IntKind.u64 z1631)) 64)) 4294967296) :: V.int IntKind.u64 (IntKind.wrap IntKind.u64 (↑(BitVec.toNat (BitVec.ofInt (IntKind.bits IntKind.u64) (IntKind.wrap IntKind.u64 (z1334 * 2 ^ min (Int.toNat (IntKind.wrap IntKind.u64 z1631)) 64)) &&& BitVec.ofInt (IntKind.bits IntKind.u64) 4294967295)) : Int)) :: V.int IntKind.u64 (IntKind.wrap IntKind.u64 (↑(BitVec.toNat (BitVec.ofInt (IntKind.bits IntKind.u64) (IntKind.wrap IntKind.u64 (z1332 * 2 ^ min (Int.toNat (IntKind.wrap IntKind.u64 z1631)) (IntKind.bits IntKind.u64))) ||| BitVec.ofInt (IntKind.bits IntKind.u64) (Int.fdiv z1333 (2 ^ min (Int.toNat (IntKind.wrap IntKind.u64 (64 - IntKind.wrap IntKind.u64 z1631))) (IntKind.bits IntKind.u64))))) : Int)) :: V.int IntKind.u64 (IntKind.wrap IntKind.u64 (z1333 * 2 ^ min (Int.toNat (IntKind.wrap IntKind.u64 z1631)) 64)) :: V.int IntKind.u64 (Int.fdiv (IntKind.wrap IntKind.u64 (z1333 * 2 ^ min (Int.toNat (IntKind.wrap IntKind.u64 z1631)) 64)) 4294967296) :: V.int IntKind.u64 (IntKind.wrap IntKind.u64 (↑(BitVec.toNat (BitVec.ofInt (IntKind.bits IntKind.u64) (IntKind.wrap IntKind.u64 (z1333 * 2 ^ min (Int.toNat (IntKind.wrap IntKind.u64 z1631)) 64)) &&& BitVec.ofInt (IntKind.bits IntKind.u64) 4294967295)) : Int)) :: V.int IntKind.u64 (IntKind.wrap IntKind.u64 (Int.tdiv (IntKind.wrap IntKind.u64 (↑(BitVec.toNat (BitVec.ofInt (IntKind.bits IntKind.u64) (IntKind.wrap IntKind.u64 (z1332 * 2 ^ min (Int.toNat (IntKind.wrap IntKind.u64 z1631)) (IntKind.bits IntKind.u64))) ||| BitVec.ofInt (IntKind.bits IntKind.u64) (Int.fdiv z1333 (2 ^ min (Int.toNat (IntKind.wrap IntKind.u64 (64 - IntKind.wrap IntKind.u64 z1631))) (IntKind.bits IntKind.u64))))) : Int)) (Int.fdiv (IntKind.wrap IntKind.u64 (z1334 * 2 ^ min (Int.toNat (IntKind.wrap IntKind.u64 z1631)) 64)) 4294967296))) :: V.int IntKind.u64 (IntKind.wrap IntKind.u64 (IntKind.wrap IntKind.u64 (↑(BitVec.toNat (BitVec.ofInt (IntKind.bits IntKind.u64) (IntKind.wrap IntKind.u64 (z1332 * 2 ^ min (Int.toNat (IntKind.wrap IntKind.u64 z1631)) (IntKind.bits IntKind.u64))) ||| BitVec.ofInt (IntKind.bits IntKind.u64) (Int.fdiv z1333 (2 ^ min (Int.toNat (IntKind.wrap IntKind.u64 (64 - IntKind.wrap IntKind.u64 z1631))) (IntKind.bits IntKind.u64))))) : Int) - IntKind.wrap IntKind.u64 (IntKind.wrap IntKind.u64 (Int.tdiv (IntKind.wrap IntKind.u64 (↑(BitVec.toNat (BitVec.ofInt (IntKind.bits IntKind.u64) (IntKind.wrap IntKind.u64 (z1332 * 2 ^ min (Int.toNat (IntKind.wrap IntKind.u64 z1631)) (IntKind.bits IntKind.u64))) ||| BitVec.ofInt (IntKind.bits IntKind.u64) (Int.fdiv z1333 (2 ^ min (Int.toNat (IntKind.wrap IntKind.u64 (64 - IntKind.wrap IntKind.u64 z1631))) (IntKind.bits IntKind.u64))))) : Int)) (Int.fdiv (IntKind.wrap IntKind.u64 (z1334 * 2 ^ min (Int.toNat (IntKind.wrap IntKind.u64 z1631)) 64)) 4294967296)) * Int.fdiv (IntKind.wrap IntKind.u64 (z1334 * 2 ^ min (Int.toNat (IntKind.wrap IntKind.u64 z1631)) 64)) 4294967296))) :: U :: U :: V.int IntKind.u64 z1334 :: vb (z1334 == 0) :: U :: V.int IntKind.u64 z1334 :: V.int IntKind.u64 z1332 :: vb (decide (z1334 ≤ z1332)) :: U :: V.int IntKind.u64 z1332 :: vb (z1332 == 0) :: un 6 (V.int IntKind.u64 z1334 :: i64 z1631 :: V.int IntKind.u64 (IntKind.wrap IntKind.u64 z1631) :: V.int IntKind.u64 z1334 :: V.int IntKind.u64 (IntKind.wrap IntKind.u64 z1631) :: V.int IntKind.u64 (IntKind.wrap IntKind.u64 (z1334 * 2 ^ min (Int.toNat (IntKind.wrap IntKind.u64 z1631)) 64)) :: V.int IntKind.u64 (IntKind.wrap IntKind.u64 (z1334 * 2 ^ min (Int.toNat (IntKind.wrap IntKind.u64 z1631)) 64)) :: V.int IntKind.u64 (Int.fdiv (IntKind.wrap IntKind.u64 (z1334 * 2 ^ min (Int.toNat (IntKind.wrap IntKind.u64 z1631)) 64)) 4294967296) :: V.int IntKind.u64 (IntKind.wrap IntKind.u64 (z1334 * 2 ^ min (Int.toNat (IntKind.wrap IntKind.u64 z1631)) 64)) :: V.int IntKind.u64 (IntKind.wrap IntKind.u64 (↑(BitVec.toNat (BitVec.ofInt (IntKind.bits IntKind.u64) (IntKind.wrap IntKind.u64 (z1334 * 2 ^ min (Int.toNat (IntKind.wrap IntKind.u64 z1631)) 64)) &&& BitVec.ofInt (IntKind.bits IntKind.u64) 4294967295)) : Int)) :: V.int IntKind.u64 z1332 :: V.int IntKind.u64 (IntKind.wrap IntKind.u64 z1631) :: V.int IntKind.u64 (IntKind.wrap IntKind.u64 (z1332 * 2 ^ min (Int.toNat (IntKind.wrap IntKind.u64 z1631)) 64)) :: V.int IntKind.u64 z1333 :: V.int IntKind.u64 (IntKind.wrap IntKind.u64 z1631) :: V.int IntKind.u64 (IntKind.wrap IntKind.u64 (64 - IntKind.wrap IntKind.u64 z1631)) :: V.int IntKind.u64 (Int.fdiv z1333 (2 ^ min (Int.toNat (IntKind.wrap IntKind.u64 (64 - IntKind.wrap IntKind.u64 z1631))) 64)) :: V.int IntKind.u64 (IntKind.wrap IntKind.u64 (↑(BitVec.toNat (BitVec.ofInt (IntKind.bits IntKind.u64) (IntKind.wrap IntKind.u64 (z1332 * 2 ^ min (Int.toNat (IntKind.wrap IntKind.u64 z1631)) (IntKind.bits IntKind.u64))) ||| BitVec.ofInt (IntKind.bits IntKind.u64) (Int.fdiv z1333 (2 ^ min (Int.toNat (IntKind.wrap IntKind.u64 (64 - IntKind.wrap IntKind.u64 z1631))) (IntKind.bits IntKind.u64))))) : Int)) :: V.int IntKind.u64 z1333 :: V.int IntKind.u64 (IntKind.wrap IntKind.u64 z1631) :: V.int IntKind.u64 (IntKind.wrap IntKind.u64 (z1333 * 2 ^ min (Int.toNat (IntKind.wrap IntKind.u64 z1631)) 64)) :: V.int IntKind.u64 (IntKind.wrap IntKind.u64 (z1333 * 2 ^ min (Int.toNat (IntKind.wrap IntKind.u64 z1631)) 64)) :: V.int IntKind.u64 (Int.fdiv (IntKind.wrap IntKind.u64 (z1333 * 2 ^ min (Int.toNat (IntKind.wrap IntKind.u64 z1631)) 64)) 4294967296) :: V.int IntKind.u64 (IntKind.wrap IntKind.u64 (z1333 * 2 ^ min (Int.toNat (IntKind.wrap IntKind.u64 z1631)) 64)) :: V.int IntKind.u64 (IntKind.wrap IntKind.u64 (↑(BitVec.toNat (BitVec.ofInt (IntKind.bits IntKind.u64) (IntKind.wrap IntKind.u64 (z1333 * 2 ^ min (Int.toNat (IntKind.wrap IntKind.u64 z1631)) 64)) &&& BitVec.ofInt (IntKind.bits IntKind.u64) 4294967295)) : Int)) :: V.int IntKind.u64 (IntKind.wrap IntKind.u64 (↑(BitVec.toNat (BitVec.ofInt (IntKind.bits IntKind.u64) (IntKind.wrap IntKind.u64 (z1332 * 2 ^ min (Int.toNat (IntKind.wrap IntKind.u64 z1631)) (IntKind.bits IntKind.u64))) ||| BitVec.ofInt (IntKind.bits IntKind.u64) (Int.fdiv z1333 (2 ^ min (Int.toNat (IntKind.wrap IntKind.u64 (64 - IntKind.wrap IntKind.u64 z1631))) (IntKind.bits IntKind.u64))))) : Int)) :: V.int IntKind.u64 (Int.fdiv (IntKind.wrap IntKind.u64 (z1334 * 2 ^ min (Int.toNat (IntKind.wrap IntKind.u64 z1631)) 64)) 4294967296) :: V.int IntKind.u64 (IntKind.wrap IntKind.u64 (Int.tdiv (IntKind.wrap IntKind.u64 (↑(BitVec.toNat (BitVec.ofInt (IntKind.bits IntKind.u64) (IntKind.wrap IntKind.u64 (z1332 * 2 ^ min (Int.toNat (IntKind.wrap IntKind.u64 z1631)) (IntKind.bits IntKind.u64))) ||| BitVec.ofInt (IntKind.bits IntKind.u64) (Int.fdiv z1333 (2 ^ min (Int.toNat (IntKind.wrap IntKind.u64 (64 - IntKind.wrap IntKind.u64 z1631))) (IntKind.bits IntKind.u64))))) : Int)) (Int.fdiv (IntKind.wrap IntKind.u64 (z1334 * 2 ^ min (Int.toNat (IntKind.wrap IntKind.u64 z1631)) 64)) 4294967296))) :: V.int IntKind.u64 (IntKind.wrap IntKind.u64 (↑(BitVec.toNat (BitVec.ofInt (IntKind.bits IntKind.u64) (IntKind.wrap IntKind.u64 (z1332 * 2 ^ min (Int.toNat (IntKind.wrap IntKind.u64 z1631)) (IntKind.bits IntKind.u64))) ||| BitVec.ofInt (IntKind.bits IntKind.u64) (Int.fdiv z1333 (2 ^ min (Int.toNat (IntKind.wrap IntKind.u64 (64 - IntKind.wrap IntKind.u64 z1631))) (IntKind.bits IntKind.u64))))) : Int)) :: V.int IntKind.u64 (IntKind.wrap IntKind.u64 (Int.tdiv (IntKind.wrap IntKind.u64 (↑(BitVec.toNat (BitVec.ofInt (IntKind.bits IntKind.u64) (IntKind.wrap IntKind.u64 (z1332 * 2 ^ min (Int.toNat (IntKind.wrap IntKind.u64 z1631)) (IntKind.bits IntKind.u64))) ||| BitVec.ofInt (IntKind.bits IntKind.u64) (Int.fdiv z1333 (2 ^ min (Int.toNat (IntKind.wrap IntKind.u64 (64 - IntKind.wrap IntKind.u64 z1631))) (IntKind.bits IntKind.u64))))) : Int)) (Int.fdiv (IntKind.wrap IntKind.u64 (z1334 * 2 ^ min (Int.toNat (IntKind.wrap IntKind.u64 z1631)) 64)) 4294967296))) :: V.int IntKind.u64 (Int.fdiv (IntKind.wrap IntKind.u64 (z1334 * 2 ^ min (Int.toNat (IntKind.wrap IntKind.u64 z1631)) 64)) 4294967296) :: V.int IntKind.u64 (IntKind.wrap IntKind.u64 (IntKind.wrap IntKind.u64 (Int.tdiv (IntKind.wrap IntKind.u64 (↑(BitVec.toNat (BitVec.ofInt (IntKind.bits IntKind.u64) (IntKind.wrap IntKind.u64 (z1332 * 2 ^ min (Int.toNat (IntKind.wrap IntKind.u64 z1631)) (IntKind.bits IntKind.u64))) ||| BitVec.ofInt (IntKind.bits IntKind.u64) (Int.fdiv z1333 (2 ^ min (Int.toNat (IntKind.wrap IntKind.u64 (64 - IntKind.wrap IntKind.u64 z1631))) (IntKind.bits IntKind.u64))))) : Int)) (Int.fdiv (IntKind.wrap IntKind.u64 (z1334 * 2 ^ min (Int.toNat (IntKind.wrap IntKind.u64 z1631)) 64)) 4294967296)) * Int.fdiv (IntKind.wrap IntKind.u64 (z1334 * 2 ^ min (Int.toNat (IntKind.wrap IntKind.u64 z1631)) 64)) 4294967296)) :: V.int IntKind.u64 (IntKind.wrap IntKind.u64 (IntKind.wrap IntKind.u64 (↑(BitVec.toNat (BitVec.ofInt (IntKind.bits IntKind.u64) (IntKind.wrap IntKind.u64 (z1332 * 2 ^ min (Int.toNat (IntKind.wrap IntKind.u64 z1631)) (IntKind.bits IntKind.u64))) ||| BitVec.ofInt (IntKind.bits IntKind.u64) (Int.fdiv z1333 (2 ^ min (Int.toNat (IntKind.wrap IntKind.u64 (64 - IntKind.wrap IntKind.u64 z1631))) (IntKind.bits IntKind.u64))))) : Int) - IntKind.wrap IntKind.u64 (IntKind.wrap IntKind.u64 (Int.tdiv (IntKind.wrap IntKind.u64 (↑(BitVec.toNat (BitVec.ofInt (IntKind.bits IntKind.u64) (IntKind.wrap IntKind.u64 (z1332 * 2 ^ min (Int.toNat (IntKind.wrap IntKind.u64 z1631)) (IntKind.bits IntKind.u64))) ||| BitVec.ofInt (IntKind.bits IntKind.u64) (Int.fdiv z1333 (2 ^ min (Int.toNat (IntKind.wrap IntKind.u64 (64 - IntKind.wrap IntKind.u64 z1631))) (IntKind.bits IntKind.u64))))) : Int)) (Int.fdiv (IntKind.wrap IntKind.u64 (z1334 * 2 ^ min (Int.toNat (IntKind.wrap IntKind.u64 z1631)) 64)) 4294967296)) * Int.fdiv (IntKind.wrap IntKind.u64 (z1334 * 2 ^ min (Int.toNat (IntKind.wrap IntKind.u64 z1631)) 64)) 4294967296))) :: un 68 []), σ := [] }) = some st7 := by
                  rw [loopRun_from, show pre X 87 (0) 0 ({ T := V.int IntKind.u64 z1332 :: V.int IntKind.u64 z1333 :: V.int IntKind.u64 (IntKind.wrap IntKind.u64 (z1334 * 2 ^ min (Int.toNat (IntKind.wrap IntKind.u64 z1631)) 64)) :: U :: U :: U :: V.int IntKind.u64 0 :: V.int IntKind.u64 0 :: V.int IntKind.u64 (IntKind.wrap IntKind.u64 z1631) :: V.int IntKind.u64 (Int.fdiv (IntKind.wrap IntKind.u64 (z1334 * 2 ^ min (Int.toNat (IntKind.wrap IntKind.u64 z1631)) 64)) 4294967296) :: V.int IntKind.u64 (IntKind.wrap IntKind.u64 (↑(BitVec.toNat (BitVec.ofInt (IntKind.bits IntKind.u64) (IntKind.wrap IntKind.u64 (z1334 * 2 ^ min (Int.toNat (IntKind.wrap IntKind.u64 z1631)) 64)) &&& BitVec.ofInt (IntKind.bits IntKind.u64) 4294967295)) : Int)) :: V.int IntKind.u64 (IntKind.wrap IntKind.u64 (↑(BitVec.toNat (BitVec.ofInt (IntKind.bits IntKind.u64) (IntKind.wrap IntKind.u64 (z1332 * 2 ^ min (Int.toNat (IntKind.wrap IntKind.u64 z1631)) (IntKind.bits IntKind.u64))) ||| BitVec.ofInt (IntKind.bits IntKind.u64) (Int.fdiv z1333 (2 ^ min (Int.toNat (IntKind.wrap IntKind.u64 (64 - IntKind.wrap IntKind.u64 z1631))) (IntKind.bits IntKind.u64))))) : Int)) :: V.int IntKind.u64 (IntKind.wrap IntKind.u64 (z1333 * 2 ^ min (Int.toNat (IntKind.wrap IntKind.u64 z1631)) 64)) :: V.int IntKind.u64 (Int.fdiv (IntKind.wrap IntKind.u64 (z1333 * 2 ^ min (Int.toNat (IntKind.wrap IntKind.u64 z1631)) 64)) 4294967296) :: V.int IntKind.u64 (IntKind.wrap IntKind.u64 (↑(BitVec.toNat (BitVec.ofInt (IntKind.bits IntKind.u64) (IntKind.wrap IntKind.u64 (z1333 * 2 ^ min (Int.toNat (IntKind.wrap IntKind.u64 z1631)) 64)) &&& BitVec.ofInt (IntKind.bits IntKind.u64) 4294967295)) : Int)) :: V.int IntKind.u64 (IntKind.wrap IntKind.u64 (Int.tdiv (IntKind.wrap IntKind.u64 (↑(BitVec.toNat (BitVec.ofInt (IntKind.bits IntKind.u64) (IntKind.wrap IntKind.u64 (z1332 * 2 ^ min (Int.toNat (IntKind.wrap IntKind.u64 z1631)) (IntKind.bits IntKind.u64))) ||| BitVec.ofInt (IntKind.bits IntKind.u64) (Int.fdiv z1333 (2 ^ min (Int.toNat (IntKind.wrap IntKind.u64 (64 - IntKind.wrap IntKind.u64 z1631))) (IntKind.bits IntKind.u64))))) : Int)) (Int.fdiv (IntKind.wrap IntKind.u64 (z1334 * 2 ^ min (Int.toNat (IntKind.wrap IntKind.u64 z1631)) 64)) 4294967296))) :: V.int IntKind.u64 (IntKind.wrap IntKind.u64 (IntKind.wrap IntKind.u64 (↑(BitVec.toNat (BitVec.ofInt (IntKind.bits IntKind.u64) (IntKind.wrap IntKind.u64 (z1332 * 2 ^ min (Int.toNat (IntKind.wrap IntKind.u64 z1631)) (IntKind.bits IntKind.u64))) ||| BitVec.ofInt (IntKind.bits IntKind.u64) (Int.fdiv z1333 (2 ^ min (Int.toNat (IntKind.wrap IntKind.u64 (64 - IntKind.wrap IntKind.u64 z1631))) (IntKind.bits IntKind.u64))))) : Int) - IntKind.wrap IntKind.u64 (IntKind.wrap IntKind.u64 (Int.tdiv (IntKind.wrap IntKind.u64 (↑(BitVec.toNat (BitVec.ofInt (IntKind.bits IntKind.u64) (IntKind.wrap IntKind.u64 (z1332 * 2 ^ min (Int.toNat (IntKind.wrap IntKind.u64 z1631)) (IntKind.bits IntKind.u64))) ||| BitVec.ofInt (IntKind.bits IntKind.u64) (Int.fdiv z1333 (2 ^ min (Int.toNat (IntKind.wrap IntKind.u64 (64 - IntKind.wrap IntKind.u64 z1631))) (IntKind.bits IntKind.u64))))) : Int)) (Int.fdiv (IntKind.wrap IntKind.u64 (z1334 * 2 ^ min (Int.toNat (IntKind.wrap IntKind.u64 z1631)) 64)) 4294967296)) * Int.fdiv (IntKind.wrap IntKind.u64 (z1334 * 2 ^ min (Int.toNat (IntKind.wrap IntKind.u64 z1631)) 64)) 4294967296))) :: U :: U :: V.int IntKind.u64 z1334 :: vb (z1334 == 0) :: U :: V.int IntKind.u64 z1334 :: V.int IntKind.u64 z1332 :: vb (decide (z1334 ≤ z1332)) :: U :: V.int IntKind.u64 z1332 :: vb (z1332 == 0) :: un 6 (V.int IntKind.u64 z1334 :: i64 z1631 :: V.int IntKind.u64 (IntKind.wrap IntKind.u64 z1631) :: V.int IntKind.u64 z1334 :: V.int IntKind.u64 (IntKind.wrap IntKind.u64 z1631) :: V.int IntKind.u64 (IntKind.wrap IntKind.u64 (z1334 * 2 ^ min (Int.toNat (IntKind.wrap IntKind.u64 z1631)) 64)) :: V.int IntKind.u64 (IntKind.wrap IntKind.u64 (z1334 * 2 ^ min (Int.toNat (IntKind.wrap IntKind.u64 z1631)) 64)) :: V.int IntKind.u64 (Int.fdiv (IntKind.wrap IntKind.u64 (z1334 * 2 ^ min (Int.toNat (IntKind.wrap IntKind.u64 z1631)) 64)) 4294967296) :: V.int IntKind.u64 (IntKind.wrap IntKind.u64 (z1334 * 2 ^ min (Int.toNat (IntKind.wrap IntKind.u64 z1631)) 64)) :: V.int IntKind.u64 (IntKind.wrap IntKind.u64 (↑(BitVec.toNat (BitVec.ofInt (IntKind.bits IntKind.u64) (IntKind.wrap IntKind.u64 (z1334 * 2 ^ min (Int.toNat (IntKind.wrap IntKind.u64 z1631)) 64)) &&& BitVec.ofInt (IntKind.bits IntKind.u64) 4294967295)) : Int)) :: V.int IntKind.u64 z1332 :: V.int IntKind.u64 (IntKind.wrap IntKind.u64 z1631) :: V.int IntKind.u64 (IntKind.wrap IntKind.u64 (z1332 * 2 ^ min (Int.toNat (IntKind.wrap IntKind.u64 z1631)) 64)) :: V.int IntKind.u64 z1333 :: V.int IntKind.u64 (IntKind.wrap IntKind.u64 z1631) :: V.int IntKind.u64 (IntKind.wrap IntKind.u64 (64 - IntKind.wrap IntKind.u64 z1631)) :: V.int IntKind.u64 (Int.fdiv z1333 (2 ^ min (Int.toNat (IntKind.wrap IntKind.u64 (64 - IntKind.wrap IntKind.u64 z1631))) 64)) :: V.int IntKind.u64 (IntKind.wrap IntKind.u64 (↑(BitVec.toNat (BitVec.ofInt (IntKind.bits IntKind.u64) (IntKind.wrap IntKind.u64 (z1332 * 2 ^ min (Int.toNat (IntKind.wrap IntKind.u64 z1631)) (IntKind.bits IntKind.u64))) ||| BitVec.ofInt (IntKind.bits IntKind.u64) (Int.fdiv z1333 (2 ^ min (Int.toNat (IntKind.wrap IntKind.u64 (64 - IntKind.wrap IntKind.u64 z1631))) (IntKind.bits IntKind.u64))))) : Int)) :: V.int IntKind.u64 z1333 :: V.int IntKind.u64 (IntKind.wrap IntKind.u64 z1631) :: V.int IntKind.u64 (IntKind.wrap IntKind.u64 (z1333 * 2 ^ min (Int.toNat (IntKind.wrap IntKind.u64 z1631)) 64)) :: V.int IntKind.u64 (IntKind.wrap IntKind.u64 (z1333 * 2 ^ min (Int.toNat (IntKind.wrap IntKind.u64 z1631)) 64)) :: V.int IntKind.u64 (Int.fdiv (IntKind.wrap IntKind.u64 (z1333 * 2 ^ min (Int.toNat (IntKind.wrap IntKind.u64 z1631)) 64)) 4294967296) :: V.int IntKind.u64 (IntKind.wrap IntKind.u64 (z1333 * 2 ^ min (Int.toNat (IntKind.wrap IntKind.u64 z1631)) 64)) :: V.int IntKind.u64 (IntKind.wrap IntKind.u64 (↑(BitVec.toNat (BitVec.ofInt (IntKind.bits IntKind.u64) (IntKind.wrap IntKind.u64 (z1333 * 2 ^ min (Int.toNat (IntKind.wrap IntKind.u64 z1631)) 64)) &&& BitVec.ofInt (IntKind.bits IntKind.u64) 4294967295)) : Int)) :: V.int IntKind.u64 (IntKind.wrap IntKind.u64 (↑(BitVec.toNat (BitVec.ofInt (IntKind.bits IntKind.u64) (IntKind.wrap IntKind.u64 (z1332 * 2 ^ min (Int.toNat (IntKind.wrap IntKind.u64 z1631)) (IntKind.bits IntKind.u64))) ||| BitVec.ofInt (IntKind.bits IntKind.u64) (Int.fdiv z1333 (2 ^ min (Int.toNat (IntKind.wrap IntKind.u64 (64 - IntKind.wrap IntKind.u64 z1631))) (IntKind.bits IntKind.u64))))) : Int)) :: V.int IntKind.u64 (Int.fdiv (IntKind.wrap IntKind.u64 (z1334 * 2 ^ min (Int.toNat (IntKind.wrap IntKind.u64 z1631)) 64)) 4294967296) :: V.int IntKind.u64 (IntKind.wrap IntKind.u64 (Int.tdiv (IntKind.wrap IntKind.u64 (↑(BitVec.toNat (BitVec.ofInt (IntKind.bits IntKind.u64) (IntKind.wrap IntKind.u64 (z1332 * 2 ^ min (Int.toNat (IntKind.wrap IntKind.u64 z1631)) (IntKind.bits IntKind.u64))) ||| BitVec.ofInt (IntKind.bits IntKind.u64) (Int.fdiv z1333 (2 ^ min (Int.toNat (IntKind.wrap IntKind.u64 (64 - IntKind.wrap IntKind.u64 z1631))) (IntKind.bits IntKind.u64))))) : Int)) (Int.fdiv (IntKind.wrap IntKind.u64 (z1334 * 2 ^ min (Int.toNat (IntKind.wrap IntKind.u64 z1631)) 64)) 4294967296))) :: V.int IntKind.u64 (IntKind.wrap IntKind.u64 (↑(BitVec.toNat (BitVec.ofInt (IntKind.bits IntKind.u64) (IntKind.wrap IntKind.u64 (z1332 * 2 ^ min (Int.toNat (IntKind.wrap IntKind.u64 z1631)) (IntKind.bits IntKind.u64))) ||| BitVec.ofInt (IntKind.bits IntKind.u64) (Int.fdiv z1333 (2 ^ min (Int.toNat (IntKind.wrap IntKind.u64 (64 - IntKind.wrap IntKind.u64 z1631))) (IntKind.bits IntKind.u64))))) : Int)) :: V.int IntKind.u64 (IntKind.wrap IntKind.u64 (Int.tdiv (IntKind.wrap IntKind.u64 (↑(BitVec.toNat (BitVec.ofInt (IntKind.bits IntKind.u64) (IntKind.wrap IntKind.u64 (z1332 * 2 ^ min (Int.toNat (IntKind.wrap IntKind.u64 z1631)) (IntKind.bits IntKind.u64))) ||| BitVec.ofInt (IntKind.bits IntKind.u64) (Int.fdiv z1333 (2 ^ min (Int.toNat (IntKind.wrap IntKind.u64 (64 - IntKind.wrap IntKind.u64 z1631))) (IntKind.bits IntKind.u64))))) : Int)) (Int.fdiv (IntKind.wrap IntKind.u64 (z1334 * 2 ^ min (Int.toNat (IntKind.wrap IntKind.u64 z1631)) 64)) 4294967296))) :: V.int IntKind.u64 (Int.fdiv (IntKind.wrap IntKind.u64 (z1334 * 2 ^ min (Int.toNat (IntKind.wrap IntKind.u64 z1631)) 64)) 4294967296) :: V.int IntKind.u64 (IntKind.wrap IntKind.u64 (IntKind.wrap IntKind.u64 (Int.tdiv (IntKind.wrap IntKind.u64 (↑(BitVec.toNat (BitVec.ofInt (IntKind.bits IntKind.u64) (IntKind.wrap IntKind.u64 (z1332 * 2 ^ min (Int.toNat (IntKind.wrap IntKind.u64 z1631)) (IntKind.bits IntKind.u64))) ||| BitVec.ofInt (IntKind.bits IntKind.u64) (Int.fdiv z1333 (2 ^ min (Int.toNat (IntKind.wrap IntKind.u64 (64 - IntKind.wrap IntKind.u64 z1631))) (IntKind.bits IntKind.u64))))) : Int)) (Int.fdiv (IntKind.wrap IntKind.u64 (z1334 * 2 ^ min (Int.toNat (IntKind.wrap IntKind.u64 z1631)) 64)) 4294967296)) * Int.fdiv (IntKind.wrap IntKind.u64 (z1334 * 2 ^ min (Int.toNat (IntKind.wrap IntKind.u64 z1631)) 64)) 4294967296)) :: V.int IntKind.u64 (IntKind.wrap IntKind.u64 (IntKind.wrap IntKind.u64 (↑(BitVec.toNat (BitVec.ofInt (IntKind.bits IntKind.u64) (IntKind.wrap IntKind.u64 (z1332 * 2 ^ min (Int.toNat (IntKind.wrap IntKind.u64 z1631)) (IntKind.bits IntKind.u64))) ||| BitVec.ofInt (IntKind.bits IntKind.u64) (Int.fdiv z1333 (2 ^ min (Int.toNat (IntKind.wrap IntKind.u64 (64 - IntKind.wrap IntKind.u64 z1631))) (IntKind.bits IntKind.u64))))) : Int) - IntKind.wrap IntKind.u64 (IntKind.wrap IntKind.u64 (Int.tdiv (IntKind.wrap IntKind.u64 (↑(BitVec.toNat (BitVec.ofInt (IntKind.bits IntKind.u64) (IntKind.wrap IntKind.u64 (z1332 * 2 ^ min (Int.toNat (IntKind.wrap IntKind.u64 z1631)) (IntKind.bits IntKind.u64))) ||| BitVec.ofInt (IntKind.bits IntKind.u64) (Int.fdiv z1333 (2 ^ min (Int.toNat (IntKind.wrap IntKind.u64 (64 - IntKind.wrap IntKind.u64 z1631))) (IntKind.bits IntKind.u64))))) : Int)) (Int.fdiv (IntKind.wrap IntKind.u64 (z1334 * 2 ^ min (Int.toNat (IntKind.wrap IntKind.u64 z1631)) 64)) 4294967296)) * Int.fdiv (IntKind.wrap IntKind.u64 (z1334 * 2 ^ min (Int.toNat (IntKind.wrap IntKind.u64 z1631)) 64)) 4294967296))) :: un 68 []), σ := [] }) = { T := U :: U :: V.int IntKind.u64 (IntKind.wrap IntKind.u64 (z1334 * 2 ^ min (Int.toNat (IntKind.wrap IntKind.u64 z1631)) 64)) :: un 5 (V.int IntKind.u64 (IntKind.wrap IntKind.u64 z1631) :: V.int IntKind.u64 (Int.fdiv (IntKind.wrap IntKind.u64 (z1334 * 2 ^ min (Int.toNat (IntKind.wrap IntKind.u64 z1631)) 64)) 4294967296) :: V.int IntKind.u64 (IntKind.wrap IntKind.u64 (↑(BitVec.toNat (BitVec.ofInt (IntKind.bits IntKind.u64) (IntKind.wrap IntKind.u64 (z1334 * 2 ^ min (Int.toNat (IntKind.wrap IntKind.u64 z1631)) 64)) &&& BitVec.ofInt (IntKind.bits IntKind.u64) 4294967295)) : Int)) :: V.int IntKind.u64 (IntKind.wrap IntKind.u64 (↑(BitVec.toNat (BitVec.ofInt (IntKind.bits IntKind.u64) (IntKind.wrap IntKind.u64 (z1332 * 2 ^ min (Int.toNat (IntKind.wrap IntKind.u64 z1631)) (IntKind.bits IntKind.u64))) ||| BitVec.ofInt (IntKind.bits IntKind.u64) (Int.fdiv z1333 (2 ^ min (Int.toNat (IntKind.wrap IntKind.u64 (64 - IntKind.wrap IntKind.u64 z1631))) (IntKind.bits IntKind.u64))))) : Int)) :: U :: V.int IntKind.u64 (Int.fdiv (IntKind.wrap IntKind.u64 (z1333 * 2 ^ min (Int.toNat (IntKind.wrap IntKind.u64 z1631)) 64)) 4294967296) :: V.int IntKind.u64 (IntKind.wrap IntKind.u64 (↑(BitVec.toNat (BitVec.ofInt (IntKind.bits IntKind.u64) (IntKind.wrap IntKind.u64 (z1333 * 2 ^ min (Int.toNat (IntKind.wrap IntKind.u64 z1631)) 64)) &&& BitVec.ofInt (IntKind.bits IntKind.u64) 4294967295)) : Int)) :: V.int IntKind.u64 (IntKind.wrap IntKind.u64 (Int.tdiv (IntKind.wrap IntKind.u64 (↑(BitVec.toNat (BitVec.ofInt (IntKind.bits IntKind.u64) (IntKind.wrap IntKind.u64 (z1332 * 2 ^ min (Int.toNat (IntKind.wrap IntKind.u64 z1631)) (IntKind.bits IntKind.u64))) ||| BitVec.ofInt (IntKind.bits IntKind.u64) (Int.fdiv z1333 (2 ^ min (Int.toNat (IntKind.wrap IntKind.u64 (64 - IntKind.wrap IntKind.u64 z1631))) (IntKind.bits IntKind.u64))))) : Int)) (Int.fdiv (IntKind.wrap IntKind.u64 (z1334 * 2 ^ min (Int.toNat (IntKind.wrap IntKind.u64 z1631)) 64)) 4294967296))) :: V.int IntKind.u64 (IntKind.wrap IntKind.u64 (IntKind.wrap IntKind.u64 (↑(BitVec.toNat (BitVec.ofInt (IntKind.bits IntKind.u64) (IntKind.wrap IntKind.u64 (z1332 * 2 ^ min (Int.toNat (IntKind.wrap IntKind.u64 z1631)) (IntKind.bits IntKind.u64))) ||| BitVec.ofInt (IntKind.bits IntKind.u64) (Int.fdiv z1333 (2 ^ min (Int.toNat (IntKind.wrap IntKind.u64 (64 - IntKind.wrap IntKind.u64 z1631))) (IntKind.bits IntKind.u64))))) : Int) - IntKind.wrap IntKind.u64 (IntKind.wrap IntKind.u64 (Int.tdiv (IntKind.wrap IntKind.u64 (↑(BitVec.toNat (BitVec.ofInt (IntKind.bits IntKind.u64) (IntKind.wrap IntKind.u64 (z1332 * 2 ^ min (Int.toNat (IntKind.wrap IntKind.u64 z1631)) (IntKind.bits IntKind.u64))) ||| BitVec.ofInt (IntKind.bits IntKind.u64) (Int.fdiv z1333 (2 ^ min (Int.toNat (IntKind.wrap IntKind.u64 (64 - IntKind.wrap IntKind.u64 z1631))) (IntKind.bits IntKind.u64))))) : Int)) (Int.fdiv (IntKind.wrap IntKind.u64 (z1334 * 2 ^ min (Int.toNat (IntKind.wrap IntKind.u64 z1631)) 64)) 4294967296)) * Int.fdiv (IntKind.wrap IntKind.u64 (z1334 * 2 ^ min (Int.toNat (IntKind.wrap IntKind.u64 z1631)) 64)) 4294967296))) :: un 118 []), σ := [] } by kernel_rfl]
                  exact h7
                cases r7 with
                | e0 z1676 z1677 z1678 z1679 z1680 z1681 z1682 z1683 =>
                  obtain ⟨z1684, z1685, b1686, z1687, b1688, rfl⟩ := hr7
                  rcases ite_eq h with ⟨h8, h⟩ | ⟨h8, h⟩
                  · skip
                    cases h
                  · skip
                    obtain ⟨r9, h9, h⟩ := Option.bind_eq_some_iff.mp h
                    obtain ⟨st9, h9, hr9⟩ := L87_2_ok m 18446744073709551616 (z1676) (z1677) (z1678) (z1679) (z1682) (z1683) (IntKind.wrap IntKind.u64 (IntKind.wrap IntKind.u64 (IntKind.wrap IntKind.u64 (IntKind.wrap IntKind.u64 (z1680 * 4294967296) + z1681) - IntKind.wrap IntKind.u64 (z1683 * z1676)) - IntKind.wrap IntKind.u64 (IntKind.wrap IntKind.u64 (Int.tdiv (IntKind.wrap IntKind.u64 (IntKind.wrap IntKind.u64 (IntKind.wrap IntKind.u64 (z1680 * 4294967296) + z1681) - IntKind.wrap IntKind.u64 (z1683 * z1676))) z1678) * z1678))) (IntKind.wrap IntKind.u64 (IntKind.wrap IntKind.u64 (IntKind.wrap IntKind.u64 (z1680 * 4294967296) + z1681) - IntKind.wrap IntKind.u64 (z1683 * z1676))) (IntKind.wrap IntKind.u64 (Int.tdiv (IntKind.wrap IntKind.u64 (IntKind.wrap IntKind.u64 (IntKind.wrap IntKind.u64 (z1680 * 4294967296) + z1681) - IntKind.wrap IntKind.u64 (z1683 * z1676))) z1678)) r9 h9
                    have h9 : loopRun Try.prog X (genO X (call Try.prog X O0 18446744073709551616 (m + 2))) 87 (0) 18446744073709551616 B87 2 ({ T := U :: U :: V.int IntKind.u64 z1676 :: un 5 (V.int IntKind.u64 z1677 :: V.int IntKind.u64 z1678 :: V.int IntKind.u64 z1679 :: V.int IntKind.u64 z1680 :: U :: V.int IntKind.u64 z1681 :: V.int IntKind.u64 z1682 :: V.int IntKind.u64 z1683 :: V.int IntKind.u64 (IntKind.wrap IntKind.u64 (IntKind.wrap IntKind.u64 (IntKind.wrap IntKind.u64 (IntKind.wrap IntKind.u64 (z1680 * 4294967296) + z1681) - IntKind.wrap IntKind.u64 (z1683 * z1676)) - IntKind.wrap IntKind.u64 (IntKind.wrap IntKind.u64 (Int.tdiv (IntKind.wrap IntKind.u64 (IntKind.wrap IntKind.u64 (IntKind.wrap IntKind.u64 (z1680 * 4294967296) + z1681) - IntKind.wrap IntKind.u64 (z1683 * z1676))) z1678) * z1678))) :: V.int IntKind.u64 (IntKind.wrap IntKind.u64 (IntKind.wrap IntKind.u64 (IntKind.wrap IntKind.u64 (z1680 * 4294967296) + z1681) - IntKind.wrap IntKind.u64 (z1683 * z1676))) :: V.int IntKind.u64 (IntKind.wrap IntKind.u64 (Int.tdiv (IntKind.wrap IntKind.u64 (IntKind.wrap IntKind.u64 (IntKind.wrap IntKind.u64 (z1680 * 4294967296) + z1681) - IntKind.wrap IntKind.u64 (z1683 * z1676))) z1678)) :: un 48 (V.int IntKind.u64 z1685 :: vb b1686 :: vb b1686 :: E :: E :: E :: E :: E :: E :: E :: E :: vb true :: V.int IntKind.u64 z1685 :: V.int IntKind.u64 z1683 :: V.int IntKind.u64 z1687 :: V.int IntKind.u64 z1678 :: V.int IntKind.u64 z1684 :: V.int IntKind.u64 z1684 :: vb b1688 :: V.int IntKind.u64 z1680 :: V.int IntKind.u64 (IntKind.wrap IntKind.u64 (z1680 * 4294967296)) :: V.int IntKind.u64 z1681 :: V.int IntKind.u64 (IntKind.wrap IntKind.u64 (IntKind.wrap IntKind.u64 (z1680 * 4294967296) + z1681)) :: V.int IntKind.u64 z1683 :: V.int IntKind.u64 z1676 :: V.int IntKind.u64 (IntKind.wrap IntKind.u64 (z1683 * z1676)) :: V.int IntKind.u64 (IntKind.wrap IntKind.u64 (IntKind.wrap IntKind.u64 (IntKind.wrap IntKind.u64 (z1680 * 4294967296) + z1681) - IntKind.wrap IntKind.u64 (z1683 * z1676))) :: V.int IntKind.u64 (IntKind.wrap IntKind.u64 (IntKind.wrap IntKind.u64 (IntKind.wrap IntKind.u64 (z1680 * 4294967296) + z1681) - IntKind.wrap IntKind.u64 (z1683 * z1676))) :: V.int IntKind.u64 z1678 :: V.int IntKind.u64 (IntKind.wrap IntKind.u64 (Int.tdiv (IntKind.wrap IntKind.u64 (IntKind.wrap IntKind.u64 (IntKind.wrap IntKind.u64 (z1680 * 4294967296) + z1681) - IntKind.wrap IntKind.u64 (z1683 * z1676))) z1678)) :: V.int IntKind.u64 (IntKind.wrap IntKind.u64 (IntKind.wrap IntKind.u64 (IntKind.wrap IntKind.u64 (z1680 * 4294967296) + z1681) - IntKind.wrap IntKind.u64 (z1683 * z1676))) :: V.int IntKind.u64 (IntKind.wrap IntKind.u64 (Int.tdiv (IntKind.wrap IntKind.u64 (IntKind.wrap IntKind.u64 (IntKind.wrap IntKind.u64 (z1680 * 4294967296) + z1681) - IntKind.wrap IntKind.u64 (z1683 * z1676))) z1678)) :: V.int IntKind.u64 z1678 :: V.int IntKind.u64 (IntKind.wrap IntKind.u64 (IntKind.wrap IntKind.u64 (Int.tdiv (IntKind.wrap IntKind.u64 (IntKind.wrap IntKind.u64 (IntKind.wrap IntKind.u64 (z1680 * 4294967296) + z1681) - IntKind.wrap IntKind.u64 (z1683 * z1676))) z1678) * z1678)) :: V.int IntKind.u64 (IntKind.wrap IntKind.u64 (IntKind.wrap IntKind.u64 (IntKind.wrap IntKind.u64 (IntKind.wrap IntKind.u64 (z1680 * 4294967296) + z1681) - IntKind.wrap IntKind.u64 (z1683 * z1676)) - IntKind.wrap IntKind.u64 (IntKind.wrap IntKind.u64 (Int.tdiv (IntKind.wrap IntKind.u64 (IntKind.wrap IntKind.u64 (IntKind.wrap IntKind.u64 (z1680 * 4294967296) + z1681) - IntKind.wrap IntKind.u64 (z1683 * z1676))) z1678) * z1678))) :: un 33 [])), σ := [] }) = some st9 := by
                      rw [loopRun_from, show pre X 87 (0) 2 ({ T := U :: U :: V.int IntKind.u64 z1676 :: un 5 (V.int IntKind.u64 z1677 :: V.int IntKind.u64 z1678 :: V.int IntKind.u64 z1679 :: V.int IntKind.u64 z1680 :: U :: V.int IntKind.u64 z1681 :: V.int IntKind.u64 z1682 :: V.int IntKind.u64 z1683 :: V.int IntKind.u64 (IntKind.wrap IntKind.u64 (IntKind.wrap IntKind.u64 (IntKind.wrap IntKind.u64 (IntKind.wrap IntKind.u64 (z1680 * 4294967296) + z1681) - IntKind.wrap IntKind.u64 (z1683 * z1676)) - IntKind.wrap IntKind.u64 (IntKind.wrap IntKind.u64 (Int.tdiv (IntKind.wrap IntKind.u64 (IntKind.wrap IntKind.u64 (IntKind.wrap IntKind.u64 (z1680 * 4294967296) + z1681) - IntKind.wrap IntKind.u64 (z1683 * z1676))) z1678) * z1678))) :: V.int IntKind.u64 (IntKind.wrap IntKind.u64 (IntKind.wrap IntKind.u64 (IntKind.wrap IntKind.u64 (z1680 * 4294967296) + z1681) - IntKind.wrap IntKind.u64 (z1683 * z1676))) :: V.int IntKind.u64 (IntKind.wrap IntKind.u64 (Int.tdiv (IntKind.wrap IntKind.u64 (IntKind.wrap IntKind.u64 (IntKind.wrap IntKind.u64 (z1680 * 4294967296) + z1681) - IntKind.wrap IntKind.u64 (z1683 * z1676))) z1678)) :: un 48 (V.int IntKind.u64 z1685 :: vb b1686 :: vb b1686 :: E :: E :: E :: E :: E :: E :: E :: E :: vb true :: V.int IntKind.u64 z1685 :: V.int IntKind.u64 z1683 :: V.int IntKind.u64 z1687 :: V.int IntKind.u64 z1678 :: V.int IntKind.u64 z1684 :: V.int IntKind.u64 z1684 :: vb b1688 :: V.int IntKind.u64 z1680 :: V.int IntKind.u64 (IntKind.wrap IntKind.u64 (z1680 * 4294967296)) :: V.int IntKind.u64 z1681 :: V.int IntKind.u64 (IntKind.wrap IntKind.u64 (IntKind.wrap IntKind.u64 (z1680 * 4294967296) + z1681)) :: V.int IntKind.u64 z1683 :: V.int IntKind.u64 z1676 :: V.int IntKind.u64 (IntKind.wrap IntKind.u64 (z1683 * z1676)) :: V.int IntKind.u64 (IntKind.wrap IntKind.u64 (IntKind.wrap IntKind.u64 (IntKind.wrap IntKind.u64 (z1680 * 4294967296) + z1681) - IntKind.wrap IntKind.u64 (z1683 * z1676))) :: V.int IntKind.u64 (IntKind.wrap IntKind.u64 (IntKind.wrap IntKind.u64 (IntKind.wrap IntKind.u64 (z1680 * 4294967296) + z1681) - IntKind.wrap IntKind.u64 (z1683 * z1676))) :: V.int IntKind.u64 z1678 :: V.int IntKind.u64 (IntKind.wrap IntKind.u64 (Int.tdiv (IntKind.wrap IntKind.u64 (IntKind.wrap IntKind.u64 (IntKind.wrap IntKind.u64 (z1680 * 4294967296) + z1681) - IntKind.wrap IntKind.u64 (z1683 * z1676))) z1678)) :: V.int IntKind.u64 (IntKind.wrap IntKind.u64 (IntKind.wrap IntKind.u64 (IntKind.wrap IntKind.u64 (z1680 * 4294967296) + z1681) - IntKind.wrap IntKind.u64 (z1683 * z1676))) :: V.int IntKind.u64 (IntKind.wrap IntKind.u64 (Int.tdiv (IntKind.wrap IntKind.u64 (IntKind.wrap IntKind.u64 (IntKind.wrap IntKind.u64 (z1680 * 4294967296) + z1681) - IntKind.wrap IntKind.u64 (z1683 * z1676))) z1678)) :: V.int IntKind.u64 z1678 :: V.int IntKind.u64 (IntKind.wrap IntKind.u64 (IntKind.wrap IntKind.u64 (Int.tdiv (IntKind.wrap IntKind.u64 (IntKind.wrap IntKind.u64 (IntKind.wrap IntKind.u64 (z1680 * 4294967296) + z1681) - IntKind.wrap IntKind.u64 (z1683 * z1676))) z1678) * z1678)) :: V.int IntKind.u64 (IntKind.wrap IntKind.u64 (IntKind.wrap IntKind.u64 (IntKind.wrap IntKind.u64 (IntKind.wrap IntKind.u64 (z1680 * 4294967296) + z1681) - IntKind.wrap IntKind.u64 (z1683 * z1676)) - IntKind.wrap IntKind.u64 (IntKind.wrap IntKind.u64 (Int.tdiv (IntKind.wrap IntKind.u64 (IntKind.wrap IntKind.u64 (IntKind.wrap IntKind.u64 (z1680 * 4294967296) + z1681) - IntKind.wrap IntKind.u64 (z1683 * z1676))) z1678) * z1678))) :: un 33 [])), σ := [] }) = { T := U :: U :: V.int IntKind.u64 z1676 :: un 5 (V.int IntKind.u64 z1677 :: V.int IntKind.u64 z1678 :: V.int IntKind.u64 z1679 :: U :: U :: U :: V.int IntKind.u64 z1682 :: V.int IntKind.u64 z1683 :: V.int IntKind.u64 (IntKind.wrap IntKind.u64 (IntKind.wrap IntKind.u64 (IntKind.wrap IntKind.u64 (IntKind.wrap IntKind.u64 (z1680 * 4294967296) + z1681) - IntKind.wrap IntKind.u64 (z1683 * z1676)) - IntKind.wrap IntKind.u64 (IntKind.wrap IntKind.u64 (Int.tdiv (IntKind.wrap IntKind.u64 (IntKind.wrap IntKind.u64 (IntKind.wrap IntKind.u64 (z1680 * 4294967296) + z1681) - IntKind.wrap IntKind.u64 (z1683 * z1676))) z1678) * z1678))) :: V.int IntKind.u64 (IntKind.wrap IntKind.u64 (IntKind.wrap IntKind.u64 (IntKind.wrap IntKind.u64 (z1680 * 4294967296) + z1681) - IntKind.wrap IntKind.u64 (z1683 * z1676))) :: V.int IntKind.u64 (IntKind.wrap IntKind.u64 (Int.tdiv (IntKind.wrap IntKind.u64 (IntKind.wrap IntKind.u64 (IntKind.wrap IntKind.u64 (z1680 * 4294967296) + z1681) - IntKind.wrap IntKind.u64 (z1683 * z1676))) z1678)) :: un 116 []), σ := [] } by kernel_rfl]
                      exact h9
                    cases r9 with
                    | e0 z1733 z1734 z1737 z1738 z1740 z1741 =>
                      obtain ⟨z1735, z1736, z1739, z1742, b1743, z1744, b1745, rfl⟩ := hr9
                      rcases ite_eq h with ⟨h10, h⟩ | ⟨h10, h⟩
                      · skip
                        cases h
                      · skip
                        cases h
                        exact call_pathL (gs := [.f, .f, .f, .an (i64 z1631) [], .f, .a, .f, .f, .f, .a, .f, .lp (VX.exit 0) (s87_0_0 z1676 z1677 z1678 z1679 z1680 z1681 z1682 z1683 z1684 z1685 b1686 z1687 b1688), .f, .lp (VX.exit 2) (s87_2_0 z1733 z1734 z1735 z1736 z1737 z1738 z1739 z1740 z1741 z1742 b1743 z1744 b1745), .f]) (notIn []) rfl rfl (by kernel_rfl) (And.intro (Bool.eq_false_iff.mpr h0) (And.intro (decide_eq_false h1) (And.intro (Bool.eq_false_iff.mpr h2) (And.intro h3 (And.intro (decide_eq_false h4) (And.intro (decide_eq_false h4) (And.intro (decide_eq_false h5) (And.intro (decide_eq_false h4) (And.intro (decide_eq_false h6) (And.intro h7 (And.intro (decide_eq_false h8) (And.intro h9 (And.intro (decide_eq_false h10) True.intro)))))))))))))
                    | e1 z1746 z1747 z1750 z1751 z1753 z1754 =>
                      obtain ⟨z1748, z1749, z1752, z1755, b1756, z1757, z1758, z1759, z1760, b1761, b1762, rfl⟩ := hr9
                      rcases ite_eq h with ⟨h10, h⟩ | ⟨h10, h⟩
                      · skip
                        cases h
                      · skip
                        cases h
                        exact call_pathL (gs := [.f, .f, .f, .an (i64 z1631) [], .f, .a, .f, .f, .f, .a, .f, .lp (VX.exit 0) (s87_0_0 z1676 z1677 z1678 z1679 z1680 z1681 z1682 z1683 z1684 z1685 b1686 z1687 b1688), .f, .lp (VX.exit 2) (s87_2_1 z1746 z1747 z1748 z1749 z1750 z1751 z1752 z1753 z1754 z1755 b1756 z1757 z1758 z1759 z1760 b1761 b1762), .f]) (notIn []) rfl rfl (by kernel_rfl) (And.intro (Bool.eq_false_iff.mpr h0) (And.intro (decide_eq_false h1) (And.intro (Bool.eq_false_iff.mpr h2) (And.intro h3 (And.intro (decide_eq_false h4) (And.intro (decide_eq_false h4) (And.intro (decide_eq_false h5) (And.intro (decide_eq_false h4) (And.intro (decide_eq_false h6) (And.intro h7 (And.intro (decide_eq_false h8) (And.intro h9 (And.intro (decide_eq_false h10) True.intro)))))))))))))
                    | e2 z1763 z1764 z1767 z1768 z1770 z1771 =>
                      obtain ⟨z1765, z1766, z1769, b1772, z1773, z1774, z1775, b1776, rfl⟩ := hr9
                      rcases ite_eq h with ⟨h10, h⟩ | ⟨h10, h⟩
                      · skip
                        cases h
                      · skip
                        cases h
                        exact call_pathL (gs := [.f, .f, .f, .an (i64 z1631) [], .f, .a, .f, .f, .f, .a, .f, .lp (VX.exit 0) (s87_0_0 z1676 z1677 z1678 z1679 z1680 z1681 z1682 z1683 z1684 z1685 b1686 z1687 b1688), .f, .lp (VX.exit 2) (s87_2_2 z1763 z1764 z1765 z1766 z1767 z1768 z1769 z1770 z1771 b1772 z1773 z1774 z1775 b1776), .f]) (notIn []) rfl rfl (by kernel_rfl) (And.intro (Bool.eq_false_iff.mpr h0) (And.intro (decide_eq_false h1) (And.intro (Bool.eq_false_iff.mpr h2) (And.intro h3 (And.intro (decide_eq_false h4) (And.intro (decide_eq_false h4) (And.intro (decide_eq_false h5) (And.intro (decide_eq_false h4) (And.intro (decide_eq_false h6) (And.intro h7 (And.intro (decide_eq_false h8) (And.intro h9 (And.intro (decide_eq_false h10) True.intro)))))))))))))
                | e1 z1777 z1778 z1779 z1780 z1781 z1782 z1783 z1784 =>
                  obtain ⟨z1785, z1786, b1787, z1788, z1789, z1790, z1791, b1792, b1793, rfl⟩ := hr7
                  rcases ite_eq h with ⟨h8, h⟩ | ⟨h8, h⟩
                  · skip
                    cases h
                  · skip
                    obtain ⟨r9, h9, h⟩ := Option.bind_eq_some_iff.mp h
                    obtain ⟨st9, h9, hr9⟩ := L87_2_ok m 18446744073709551616 (z1777) (z1778) (z1779) (z1780) (z1783) (z1784) (IntKind.wrap IntKind.u64 (IntKind.wrap IntKind.u64 (IntKind.wrap IntKind.u64 (IntKind.wrap IntKind.u64 (z1781 * 4294967296) + z1782) - IntKind.wrap IntKind.u64 (z1784 * z1777)) - IntKind.wrap IntKind.u64 (IntKind.wrap IntKind.u64 (Int.tdiv (IntKind.wrap IntKind.u64 (IntKind.wrap IntKind.u64 (IntKind.wrap IntKind.u64 (z1781 * 4294967296) + z1782) - IntKind.wrap IntKind.u64 (z1784 * z1777))) z1779) * z1779))) (IntKind.wrap IntKind.u64 (IntKind.wrap IntKind.u64 (IntKind.wrap IntKind.u64 (z1781 * 4294967296) + z1782) - IntKind.wrap IntKind.u64 (z1784 * z1777))) (IntKind.wrap IntKind.u64 (Int.tdiv (IntKind.wrap IntKind.u64 (IntKind.wrap IntKind.u64 (IntKind.wrap IntKind.u64 (z1781 * 4294967296) + z1782) - IntKind.wrap IntKind.u64 (z1784 * z1777))) z1779)) r9 h9
                    have h9 : loopRun Try.prog X (genO X (call Try.prog X O0 18446744073709551616 (m + 2))) 87 (0) 18446744073709551616 B87 2 ({ T := U :: U :: V.int IntKind.u64 z1777 :: un 5 (V.int IntKind.u64 z1778 :: V.int IntKind.u64 z1779 :: V.int IntKind.u64 z1780 :: V.int IntKind.u64 z1781 :: U :: V.int IntKind.u64 z1782 :: V.int IntKind.u64 z1783 :: V.int IntKind.u64 z1784 :: V.int IntKind.u64 (IntKind.wrap IntKind.u64 (IntKind.wrap IntKind.u64 (IntKind.wrap IntKind.u64 (IntKind.wrap IntKind.u64 (z1781 * 4294967296) + z1782) - IntKind.wrap IntKind.u64 (z1784 * z1777)) - IntKind.wrap IntKind.u64 (IntKind.wrap IntKind.u64 (Int.tdiv (IntKind.wrap IntKind.u64 (IntKind.wrap IntKind.u64 (IntKind.wrap IntKind.u64 (z1781 * 4294967296) + z1782) - IntKind.wrap IntKind.u64 (z1784 * z1777))) z1779) * z1779))) :: V.int IntKind.u64 (IntKind.wrap IntKind.u64 (IntKind.wrap IntKind.u64 (IntKind.wrap IntKind.u64 (z1781 * 4294967296) + z1782) - IntKind.wrap IntKind.u64 (z1784 * z1777))) :: V.int IntKind.u64 (IntKind.wrap IntKind.u64 (Int.tdiv (IntKind.wrap IntKind.u64 (IntKind.wrap IntKind.u64 (IntKind.wrap IntKind.u64 (z1781 * 4294967296) + z1782) - IntKind.wrap IntKind.u64 (z1784 * z1777))) z1779)) :: un 48 (V.int IntKind.u64 z1786 :: vb b1787 :: vb b1787 :: V.int IntKind.u64 z1786 :: V.int IntKind.u64 z1780 :: V.int IntKind.u64 z1788 :: V.int IntKind.u64 z1789 :: V.int IntKind.u64 z1790 :: V.int IntKind.u64 z1782 :: V.int IntKind.u64 z1791 :: vb b1792 :: vb b1792 :: V.int IntKind.u64 z1786 :: V.int IntKind.u64 z1784 :: V.int IntKind.u64 z1789 :: V.int IntKind.u64 z1779 :: V.int IntKind.u64 z1785 :: V.int IntKind.u64 z1785 :: vb b1793 :: V.int IntKind.u64 z1781 :: V.int IntKind.u64 (IntKind.wrap IntKind.u64 (z1781 * 4294967296)) :: V.int IntKind.u64 z1782 :: V.int IntKind.u64 (IntKind.wrap IntKind.u64 (IntKind.wrap IntKind.u64 (z1781 * 4294967296) + z1782)) :: V.int IntKind.u64 z1784 :: V.int IntKind.u64 z1777 :: V.int IntKind.u64 (IntKind.wrap IntKind.u64 (z1784 * z1777)) :: V.int IntKind.u64 (IntKind.wrap IntKind.u64 (IntKind.wrap IntKind.u64 (IntKind.wrap IntKind.u64 (z1781 * 4294967296) + z1782) - IntKind.wrap IntKind.u64 (z1784 * z1777))) :: V.int IntKind.u64 (IntKind.wrap IntKind.u64 (IntKind.wrap IntKind.u64 (IntKind.wrap IntKind.u64 (z1781 * 4294967296) + z1782) - IntKind.wrap IntKind.u64 (z1784 * z1777))) :: V.int IntKind.u64 z1779 :: V.int IntKind.u64 (IntKind.wrap IntKind.u64 (Int.tdiv (IntKind.wrap IntKind.u64 (IntKind.wrap IntKind.u64 (IntKind.wrap IntKind.u64 (z1781 * 4294967296) + z1782) - IntKind.wrap IntKind.u64 (z1784 * z1777))) z1779)) :: V.int IntKind.u64 (IntKind.wrap IntKind.u64 (IntKind.wrap IntKind.u64 (IntKind.wrap IntKind.u64 (z1781 * 4294967296) + z1782) - IntKind.wrap IntKind.u64 (z1784 * z1777))) :: V.int IntKind.u64 (IntKind.wrap IntKind.u64 (Int.tdiv (IntKind.wrap IntKind.u64 (IntKind.wrap IntKind.u64 (IntKind.wrap IntKind.u64 (z1781 * 4294967296) + z1782) - IntKind.wrap IntKind.u64 (z1784 * z1777))) z1779)) :: V.int IntKind.u64 z1779 :: V.int IntKind.u64 (IntKind.wrap IntKind.u64 (IntKind.wrap IntKind.u64 (Int.tdiv (IntKind.wrap IntKind.u64 (IntKind.wrap IntKind.u64 (IntKind.wrap IntKind.u64 (z1781 * 4294967296) + z1782) - IntKind.wrap IntKind.u64 (z1784 * z1777))) z1779) * z1779)) :: V.int IntKind.u64 (IntKind.wrap IntKind.u64 (IntKind.wrap IntKind.u64 (IntKind.wrap IntKind.u64 (IntKind.wrap IntKind.u64 (z1781 * 4294967296) + z1782) - IntKind.wrap IntKind.u64 (z1784 * z1777)) - IntKind.wrap IntKind.u64 (IntKind.wrap IntKind.u64 (Int.tdiv (IntKind.wrap IntKind.u64 (IntKind.wrap IntKind.u64 (IntKind.wrap IntKind.u64 (z1781 * 4294967296) + z1782) - IntKind.wrap IntKind.u64 (z1784 * z1777))) z1779) * z1779))) :: un 33 [])), σ := [] }) = some st9 := by
                      rw [loopRun_from, show pre X 87 (0) 2 ({ T := U :: U :: V.int IntKind.u64 z1777 :: un 5 (V.int IntKind.u64 z1778 :: V.int IntKind.u64 z1779 :: V.int IntKind.u64 z1780 :: V.int IntKind.u64 z1781 :: U :: V.int IntKind.u64 z1782 :: V.int IntKind.u64 z1783 :: V.int IntKind.u64 z1784 :: V.int IntKind.u64 (IntKind.wrap IntKind.u64 (IntKind.wrap IntKind.u64 (IntKind.wrap IntKind.u64 (IntKind.wrap IntKind.u64 (z1781 * 4294967296) + z1782) - IntKind.wrap IntKind.u64 (z1784 * z1777)) - IntKind.wrap IntKind.u64 (IntKind.wrap IntKind.u64 (Int.tdiv (IntKind.wrap IntKind.u64 (IntKind.wrap IntKind.u64 (IntKind.wrap IntKind.u64 (z1781 * 4294967296) + z1782) - IntKind.wrap IntKind.u64 (z1784 * z1777))) z1779) * z1779))) :: V.int IntKind.u64 (IntKind.wrap IntKind.u64 (IntKind.wrap IntKind.u64 (IntKind.wrap IntKind.u64 (z1781 * 4294967296) + z1782) - IntKind.wrap IntKind.u64 (z1784 * z1777))) :: V.int IntKind.u64 (IntKind.wrap IntKind.u64 (Int.tdiv (IntKind.wrap IntKind.u64 (IntKind.wrap IntKind.u64 (IntKind.wrap IntKind.u64 (z1781 * 4294967296) + z1782) - IntKind.wrap IntKind.u64 (z1784 * z1777))) z1779)) :: un 48 (V.int IntKind.u64 z1786 :: vb b1787 :: vb b1787 :: V.int IntKind.u64 z1786 :: V.int IntKind.u64 z1780 :: V.int IntKind.u64 z1788 :: V.int IntKind.u64 z1789 :: V.int IntKind.u64 z1790 :: V.int IntKind.u64 z1782 :: V.int IntKind.u64 z1791 :: vb b1792 :: vb b1792 :: V.int IntKind.u64 z1786 :: V.int IntKind.u64 z1784 :: V.int IntKind.u64 z1789 :: V.int IntKind.u64 z1779 :: V.int IntKind.u64 z1785 :: V.int IntKind.u64 z1785 :: vb b1793 :: V.int IntKind.u64 z1781 :: V.int IntKind.u64 (IntKind.wrap IntKind.u64 (z1781 * 4294967296)) :: V.int IntKind.u64 z1782 :: V.int IntKind.u64 (IntKind.wrap IntKind.u64 (IntKind.wrap IntKind.u64 (z1781 * 4294967296) + z1782)) :: V.int IntKind.u64 z1784 :: V.int IntKind.u64 z1777 :: V.int IntKind.u64 (IntKind.wrap IntKind.u64 (z1784 * z1777)) :: V.int IntKind.u64 (IntKind.wrap IntKind.u64 (IntKind.wrap IntKind.u64 (IntKind.wrap IntKind.u64 (z1781 * 4294967296) + z1782) - IntKind.wrap IntKind.u64 (z1784 * z1777))) :: V.int IntKind.u64 (IntKind.wrap IntKind.u64 (IntKind.wrap IntKind.u64 (IntKind.wrap IntKind.u64 (z1781 * 4294967296) + z1782) - IntKind.wrap IntKind.u64 (z1784 * z1777))) :: V.int IntKind.u64 z1779 :: V.int IntKind.u64 (IntKind.wrap IntKind.u64 (Int.tdiv (IntKind.wrap IntKind.u64 (IntKind.wrap IntKind.u64 (IntKind.wrap IntKind.u64 (z1781 * 4294967296) + z1782) - IntKind.wrap IntKind.u64 (z1784 * z1777))) z1779)) :: V.int IntKind.u64 (IntKind.wrap IntKind.u64 (IntKind.wrap IntKind.u64 (IntKind.wrap IntKind.u64 (z1781 * 4294967296) + z1782) - IntKind.wrap IntKind.u64 (z1784 * z1777))) :: V.int IntKind.u64 (IntKind.wrap IntKind.u64 (Int.tdiv (IntKind.wrap IntKind.u64 (IntKind.wrap IntKind.u64 (IntKind.wrap IntKind.u64 (z1781 * 4294967296) + z1782) - IntKind.wrap IntKind.u64 (z1784 * z1777))) z1779)) :: V.int IntKind.u64 z1779 :: V.int IntKind.u64 (IntKind.wrap IntKind.u64 (IntKind.wrap IntKind.u64 (Int.tdiv (IntKind.wrap IntKind.u64 (IntKind.wrap IntKind.u64 (IntKind.wrap IntKind.u64 (z1781 * 4294967296) + z1782) - IntKind.wrap IntKind.u64 (z1784 * z1777))) z1779) * z1779)) :: V.int IntKind.u64 (IntKind.wrap IntKind.u64 (IntKind.wrap IntKind.u64 (IntKind.wrap IntKind.u64 (IntKind.wrap IntKind.u64 (z1781 * 4294967296) + z1782) - IntKind.wrap IntKind.u64 (z1784 * z1777)) - IntKind.wrap IntKind.u64 (IntKind.wrap IntKind.u64 (Int.tdiv (IntKind.wrap IntKind.u64 (IntKind.wrap IntKind.u64 (IntKind.wrap IntKind.u64 (z1781 * 4294967296) + z1782) - IntKind.wrap IntKind.u64 (z1784 * z1777))) z1779) * z1779))) :: un 33 [])), σ := [] }) = { T := U :: U :: V.int IntKind.u64 z1777 :: un 5 (V.int IntKind.u64 z1778 :: V.int IntKind.u64 z1779 :: V.int IntKind.u64 z1780 :: U :: U :: U :: V.int IntKind.u64 z1783 :: V.int IntKind.u64 z1784 :: V.int IntKind.u64 (IntKind.wrap IntKind.u64 (IntKind.wrap IntKind.u64 (IntKind.wrap IntKind.u64 (IntKind.wrap IntKind.u64 (z1781 * 4294967296) + z1782) - IntKind.wrap IntKind.u64 (z1784 * z1777)) - IntKind.wrap IntKind.u64 (IntKind.wrap IntKind.u64 (Int.tdiv (IntKind.wrap IntKind.u64 (IntKind.wrap IntKind.u64 (IntKind.wrap IntKind.u64 (z1781 * 4294967296) + z1782) - IntKind.wrap IntKind.u64 (z1784 * z1777))) z1779) * z1779))) :: V.int IntKind.u64 (IntKind.wrap IntKind.u64 (IntKind.wrap IntKind.u64 (IntKind.wrap IntKind.u64 (z1781 * 4294967296) + z1782) - IntKind.wrap IntKind.u64 (z1784 * z1777))) :: V.int IntKind.u64 (IntKind.wrap IntKind.u64 (Int.tdiv (IntKind.wrap IntKind.u64 (IntKind.wrap IntKind.u64 (IntKind.wrap IntKind.u64 (z1781 * 4294967296) + z1782) - IntKind.wrap IntKind.u64 (z1784 * z1777))) z1779)) :: un 116 []), σ := [] } by kernel_rfl]
                      exact h9
                    cases r9 with
                    | e0 z1794 z1795 z1798 z1799 z1801 z1802 =>
                      obtain ⟨z1796, z1797, z1800, z1803, b1804, z1805, b1806, rfl⟩ := hr9
                      rcases ite_eq h with ⟨h10, h⟩ | ⟨h10, h⟩
                      · skip
                        cases h
                      · skip
                        cases h
                        exact call_pathL (gs := [.f, .f, .f, .an (i64 z1631) [], .f, .a, .f, .f, .f, .a, .f, .lp (VX.exit 0) (s87_0_1 z1777 z1778 z1779 z1780 z1781 z1782 z1783 z1784 z1785 z1786 b1787 z1788 z1789 z1790 z1791 b1792 b1793), .f, .lp (VX.exit 2) (s87_2_0 z1794 z1795 z1796 z1797 z1798 z1799 z1800 z1801 z1802 z1803 b1804 z1805 b1806), .f]) (notIn []) rfl rfl (by kernel_rfl) (And.intro (Bool.eq_false_iff.mpr h0) (And.intro (decide_eq_false h1) (And.intro (Bool.eq_false_iff.mpr h2) (And.intro h3 (And.intro (decide_eq_false h4) (And.intro (decide_eq_false h4) (And.intro (decide_eq_false h5) (And.intro (decide_eq_false h4) (And.intro (decide_eq_false h6) (And.intro h7 (And.intro (decide_eq_false h8) (And.intro h9 (And.intro (decide_eq_false h10) True.intro)))))))))))))
                    | e1 z1807 z1808 z1811 z1812 z1814 z1815 =>
                      obtain ⟨z1809, z1810, z1813, z1816, b1817, z1818, z1819, z1820, z1821, b1822, b1823, rfl⟩ := hr9
                      rcases ite_eq h with ⟨h10, h⟩ | ⟨h10, h⟩
                      · skip
                        cases h
                      · skip
                        cases h
                        exact call_pathL (gs := [.f, .f, .f, .an (i64 z1631) [], .f, .a, .f, .f, .f, .a, .f, .lp (VX.exit 0) (s87_0_1 z1777 z1778 z1779 z1780 z1781 z1782 z1783 z1784 z1785 z1786 b1787 z1788 z1789 z1790 z1791 b1792 b1793), .f, .lp (VX.exit 2) (s87_2_1 z1807 z1808 z1809 z1810 z1811 z1812 z1813 z1814 z1815 z1816 b1817 z1818 z1819 z1820 z1821 b1822 b1823), .f]) (notIn []) rfl rfl (by kernel_rfl) (And.intro (Bool.eq_false_iff.mpr h0) (And.intro (decide_eq_false h1) (And.intro (Bool.eq_false_iff.mpr h2) (And.intro h3 (And.intro (decide_eq_false h4) (And.intro (decide_eq_false h4) (And.intro (decide_eq_false h5) (And.intro (decide_eq_false h4) (And.intro (decide_eq_false h6) (And.intro h7 (And.intro (decide_eq_false h8) (And.intro h9 (And.intro (decide_eq_false h10) True.intro)))))))))))))
                    | e2 z1824 z1825 z1828 z1829 z1831 z1832 =>
                      obtain ⟨z1826, z1827, z1830, b1833, z1834, z1835, z1836, b1837, rfl⟩ := hr9
                      rcases ite_eq h with ⟨h10, h⟩ | ⟨h10, h⟩
                      · skip
                        cases h
                      · skip
                        cases h
                        exact call_pathL (gs := [.f, .f, .f, .an (i64 z1631) [], .f, .a, .f, .f, .f, .a, .f, .lp (VX.exit 0) (s87_0_1 z1777 z1778 z1779 z1780 z1781 z1782 z1783 z1784 z1785 z1786 b1787 z1788 z1789 z1790 z1791 b1792 b1793), .f, .lp (VX.exit 2) (s87_2_2 z1824 z1825 z1826 z1827 z1828 z1829 z1830 z1831 z1832 b1833 z1834 z1835 z1836 b1837), .f]) (notIn []) rfl rfl (by kernel_rfl) (And.intro (Bool.eq_false_iff.mpr h0) (And.intro (decide_eq_false h1) (And.intro (Bool.eq_false_iff.mpr h2) (And.intro h3 (And.intro (decide_eq_false h4) (And.intro (decide_eq_false h4) (And.intro (decide_eq_false h5) (And.intro (decide_eq_false h4) (And.intro (decide_eq_false h6) (And.intro h7 (And.intro (decide_eq_false h8) (And.intro h9 (And.intro (decide_eq_false h10) True.intro)))))))))))))
                | e2 z1838 z1839 z1840 z1841 z1842 z1843 z1844 z1845 =>
                  obtain ⟨z1846, b1847, z1848, z1849, z1850, b1851, rfl⟩ := hr7
                  rcases ite_eq h with ⟨h8, h⟩ | ⟨h8, h⟩
                  · skip
                    cases h
                  · skip
                    obtain ⟨r9, h9, h⟩ := Option.bind_eq_some_iff.mp h
                    obtain ⟨st9, h9, hr9⟩ := L87_2_ok m 18446744073709551616 (z1838) (z1839) (z1840) (z1841) (z1844) (z1845) (IntKind.wrap IntKind.u64 (IntKind.wrap IntKind.u64 (IntKind.wrap IntKind.u64 (IntKind.wrap IntKind.u64 (z1842 * 4294967296) + z1843) - IntKind.wrap IntKind.u64 (z1845 * z1838)) - IntKind.wrap IntKind.u64 (IntKind.wrap IntKind.u64 (Int.tdiv (IntKind.wrap IntKind.u64 (IntKind.wrap IntKind.u64 (IntKind.wrap IntKind.u64 (z1842 * 4294967296) + z1843) - IntKind.wrap IntKind.u64 (z1845 * z1838))) z1840) * z1840))) (IntKind.wrap IntKind.u64 (IntKind.wrap IntKind.u64 (IntKind.wrap IntKind.u64 (z1842 * 4294967296) + z1843) - IntKind.wrap IntKind.u64 (z1845 * z1838))) (IntKind.wrap IntKind.u64 (Int.tdiv (IntKind.wrap IntKind.u64 (IntKind.wrap IntKind.u64 (IntKind.wrap IntKind.u64 (z1842 * 4294967296) + z1843) - IntKind.wrap IntKind.u64 (z1845 * z1838))) z1840)) r9 h9
                    have h9 : loopRun Try.prog X (genO X (call Try.prog X O0 18446744073709551616 (m + 2))) 87 (0) 18446744073709551616 B87 2 ({ T := U :: U :: V.int IntKind.u64 z1838 :: un 5 (V.int IntKind.u64 z1839 :: V.int IntKind.u64 z1840 :: V.int IntKind.u64 z1841 :: V.int IntKind.u64 z1842 :: U :: V.int IntKind.u64 z1843 :: V.int IntKind.u64 z1844 :: V.int IntKind.u64 z1845 :: V.int IntKind.u64 (IntKind.wrap IntKind.u64 (IntKind.wrap IntKind.u64 (IntKind.wrap IntKind.u64 (IntKind.wrap IntKind.u64 (z1842 * 4294967296) + z1843) - IntKind.wrap IntKind.u64 (z1845 * z1838)) - IntKind.wrap IntKind.u64 (IntKind.wrap IntKind.u64 (Int.tdiv (IntKind.wrap IntKind.u64 (IntKind.wrap IntKind.u64 (IntKind.wrap IntKind.u64 (z1842 * 4294967296) + z1843) - IntKind.wrap IntKind.u64 (z1845 * z1838))) z1840) * z1840))) :: V.int IntKind.u64 (IntKind.wrap IntKind.u64 (IntKind.wrap IntKind.u64 (IntKind.wrap IntKind.u64 (z1842 * 4294967296) + z1843) - IntKind.wrap IntKind.u64 (z1845 * z1838))) :: V.int IntKind.u64 (IntKind.wrap IntKind.u64 (Int.tdiv (IntKind.wrap IntKind.u64 (IntKind.wrap IntKind.u64 (IntKind.wrap IntKind.u64 (z1842 * 4294967296) + z1843) - IntKind.wrap IntKind.u64 (z1845 * z1838))) z1840)) :: un 48 (V.int IntKind.u64 z1845 :: vb b1847 :: vb b1847 :: V.int IntKind.u64 z1845 :: V.int IntKind.u64 z1841 :: V.int IntKind.u64 z1848 :: V.int IntKind.u64 z1846 :: V.int IntKind.u64 z1849 :: V.int IntKind.u64 z1843 :: V.int IntKind.u64 z1850 :: vb b1851 :: vb b1851 :: un 7 (V.int IntKind.u64 z1842 :: V.int IntKind.u64 (IntKind.wrap IntKind.u64 (z1842 * 4294967296)) :: V.int IntKind.u64 z1843 :: V.int IntKind.u64 (IntKind.wrap IntKind.u64 (IntKind.wrap IntKind.u64 (z1842 * 4294967296) + z1843)) :: V.int IntKind.u64 z1845 :: V.int IntKind.u64 z1838 :: V.int IntKind.u64 (IntKind.wrap IntKind.u64 (z1845 * z1838)) :: V.int IntKind.u64 (IntKind.wrap IntKind.u64 (IntKind.wrap IntKind.u64 (IntKind.wrap IntKind.u64 (z1842 * 4294967296) + z1843) - IntKind.wrap IntKind.u64 (z1845 * z1838))) :: V.int IntKind.u64 (IntKind.wrap IntKind.u64 (IntKind.wrap IntKind.u64 (IntKind.wrap IntKind.u64 (z1842 * 4294967296) + z1843) - IntKind.wrap IntKind.u64 (z1845 * z1838))) :: V.int IntKind.u64 z1840 :: V.int IntKind.u64 (IntKind.wrap IntKind.u64 (Int.tdiv (IntKind.wrap IntKind.u64 (IntKind.wrap IntKind.u64 (IntKind.wrap IntKind.u64 (z1842 * 4294967296) + z1843) - IntKind.wrap IntKind.u64 (z1845 * z1838))) z1840)) :: V.int IntKind.u64 (IntKind.wrap IntKind.u64 (IntKind.wrap IntKind.u64 (IntKind.wrap IntKind.u64 (z1842 * 4294967296) + z1843) - IntKind.wrap IntKind.u64 (z1845 * z1838))) :: V.int IntKind.u64 (IntKind.wrap IntKind.u64 (Int.tdiv (IntKind.wrap IntKind.u64 (IntKind.wrap IntKind.u64 (IntKind.wrap IntKind.u64 (z1842 * 4294967296) + z1843) - IntKind.wrap IntKind.u64 (z1845 * z1838))) z1840)) :: V.int IntKind.u64 z1840 :: V.int IntKind.u64 (IntKind.wrap IntKind.u64 (IntKind.wrap IntKind.u64 (Int.tdiv (IntKind.wrap IntKind.u64 (IntKind.wrap IntKind.u64 (IntKind.wrap IntKind.u64 (z1842 * 4294967296) + z1843) - IntKind.wrap IntKind.u64 (z1845 * z1838))) z1840) * z1840)) :: V.int IntKind.u64 (IntKind.wrap IntKind.u64 (IntKind.wrap IntKind.u64 (IntKind.wrap IntKind.u64 (IntKind.wrap IntKind.u64 (z1842 * 4294967296) + z1843) - IntKind.wrap IntKind.u64 (z1845 * z1838)) - IntKind.wrap IntKind.u64 (IntKind.wrap IntKind.u64 (Int.tdiv (IntKind.wrap IntKind.u64 (IntKind.wrap IntKind.u64 (IntKind.wrap IntKind.u64 (z1842 * 4294967296) + z1843) - IntKind.wrap IntKind.u64 (z1845 * z1838))) z1840) * z1840))) :: un 33 []))), σ := [] }) = some st9 := by
                      rw [loopRun_from, show pre X 87 (0) 2 ({ T := U :: U :: V.int IntKind.u64 z1838 :: un 5 (V.int IntKind.u64 z1839 :: V.int IntKind.u64 z1840 :: V.int IntKind.u64 z1841 :: V.int IntKind.u64 z1842 :: U :: V.int IntKind.u64 z1843 :: V.int IntKind.u64 z1844 :: V.int IntKind.u64 z1845 :: V.int IntKind.u64 (IntKind.wrap IntKind.u64 (IntKind.wrap IntKind.u64 (IntKind.wrap IntKind.u64 (IntKind.wrap IntKind.u64 (z1842 * 4294967296) + z1843) - IntKind.wrap IntKind.u64 (z1845 * z1838)) - IntKind.wrap IntKind.u64 (IntKind.wrap IntKind.u64 (Int.tdiv (IntKind.wrap IntKind.u64 (IntKind.wrap IntKind.u64 (IntKind.wrap IntKind.u64 (z1842 * 4294967296) + z1843) - IntKind.wrap IntKind.u64 (z1845 * z1838))) z1840) * z1840))) :: V.int IntKind.u64 (IntKind.wrap IntKind.u64 (IntKind.wrap IntKind.u64 (IntKind.wrap IntKind.u64 (z1842 * 4294967296) + z1843) - IntKind.wrap IntKind.u64 (z1845 * z1838))) :: V.int IntKind.u64 (IntKind.wrap IntKind.u64 (Int.tdiv (IntKind.wrap IntKind.u64 (IntKind.wrap IntKind.u64 (IntKind.wrap IntKind.u64 (z1842 * 4294967296) + z1843) - IntKind.wrap IntKind.u64 (z1845 * z1838))) z1840)) :: un 48 (V.int IntKind.u64 z1845 :: vb b1847 :: vb b1847 :: V.int IntKind.u64 z1845 :: V.int IntKind.u64 z1841 :: V.int IntKind.u64 z1848 :: V.int IntKind.u64 z1846 :: V.int IntKind.u64 z1849 :: V.int IntKind.u64 z1843 :: V.int IntKind.u64 z1850 :: vb b1851 :: vb b1851 :: un 7 (V.int IntKind.u64 z1842 :: V.int IntKind.u64 (IntKind.wrap IntKind.u64 (z1842 * 4294967296)) :: V.int IntKind.u64 z1843 :: V.int IntKind.u64 (IntKind.wrap IntKind.u64 (IntKind.wrap IntKind.u64 (z1842 * 4294967296) + z1843)) :: V.int IntKind.u64 z1845 :: V.int IntKind.u64 z1838 :: V.int IntKind.u64 (IntKind.wrap IntKind.u64 (z1845 * z1838)) :: V.int IntKind.u64 (IntKind.wrap IntKind.u64 (IntKind.wrap IntKind.u64 (IntKind.wrap IntKind.u64 (z1842 * 4294967296) + z1843) - IntKind.wrap IntKind.u64 (z1845 * z1838))) :: V.int IntKind.u64 (IntKind.wrap IntKind.u64 (IntKind.wrap IntKind.u64 (IntKind.wrap IntKind.u64 (z1842 * 4294967296) + z1843) - IntKind.wrap IntKind.u64 (z1845 * z1838))) :: V.int IntKind.u64 z1840 :: V.int IntKind.u64 (IntKind.wrap IntKind.u64 (Int.tdiv (IntKind.wrap IntKind.u64 (IntKind.wrap IntKind.u64 (IntKind.wrap IntKind.u64 (z1842 * 4294967296) + z1843) - IntKind.wrap IntKind.u64 (z1845 * z1838))) z1840)) :: V.int IntKind.u64 (IntKind.wrap IntKind.u64 (IntKind.wrap IntKind.u64 (IntKind.wrap IntKind.u64 (z1842 * 4294967296) + z1843) - IntKind.wrap IntKind.u64 (z1845 * z1838))) :: V.int IntKind.u64 (IntKind.wrap IntKind.u64 (Int.tdiv (IntKind.wrap IntKind.u64 (IntKind.wrap IntKind.u64 (IntKind.wrap IntKind.u64 (z1842 * 4294967296) + z1843) - IntKind.wrap IntKind.u64 (z1845 * z1838))) z1840)) :: V.int IntKind.u64 z1840 :: V.int IntKind.u64 (IntKind.wrap IntKind.u64 (IntKind.wrap IntKind.u64 (Int.tdiv (IntKind.wrap IntKind.u64 (IntKind.wrap IntKind.u64 (IntKind.wrap IntKind.u64 (z1842 * 4294967296) + z1843) - IntKind.wrap IntKind.u64 (z1845 * z1838))) z1840) * z1840)) :: V.int IntKind.u64 (IntKind.wrap IntKind.u64 (IntKind.wrap IntKind.u64 (IntKind.wrap IntKind.u64 (IntKind.wrap IntKind.u64 (z1842 * 4294967296) + z1843) - IntKind.wrap IntKind.u64 (z1845 * z1838)) - IntKind.wrap IntKind.u64 (IntKind.wrap IntKind.u64 (Int.tdiv (IntKind.wrap IntKind.u64 (IntKind.wrap IntKind.u64 (IntKind.wrap IntKind.u64 (z1842 * 4294967296) + z1843) - IntKind.wrap IntKind.u64 (z1845 * z1838))) z1840) * z1840))) :: un 33 []))), σ := [] }) = { T := U :: U :: V.int IntKind.u64 z1838 :: un 5 (V.int IntKind.u64 z1839 :: V.int IntKind.u64 z1840 :: V.int IntKind.u64 z1841 :: U :: U :: U :: V.int IntKind.u64 z1844 :: V.int IntKind.u64 z1845 :: V.int IntKind.u64 (IntKind.wrap IntKind.u64 (IntKind.wrap IntKind.u64 (IntKind.wrap IntKind.u64 (IntKind.wrap IntKind.u64 (z1842 * 4294967296) + z1843) - IntKind.wrap IntKind.u64 (z1845 * z1838)) - IntKind.wrap IntKind.u64 (IntKind.wrap IntKind.u64 (Int.tdiv (IntKind.wrap IntKind.u64 (IntKind.wrap IntKind.u64 (IntKind.wrap IntKind.u64 (z1842 * 4294967296) + z1843) - IntKind.wrap IntKind.u64 (z1845 * z1838))) z1840) * z1840))) :: V.int IntKind.u64 (IntKind.wrap IntKind.u64 (IntKind.wrap IntKind.u64 (IntKind.wrap IntKind.u64 (z1842 * 4294967296) + z1843) - IntKind.wrap IntKind.u64 (z1845 * z1838))) :: V.int IntKind.u64 (IntKind.wrap IntKind.u64 (Int.tdiv (IntKind.wrap IntKind.u64 (IntKind.wrap IntKind.u64 (IntKind.wrap IntKind.u64 (z1842 * 4294967296) + z1843) - IntKind.wrap IntKind.u64 (z1845 * z1838))) z1840)) :: un 116 []), σ := [] } by kernel_rfl]
                      exact h9
                    cases r9 with
                    | e0 z1852 z1853 z1856 z1857 z1859 z1860 =>
                      obtain ⟨z1854, z1855, z1858, z1861, b1862, z1863, b1864, rfl⟩ := hr9
                      rcases ite_eq h with ⟨h10, h⟩ | ⟨h10, h⟩
                      · skip
                        cases h
                      · skip
                        cases h
                        exact call_pathL (gs := [.f, .f, .f, .an (i64 z1631) [], .f, .a, .f, .f, .f, .a, .f, .lp (VX.exit 0) (s87_0_2 z1838 z1839 z1840 z1841 z1842 z1843 z1844 z1845 z1846 b1847 z1848 z1849 z1850 b1851), .f, .lp (VX.exit 2) (s87_2_0 z1852 z1853 z1854 z1855 z1856 z1857 z1858 z1859 z1860 z1861 b1862 z1863 b1864), .f]) (notIn []) rfl rfl (by kernel_rfl) (And.intro (Bool.eq_false_iff.mpr h0) (And.intro (decide_eq_false h1) (And.intro (Bool.eq_false_iff.mpr h2) (And.intro h3 (And.intro (decide_eq_false h4) (And.intro (decide_eq_false h4) (And.intro (decide_eq_false h5) (And.intro (decide_eq_false h4) (And.intro (decide_eq_false h6) (And.intro h7 (And.intro (decide_eq_false h8) (And.intro h9 (And.intro (decide_eq_false h10) True.intro)))))))))))))
                    | e1 z1865 z1866 z1869 z1870 z1872 z1873 =>
                      obtain ⟨z1867, z1868, z1871, z1874, b1875, z1876, z1877, z1878, z1879, b1880, b1881, rfl⟩ := hr9
                      rcases ite_eq h with ⟨h10, h⟩ | ⟨h10, h⟩
                      · skip
                        cases h
                      · skip
                        cases h
                        exact call_pathL (gs := [.f, .f, .f, .an (i64 z1631) [], .f, .a, .f, .f, .f, .a, .f, .lp (VX.exit 0) (s87_0_2 z1838 z1839 z1840 z1841 z1842 z1843 z1844 z1845 z1846 b1847 z1848 z1849 z1850 b1851), .f, .lp (VX.exit 2) (s87_2_1 z1865 z1866 z1867 z1868 z1869 z1870 z1871 z1872 z1873 z1874 b1875 z1876 z1877 z1878 z1879 b1880 b1881), .f]) (notIn []) rfl rfl (by kernel_rfl) (And.intro (Bool.eq_false_iff.mpr h0) (And.intro (decide_eq_false h1) (And.intro (Bool.eq_false_iff.mpr h2) (And.intro h3 (And.intro (decide_eq_false h4) (And.intro (decide_eq_false h4) (And.intro (decide_eq_false h5) (And.intro (decide_eq_false h4) (And.intro (decide_eq_false h6) (And.intro h7 (And.intro (decide_eq_false h8) (And.intro h9 (And.intro (decide_eq_false h10) True.intro)))))))))))))
                    | e2 z1882 z1883 z1886 z1887 z1889 z1890 =>
                      obtain ⟨z1884, z1885, z1888, b1891, z1892, z1893, z1894, b1895, rfl⟩ := hr9
                      rcases ite_eq h with ⟨h10, h⟩ | ⟨h10, h⟩
                      · skip
                        cases h
                      · skip
                        cases h
                        exact call_pathL (gs := [.f, .f, .f, .an (i64 z1631) [], .f, .a, .f, .f, .f, .a, .f, .lp (VX.exit 0) (s87_0_2 z1838 z1839 z1840 z1841 z1842 z1843 z1844 z1845 z1846 b1847 z1848 z1849 z1850 b1851), .f, .lp (VX.exit 2) (s87_2_2 z1882 z1883 z1884 z1885 z1886 z1887 z1888 z1889 z1890 b1891 z1892 z1893 z1894 b1895), .f]) (notIn []) rfl rfl (by kernel_rfl) (And.intro (Bool.eq_false_iff.mpr h0) (And.intro (decide_eq_false h1) (And.intro (Bool.eq_false_iff.mpr h2) (And.intro h3 (And.intro (decide_eq_false h4) (And.intro (decide_eq_false h4) (And.intro (decide_eq_false h5) (And.intro (decide_eq_false h4) (And.intro (decide_eq_false h6) (And.intro h7 (And.intro (decide_eq_false h8) (And.intro h9 (And.intro (decide_eq_false h10) True.intro)))))))))))))
end Go.Proofs.Ytojigbcgmneiiaa.H
