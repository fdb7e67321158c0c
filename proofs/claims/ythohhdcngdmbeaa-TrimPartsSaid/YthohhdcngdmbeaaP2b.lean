/- What the functions compute, and that they do so over the machine of plain values (printed by this session's program wip/vm/Walk.lean). No condition beyond those stated. -/
import Derived.Test.YthohhdcngdmbeaaWk
import Derived.Test.YthohhdcngdmbeaaP2a
set_option linter.unusedVariables false
set_option linter.unusedSimpArgs false
namespace Go.Proofs.Ythohhdcngdmbeaa.H
open Go Go.VM
set_option maxRecDepth 100000
/-! ## 6 -/
noncomputable abbrev B6 : Code := (Try.f6.body).getD .skip
inductive R6_0 where
  | e0
  | e1
  | e2 (z911 : Int) (z912 : Int)
@[reducible] def s6_0_0 (z888 : Int) (z889 : Int) (k890 : Nat) (z891 : Int) (z892 : Int) (b893 : Bool) (k894 : Nat) (b895 : Bool) (l896 : List (List V)) (l897 : List (List V)) : S := { T := un 4 (vb false :: U :: U :: U :: i64 z888 :: U :: U :: i64 z889 :: U :: V.ptr 1 0 0 :: un 29 (V.hs 0 0 k890 :: i64 z891 :: i64 z892 :: vb b893 :: V.ptr 0 k894 0 :: V.agg [vb b895, V.list 2 l896] :: V.ptr 1 0 0 :: vb b895 :: vb b895 :: E :: E :: E :: E :: vb true :: un 18 [])), σ := [Ob.cells true true 2 l897, Ob.cells true false 2 [[vb b895, V.list 2 l896]]] }
@[reducible] def s6_0_1 (z898 : Int) (z899 : Int) (k900 : Nat) (z901 : Int) (z902 : Int) (b903 : Bool) (k904 : Nat) (b905 : Bool) (l906 : List (List V)) (z907 : Int) (b908 : Bool) (l909 : List (List V)) : S := { T := un 4 (vb false :: U :: U :: U :: i64 z898 :: U :: U :: i64 z899 :: U :: V.ptr 1 0 0 :: un 29 (V.hs 0 0 k900 :: i64 z901 :: i64 z902 :: vb b903 :: V.ptr 0 k904 0 :: V.agg [vb b905, V.list 2 l906] :: V.ptr 1 0 0 :: vb b905 :: vb b905 :: V.ptr 1 0 1 :: V.list 2 l906 :: i64 z907 :: vb b908 :: vb b908 :: un 18 [])), σ := [Ob.cells true true 2 l909, Ob.cells true false 2 [[vb b905, V.list 2 l906]]] }
@[reducible] def s6_0_2 (z911 : Int) (z912 : Int) (k913 : Nat) (z914 : Int) (z915 : Int) (b916 : Bool) (l917 : List (List V)) : S := { T := un 8 (i64 z911 :: U :: U :: i64 z912 :: un 31 (V.hs 0 0 k913 :: i64 z914 :: i64 z915 :: vb b916 :: un 28 [])), σ := [Ob.cells true true 2 l917] }
def R6_0.St : R6_0 → VX × S → Prop
  | .e0, p => ∃ z888 : Int, ∃ z889 : Int, ∃ k890 : Nat, ∃ z891 : Int, ∃ z892 : Int, ∃ b893 : Bool, ∃ k894 : Nat, ∃ b895 : Bool, ∃ l896 : List (List V), ∃ l897 : List (List V), p = (VX.ret, s6_0_0 z888 z889 k890 z891 z892 b893 k894 b895 l896 l897)
  | .e1, p => ∃ z898 : Int, ∃ z899 : Int, ∃ k900 : Nat, ∃ z901 : Int, ∃ z902 : Int, ∃ b903 : Bool, ∃ k904 : Nat, ∃ b905 : Bool, ∃ l906 : List (List V), ∃ z907 : Int, ∃ b908 : Bool, ∃ l909 : List (List V), p = (VX.ret, s6_0_1 z898 z899 k900 z901 z902 b903 k904 b905 l906 z907 b908 l909)
  | .e2 z911 z912, p => ∃ k913 : Nat, ∃ z914 : Int, ∃ z915 : Int, ∃ b916 : Bool, ∃ l917 : List (List V), p = (VX.exit 0, s6_0_2 z911 z912 k913 z914 z915 b916 l917)
def L6_0 : Nat → Int → Int → Nat → Int → Int → List (List V) → Option R6_0
  | 0, _, _, _, _, _, _ => none
  | n + 1, z837, z838, k839, z840, z841, l842 =>
    if z841 < z840 then
     if 0 ≤ z841 ∧ z841 < (↑k839 : Int) then
      ((l842[(0 : Nat) + Int.toNat z841]?).bind W39.dec).bind fun e887 =>
      if (e887.c0) = true then
       some (R6_0.e0)
      else
       if (↑(List.length e887.2) : Int) < 2 then
        some (R6_0.e1)
       else
        (F29 (e887.c0) (e887.2)).bind fun r => match r with
        | .a0 z910 =>
         L6_0 n (z837) (w64 (z838 + z910)) (k839) (z840) (w64 (z841 + 1)) (l842)
     else
      none -- none
    else
     some (R6_0.e2 (z837) (z838))
theorem L6_0_ok (m : Nat) : ∀ (n : Nat) (z837 : Int) (z838 : Int) (k839 : Nat) (z840 : Int) (z841 : Int) (l842 : List (List V)) (r : R6_0), L6_0 n z837 z838 k839 z840 z841 l842 = some r → ∃ st, loopFrom Try.prog X (genO X (call Try.prog X O0 18446744073709551616 (m + 8))) 6 (0) 18446744073709551616 B6 0 n ({ T := un 8 (i64 z837 :: U :: U :: i64 z838 :: un 31 (V.hs 0 0 k839 :: i64 z840 :: i64 z841 :: un 29 [])), σ := [Ob.cells true true 2 l842] }) = some st ∧ r.St st
  | 0, _, _, _, _, _, _, r, h => by cases h
  | n + 1, z837, z838, k839, z840, z841, l842, r, h => by
    rw [L6_0] at h
    rcases ite_eq h with ⟨h0, h⟩ | ⟨h0, h⟩
    · skip
      rcases ite_eq h with ⟨h1, h⟩ | ⟨h1, h⟩
      · skip
        obtain ⟨e887, h2, h⟩ := Option.bind_eq_some_iff.mp h
        rcases ite_eq h with ⟨h3, h⟩ | ⟨h3, h⟩
        · skip
          cases h
          exact ⟨_, round_out (gs := [.t, .t, .el (W39.cells e887), .a, .a, .t, .t, .t, .t, .t, .a]) (notIn []) (by kernel_rfl) rfl (And.intro (decide_eq_true h0) (And.intro (decide_eq_true h1) (And.intro (W39.dec_ok h2) (And.intro h3 (And.intro h3 (And.intro h3 (And.intro h3 (And.intro h3 True.intro)))))))) n, z837, z838, k839, z840, z841, decide (z841 < z840), 0 + Int.toNat z841, e887.c0, e887.2, l842, rfl⟩
        · skip
          rcases ite_eq h with ⟨h4, h⟩ | ⟨h4, h⟩
          · skip
            cases h
            exact ⟨_, round_out (gs := [.t, .t, .el (W39.cells e887), .a, .a, .f, .f, .a, .f, .f, .f, .t]) (notIn []) (by kernel_rfl) rfl (And.intro (decide_eq_true h0) (And.intro (decide_eq_true h1) (And.intro (W39.dec_ok h2) (And.intro (Bool.eq_false_iff.mpr h3) (And.intro (Bool.eq_false_iff.mpr h3) (And.intro (Bool.eq_false_iff.mpr h3) (And.intro (Bool.eq_false_iff.mpr h3) (And.intro (Bool.eq_false_iff.mpr h3) (And.intro (decide_eq_true h4) True.intro))))))))) n, z837, z838, k839, z840, z841, decide (z841 < z840), 0 + Int.toNat z841, e887.c0, e887.2, (↑(List.length e887.2) : Int), decide ((↑(List.length e887.2) : Int) < 2), l842, rfl⟩
          · skip
            obtain ⟨r5, h5, h⟩ := Option.bind_eq_some_iff.mp h
            have h5 := F29_ok (m + 3) (e887.c0) (e887.2) r5 h5
            cases r5 with
            | a0 z910 =>
              obtain ⟨st, hs, hr⟩ := L6_0_ok m n (z837) (w64 (z838 + z910)) (k839) (z840) (w64 (z841 + 1)) (l842) r h
              exact ⟨st, (round_on (gs := [.t, .t, .el (W39.cells e887), .a, .a, .f, .f, .a, .f, .f, .f, .f, .a, .an (i64 z910) []]) (notIn []) (by kernel_rfl) (And.intro (decide_eq_true h0) (And.intro (decide_eq_true h1) (And.intro (W39.dec_ok h2) (And.intro (Bool.eq_false_iff.mpr h3) (And.intro (Bool.eq_false_iff.mpr h3) (And.intro (Bool.eq_false_iff.mpr h3) (And.intro (Bool.eq_false_iff.mpr h3) (And.intro (Bool.eq_false_iff.mpr h3) (And.intro (decide_eq_false h4) (And.intro h5 True.intro)))))))))) n).trans hs, hr⟩
      · skip
        cases h
    · skip
      cases h
      exact ⟨_, round_out (gs := [.f]) (notIn []) (by kernel_rfl) rfl (And.intro (decide_eq_false h0) True.intro) n, k839, z840, z841, decide (z841 < z840), l842, rfl⟩
inductive A6 where
  | a0 (b877 : Bool)
@[reducible] def A6.out : A6 → V × Store
  | .a0 b877 => (vb b877, [])
def F6 (l0 : List (List V)) (z1 : Int) : Option A6 :=
  (F28 (l0) (0)).bind fun r => match r with
  | .a0 b870 k871 l872 z873 l874 =>
   if 0 + k871 ≤ List.length l874 then
    (F29 (false) (List.take k871 l874)).bind fun r => match r with
    | .a0 z875 =>
     if (z875 == 0) = true then
      (F30).bind fun r => match r with
      | .a0 b876 =>
       some (A6.a0 (b876))
     else
      if (w64 (↑(BitVec.toNat (BitVec.ofInt (IntKind.bits IntKind.i64) z1 &&& BitVec.ofInt (IntKind.bits IntKind.i64) 65535)) : Int) == 0) = true then
       (F30).bind fun r => match r with
       | .a0 b878 =>
        some (A6.a0 (b878))
      else
       (F31 ([[vb false, V.list 2 (List.take k871 l874)]]) (0) (w64 (↑(BitVec.toNat (BitVec.ofInt (IntKind.bits IntKind.i64) z1 &&& BitVec.ofInt (IntKind.bits IntKind.i64) 65535)) : Int))).bind fun r => match r with
       | .a0 k879 l880 =>
        (F31 ([[vb false, V.list 2 (List.take k871 l874)]]) (w64 (↑(BitVec.toNat (BitVec.ofInt (IntKind.bits IntKind.i64) z1 &&& BitVec.ofInt (IntKind.bits IntKind.i64) 65535)) : Int)) (65536)).bind fun r => match r with
        | .a0 k881 l882 =>
         (F31 ([[vb false, V.list 2 (List.take k871 l874)]]) (0) (w64 (↑(BitVec.toNat (BitVec.ofInt (IntKind.bits IntKind.i64) z1 &&& BitVec.ofInt (IntKind.bits IntKind.i64) 65535)) : Int))).bind fun r => match r with
         | .a0 k883 l884 =>
          (F31 ([[vb false, V.list 2 (List.take k871 l874)]]) (w64 (↑(BitVec.toNat (BitVec.ofInt (IntKind.bits IntKind.i64) z1 &&& BitVec.ofInt (IntKind.bits IntKind.i64) 65535)) : Int)) (65536)).bind fun r => match r with
          | .a0 k885 l886 =>
           if 0 + k883 ≤ List.length l884 then
            if (0 : Nat) ≤ (0 : Nat) ∧ ((0 : Nat) + List.length (List.take k883 l884)) * (32 : Nat) ≤ (140737488355328 : Nat) ∧ (0 : Nat) + List.length (List.take k883 l884) ≤ (140737488355328 : Nat) then
             if 0 + k885 ≤ List.length l886 then
              if 0 + (0 + List.length (List.take k883 l884)) ≤ List.length ([] ++ List.take k883 l884) ∧ (0 + List.length (List.take k883 l884) + List.length (List.take k885 l886)) * 32 ≤ 140737488355328 ∧ 0 + List.length (List.take k883 l884) + List.length (List.take k885 l886) ≤ 140737488355328 then
               (L6_0 18446744073709551616 (z875) (0) (0 + List.length (List.take k883 l884) + List.length (List.take k885 l886)) ((↑(0 + List.length (List.take k883 l884) + List.length (List.take k885 l886)) : Int)) (0) (List.take (0 + List.length (List.take k883 l884)) ([] ++ List.take k883 l884) ++ List.take k885 l886)).bind fun r => match r with
               | .e0 =>
                none -- false
               | .e1 =>
                none -- false
               | .e2 z940 z941 =>
                if z941 ≤ w64 (z940 + 8192) then
                 if z941 ≥ w64 (z940 - 8192) then
                  (F30).bind fun r => match r with
                  | .a0 b947 =>
                   some (A6.a0 (b947))
                 else
                  none -- false
                else
                 none -- false
              else
               none -- none
             else
              none -- none
            else
             none -- none
           else
            none -- none
   else
    none -- none
theorem F6_ok (m : Nat) (l0 : List (List V)) (z1 : Int) (r : A6) (h : F6 l0 z1 = some r) : call Try.prog X O0 18446744073709551616 (m + 9) 6 ([V.list 1 l0, i64 z1]) ([]) = some r.out := by
  unfold F6 at h
  obtain ⟨r0, h0, h⟩ := Option.bind_eq_some_iff.mp h
  have h0 := F28_ok (m + 4) (l0) (0) r0 h0
  cases r0 with
  | a0 b870 k871 l872 z873 l874 =>
    rcases ite_eq h with ⟨h1, h⟩ | ⟨h1, h⟩
    · skip
      obtain ⟨r2, h2, h⟩ := Option.bind_eq_some_iff.mp h
      have h2 := F29_ok (m + 3) (false) (List.take k871 l874) r2 h2
      cases r2 with
      | a0 z875 =>
        rcases ite_eq h with ⟨h3, h⟩ | ⟨h3, h⟩
        · skip
          obtain ⟨r4, h4, h⟩ := Option.bind_eq_some_iff.mp h
          have h4 := F30_ok (m + 0) r4 h4
          cases r4 with
          | a0 b876 =>
            cases h
            exact call_pathL (gs := [.an (V.agg [vb b870, V.hs 1 0 k871]) [Ob.cells true false 2 [[V.list 1 l872, i64 z873]], Ob.cells true true 2 l874], .a, .a, .a, .t, .an (i64 z875) [], .t, .t, .t, .a, .an (vb b876) []]) (notIn []) rfl rfl (by kernel_rfl) (And.intro h0 (And.intro (decide_eq_true h1) (And.intro h2 (And.intro h3 (And.intro h3 (And.intro h3 (And.intro h4 True.intro)))))))
        · skip
          rcases ite_eq h with ⟨h4, h⟩ | ⟨h4, h⟩
          · skip
            obtain ⟨r5, h5, h⟩ := Option.bind_eq_some_iff.mp h
            have h5 := F30_ok (m + 0) r5 h5
            cases r5 with
            | a0 b878 =>
              cases h
              exact call_pathL (gs := [.an (V.agg [vb b870, V.hs 1 0 k871]) [Ob.cells true false 2 [[V.list 1 l872, i64 z873]], Ob.cells true true 2 l874], .a, .a, .a, .t, .an (i64 z875) [], .f, .f, .f, .t, .an (vb b878) []]) (notIn []) rfl rfl (by kernel_rfl) (And.intro h0 (And.intro (decide_eq_true h1) (And.intro h2 (And.intro (Bool.eq_false_iff.mpr h3) (And.intro (Bool.eq_false_iff.mpr h3) (And.intro (Bool.eq_false_iff.mpr h3) (And.intro h4 (And.intro h5 True.intro))))))))
          · skip
            obtain ⟨r5, h5, h⟩ := Option.bind_eq_some_iff.mp h
            have h5 := F31_ok (m + 1) ([[vb false, V.list 2 (List.take k871 l874)]]) (0) (w64 (↑(BitVec.toNat (BitVec.ofInt (IntKind.bits IntKind.i64) z1 &&& BitVec.ofInt (IntKind.bits IntKind.i64) 65535)) : Int)) r5 h5
            cases r5 with
            | a0 k879 l880 =>
              obtain ⟨r6, h6, h⟩ := Option.bind_eq_some_iff.mp h
              have h6 := F31_ok (m + 1) ([[vb false, V.list 2 (List.take k871 l874)]]) (w64 (↑(BitVec.toNat (BitVec.ofInt (IntKind.bits IntKind.i64) z1 &&& BitVec.ofInt (IntKind.bits IntKind.i64) 65535)) : Int)) (65536) r6 h6
              cases r6 with
              | a0 k881 l882 =>
                obtain ⟨r7, h7, h⟩ := Option.bind_eq_some_iff.mp h
                have h7 := F31_ok (m + 1) ([[vb false, V.list 2 (List.take k871 l874)]]) (0) (w64 (↑(BitVec.toNat (BitVec.ofInt (IntKind.bits IntKind.i64) z1 &&& BitVec.ofInt (IntKind.bits IntKind.i64) 65535)) : Int)) r7 h7
                cases r7 with
                | a0 k883 l884 =>
                  obtain ⟨r8, h8, h⟩ := Option.bind_eq_some_iff.mp h
                  have h8 := F31_ok (m + 1) ([[vb false, V.list 2 (List.take k871 l874)]]) (w64 (↑(BitVec.toNat (BitVec.ofInt (IntKind.bits IntKind.i64) z1 &&& BitVec.ofInt (IntKind.bits IntKind.i64) 65535)) : Int)) (65536) r8 h8
                  cases r8 with
                  | a0 k885 l886 =>
                    rcases ite_eq h with ⟨h9, h⟩ | ⟨h9, h⟩
                    · skip
                      rcases ite_eq h with ⟨h10, h⟩ | ⟨h10, h⟩
                      · skip
                        rcases ite_eq h with ⟨h11, h⟩ | ⟨h11, h⟩
                        · skip
                          rcases ite_eq h with ⟨h12, h⟩ | ⟨h12, h⟩
                          · skip
                            obtain ⟨r13, h13, h⟩ := Option.bind_eq_some_iff.mp h
                            obtain ⟨st13, h13, hr13⟩ := L6_0_ok m 18446744073709551616 (z875) (0) (0 + List.length (List.take k883 l884) + List.length (List.take k885 l886)) ((↑(0 + List.length (List.take k883 l884) + List.length (List.take k885 l886)) : Int)) (0) (List.take (0 + List.length (List.take k883 l884)) ([] ++ List.take k883 l884) ++ List.take k885 l886) r13 h13
                            have h13 : loopRun Try.prog X (genO X (call Try.prog X O0 18446744073709551616 (m + 8))) 6 (0) 18446744073709551616 B6 0 ({ T := V.list 1 l0 :: i64 z1 :: U :: U :: vb false :: V.ptr 0 0 0 :: V.ptr 2 0 0 :: i64 (w64 (↑(BitVec.toNat (BitVec.ofInt (IntKind.bits IntKind.i64) z1 &&& BitVec.ofInt (IntKind.bits IntKind.i64) 65535)) : Int)) :: i64 z875 :: V.hs 4 0 k883 :: V.hs 6 0 k885 :: i64 0 :: U :: U :: V.list 1 l0 :: V.agg [V.list 1 l0, i64 0] :: V.ptr 0 0 0 :: V.ptr 0 0 0 :: V.agg [vb b870, V.hs 1 0 k871] :: V.ptr 2 0 0 :: i64 z1 :: i64 (w64 (↑(BitVec.toNat (BitVec.ofInt (IntKind.bits IntKind.i64) z1 &&& BitVec.ofInt (IntKind.bits IntKind.i64) 65535)) : Int)) :: V.agg [vb false, V.hs 1 0 k871] :: i64 z875 :: i64 z875 :: vb (z875 == 0) :: vb (z875 == 0) :: i64 (w64 (↑(BitVec.toNat (BitVec.ofInt (IntKind.bits IntKind.i64) z1 &&& BitVec.ofInt (IntKind.bits IntKind.i64) 65535)) : Int)) :: vb (w64 (↑(BitVec.toNat (BitVec.ofInt (IntKind.bits IntKind.i64) z1 &&& BitVec.ofInt (IntKind.bits IntKind.i64) 65535)) : Int) == 0) :: vb (w64 (↑(BitVec.toNat (BitVec.ofInt (IntKind.bits IntKind.i64) z1 &&& BitVec.ofInt (IntKind.bits IntKind.i64) 65535)) : Int) == 0) :: U :: V.agg [vb false, V.hs 1 0 k871] :: V.hs 3 0 1 :: i64 (w64 (↑(BitVec.toNat (BitVec.ofInt (IntKind.bits IntKind.i64) z1 &&& BitVec.ofInt (IntKind.bits IntKind.i64) 65535)) : Int)) :: V.hs 4 0 k883 :: V.agg [vb false, V.hs 1 0 k871] :: V.hs 5 0 1 :: i64 (w64 (↑(BitVec.toNat (BitVec.ofInt (IntKind.bits IntKind.i64) z1 &&& BitVec.ofInt (IntKind.bits IntKind.i64) 65535)) : Int)) :: V.hs 6 0 k885 :: V.hs 7 0 0 :: V.hs 4 0 k883 :: V.hs 8 0 (0 + List.length (List.take k883 l884)) :: V.hs 6 0 k885 :: V.hs 9 0 (0 + List.length (List.take k883 l884) + List.length (List.take k885 l886)) :: i64 (↑(0 + List.length (List.take k883 l884) + List.length (List.take k885 l886)) : Int) :: i64 0 :: un 29 [], σ := [Ob.cells true false 2 [[V.list 1 l872, i64 z873]], Ob.cells false true 2 l874, Ob.cells true false 2 [[vb false, V.hs 1 0 k871]], Ob.cells false true 2 [[vb false, V.list 2 (List.take k871 l874)]], Ob.cells true true 2 l884, Ob.cells false true 2 [[vb false, V.list 2 (List.take k871 l874)]], Ob.cells true true 2 l886, Ob.dead, Ob.dead, Ob.cells true true 2 (List.take (0 + List.length (List.take k883 l884)) ([] ++ List.take k883 l884) ++ List.take k885 l886)] }) = some st13 := by
                              rw [loopRun_from, show pre X 6 (0) 0 ({ T := V.list 1 l0 :: i64 z1 :: U :: U :: vb false :: V.ptr 0 0 0 :: V.ptr 2 0 0 :: i64 (w64 (↑(BitVec.toNat (BitVec.ofInt (IntKind.bits IntKind.i64) z1 &&& BitVec.ofInt (IntKind.bits IntKind.i64) 65535)) : Int)) :: i64 z875 :: V.hs 4 0 k883 :: V.hs 6 0 k885 :: i64 0 :: U :: U :: V.list 1 l0 :: V.agg [V.list 1 l0, i64 0] :: V.ptr 0 0 0 :: V.ptr 0 0 0 :: V.agg [vb b870, V.hs 1 0 k871] :: V.ptr 2 0 0 :: i64 z1 :: i64 (w64 (↑(BitVec.toNat (BitVec.ofInt (IntKind.bits IntKind.i64) z1 &&& BitVec.ofInt (IntKind.bits IntKind.i64) 65535)) : Int)) :: V.agg [vb false, V.hs 1 0 k871] :: i64 z875 :: i64 z875 :: vb (z875 == 0) :: vb (z875 == 0) :: i64 (w64 (↑(BitVec.toNat (BitVec.ofInt (IntKind.bits IntKind.i64) z1 &&& BitVec.ofInt (IntKind.bits IntKind.i64) 65535)) : Int)) :: vb (w64 (↑(BitVec.toNat (BitVec.ofInt (IntKind.bits IntKind.i64) z1 &&& BitVec.ofInt (IntKind.bits IntKind.i64) 65535)) : Int) == 0) :: vb (w64 (↑(BitVec.toNat (BitVec.ofInt (IntKind.bits IntKind.i64) z1 &&& BitVec.ofInt (IntKind.bits IntKind.i64) 65535)) : Int) == 0) :: U :: V.agg [vb false, V.hs 1 0 k871] :: V.hs 3 0 1 :: i64 (w64 (↑(BitVec.toNat (BitVec.ofInt (IntKind.bits IntKind.i64) z1 &&& BitVec.ofInt (IntKind.bits IntKind.i64) 65535)) : Int)) :: V.hs 4 0 k883 :: V.agg [vb false, V.hs 1 0 k871] :: V.hs 5 0 1 :: i64 (w64 (↑(BitVec.toNat (BitVec.ofInt (IntKind.bits IntKind.i64) z1 &&& BitVec.ofInt (IntKind.bits IntKind.i64) 65535)) : Int)) :: V.hs 6 0 k885 :: V.hs 7 0 0 :: V.hs 4 0 k883 :: V.hs 8 0 (0 + List.length (List.take k883 l884)) :: V.hs 6 0 k885 :: V.hs 9 0 (0 + List.length (List.take k883 l884) + List.length (List.take k885 l886)) :: i64 (↑(0 + List.length (List.take k883 l884) + List.length (List.take k885 l886)) : Int) :: i64 0 :: un 29 [], σ := [Ob.cells true false 2 [[V.list 1 l872, i64 z873]], Ob.cells false true 2 l874, Ob.cells true false 2 [[vb false, V.hs 1 0 k871]], Ob.cells false true 2 [[vb false, V.list 2 (List.take k871 l874)]], Ob.cells true true 2 l884, Ob.cells false true 2 [[vb false, V.list 2 (List.take k871 l874)]], Ob.cells true true 2 l886, Ob.dead, Ob.dead, Ob.cells true true 2 (List.take (0 + List.length (List.take k883 l884)) ([] ++ List.take k883 l884) ++ List.take k885 l886)] }) = { T := un 8 (i64 z875 :: U :: U :: i64 0 :: un 31 (V.hs 0 0 (0 + List.length (List.take k883 l884) + List.length (List.take k885 l886)) :: i64 (↑(0 + List.length (List.take k883 l884) + List.length (List.take k885 l886)) : Int) :: i64 0 :: un 29 [])), σ := [Ob.cells true true 2 (List.take (0 + List.length (List.take k883 l884)) ([] ++ List.take k883 l884) ++ List.take k885 l886)] } by kernel_rfl]
                              exact h13
                            cases r13 with
                            | e0 =>
                              obtain ⟨z918, z919, k920, z921, z922, b923, k924, b925, l926, l927, rfl⟩ := hr13
                              cases h
                            | e1 =>
                              obtain ⟨z928, z929, k930, z931, z932, b933, k934, b935, l936, z937, b938, l939, rfl⟩ := hr13
                              cases h
                            | e2 z940 z941 =>
                              obtain ⟨k942, z943, z944, b945, l946, rfl⟩ := hr13
                              rcases ite_eq h with ⟨h14, h⟩ | ⟨h14, h⟩
                              · skip
                                rcases ite_eq h with ⟨h15, h⟩ | ⟨h15, h⟩
                                · skip
                                  obtain ⟨r16, h16, h⟩ := Option.bind_eq_some_iff.mp h
                                  have h16 := F30_ok (m + 0) r16 h16
                                  cases r16 with
                                  | a0 b947 =>
                                    cases h
                                    exact call_pathL (gs := [.an (V.agg [vb b870, V.hs 1 0 k871]) [Ob.cells true false 2 [[V.list 1 l872, i64 z873]], Ob.cells true true 2 l874], .a, .a, .a, .t, .an (i64 z875) [], .f, .f, .f, .f, .a, .t, .a, .an (V.hs 0 0 k879) [Ob.cells true true 2 l880], .a, .t, .a, .an (V.hs 0 0 k881) [Ob.cells true true 2 l882], .ft [⟨0, [2], []⟩, ⟨1, [1, 3], [1, 3]⟩, ⟨2, [], []⟩, ⟨3, [3, 4], [3, 4]⟩, ⟨4, [2], []⟩, ⟨5, [1, 5], [5]⟩, ⟨6, [], []⟩, ⟨7, [5, 6], [5, 6]⟩, ⟨8, [], []⟩, ⟨9, [], []⟩], .a, .t, .a, .an (V.hs 0 0 k883) [Ob.cells true true 2 l884], .a, .t, .a, .an (V.hs 0 0 k885) [Ob.cells true true 2 l886], .ft [⟨0, [2], []⟩, ⟨1, [1, 3], [3]⟩, ⟨2, [], []⟩, ⟨3, [3, 4], [3, 4]⟩, ⟨4, [2], []⟩, ⟨5, [1, 5], [5]⟩, ⟨6, [], []⟩, ⟨7, [5, 6], [5, 6]⟩, ⟨8, [], []⟩, ⟨9, [], []⟩], .t, .t, .t, .t, .lp (VX.exit 0) (s6_0_2 z940 z941 k942 z943 z944 b945 l946), .t, .t, .t, .t, .t, .t, .an (vb b947) [], .t]) (notIn []) rfl rfl (by kernel_rfl) (And.intro h0 (And.intro (decide_eq_true h1) (And.intro h2 (And.intro (Bool.eq_false_iff.mpr h3) (And.intro (Bool.eq_false_iff.mpr h3) (And.intro (Bool.eq_false_iff.mpr h3) (And.intro (Bool.eq_false_iff.mpr h4) (And.intro (decide_eq_true h1) (And.intro h5 (And.intro (decide_eq_true h1) (And.intro h6 (And.intro (Eq.refl ([⟨0, [2], []⟩, ⟨1, [1, 3], [1, 3]⟩, ⟨2, [], []⟩, ⟨3, [3, 4], [3, 4]⟩, ⟨4, [2], []⟩, ⟨5, [1, 5], [5]⟩, ⟨6, [], []⟩, ⟨7, [5, 6], [5, 6]⟩, ⟨8, [], []⟩, ⟨9, [], []⟩] : List Foot)) (And.intro (decide_eq_true h1) (And.intro h7 (And.intro (decide_eq_true h1) (And.intro h8 (And.intro (Eq.refl ([⟨0, [2], []⟩, ⟨1, [1, 3], [3]⟩, ⟨2, [], []⟩, ⟨3, [3, 4], [3, 4]⟩, ⟨4, [2], []⟩, ⟨5, [1, 5], [5]⟩, ⟨6, [], []⟩, ⟨7, [5, 6], [5, 6]⟩, ⟨8, [], []⟩, ⟨9, [], []⟩] : List Foot)) (And.intro (decide_eq_true h9) (And.intro (decide_eq_true h10) (And.intro (decide_eq_true h11) (And.intro (decide_eq_true h12) (And.intro h13 (And.intro (decide_eq_true h14) (And.intro (decide_eq_true h14) (And.intro (decide_eq_true h14) (And.intro (decide_eq_true h14) (And.intro (decide_eq_true h14) (And.intro (decide_eq_true h15) (And.intro h16 (And.intro (decide_eq_true h15) True.intro))))))))))))))))))))))))))))))
                                · skip
                                  cases h
                              · skip
                                cases h
                          · skip
                            cases h
                        · skip
                          cases h
                      · skip
                        cases h
                    · skip
                      cases h
    · skip
      cases h
/-! ## 7 -/
inductive A7 where
  | a0 (b973 : Bool)
@[reducible] def A7.out : A7 → V × Store
  | .a0 b973 => (vb b973, [])
def F7 (l948 : List (List V)) (z949 : Int) (z950 : Int) : Option A7 :=
  (F28 (l948) (0)).bind fun r => match r with
  | .a0 b952 k953 l954 z955 l956 =>
   if 0 + k953 ≤ List.length l956 then
    (F31 ([[vb false, V.list 2 (List.take k953 l956)]]) (w64 (↑(BitVec.toNat (BitVec.ofInt (IntKind.bits IntKind.i64) z949 &&& BitVec.ofInt (IntKind.bits IntKind.i64) 65535)) : Int)) (w64 (↑(BitVec.toNat (BitVec.ofInt (IntKind.bits IntKind.i64) z950 &&& BitVec.ofInt (IntKind.bits IntKind.i64) 65535)) : Int))).bind fun r => match r with
    | .a0 k957 l958 =>
     (F31 ([[vb false, V.list 2 (List.take k953 l956)]]) (w64 (↑(BitVec.toNat (BitVec.ofInt (IntKind.bits IntKind.i64) z950 &&& BitVec.ofInt (IntKind.bits IntKind.i64) 65535)) : Int)) (w64 (↑(BitVec.toNat (BitVec.ofInt (IntKind.bits IntKind.i64) z949 &&& BitVec.ofInt (IntKind.bits IntKind.i64) 65535)) : Int))).bind fun r => match r with
     | .a0 k959 l960 =>
      if 0 + k957 ≤ List.length l958 then
       if 0 + k959 ≤ List.length l960 then
        (F32 (List.take k957 l958) (List.take k959 l960)).bind fun r => match r with
        | .a0 b961 =>
         if (!b961) = true then
          none -- false
         else
          (F31 ([[vb false, V.list 2 (List.take k953 l956)]]) (0) (if 1 > w64 (↑(BitVec.toNat (BitVec.ofInt (IntKind.bits IntKind.i64) z950 &&& BitVec.ofInt (IntKind.bits IntKind.i64) 65535)) : Int) then 1 else w64 (↑(BitVec.toNat (BitVec.ofInt (IntKind.bits IntKind.i64) z950 &&& BitVec.ofInt (IntKind.bits IntKind.i64) 65535)) : Int))).bind fun r => match r with
          | .a0 k962 l963 =>
           (F31 ([[vb false, V.list 2 (List.take k953 l956)]]) (if 65535 < w64 (↑(BitVec.toNat (BitVec.ofInt (IntKind.bits IntKind.i64) z949 &&& BitVec.ofInt (IntKind.bits IntKind.i64) 65535)) : Int) then 65535 else w64 (↑(BitVec.toNat (BitVec.ofInt (IntKind.bits IntKind.i64) z949 &&& BitVec.ofInt (IntKind.bits IntKind.i64) 65535)) : Int)) (65536)).bind fun r => match r with
           | .a0 k964 l965 =>
            if (↑k962 : Int) > 0 then
             if (0 : Int) ≤ (0 : Int) ∧ (0 : Int) < (↑k962 : Int) then
              ((l963[(0 : Nat)]?).bind W39.dec).bind fun e966 =>
              if (↑(List.length e966.2) : Int) < 2 then
               none -- false
              else
               ((e966.2[(0 : Nat)]?).bind W34.dec).bind fun e967 =>
               if (0 : Int) ≤ (0 : Int) ∧ (0 : Int) < (↑k953 : Int) then
                ((l956[(0 : Nat)]?).bind W34.dec).bind fun e968 =>
                if (!(e967.c0 == e968.c0 && (e967.c1 == e968.c1 && true))) = true then
                 none -- false
                else
                 if w64 (↑(BitVec.toNat (BitVec.ofInt (IntKind.bits IntKind.i64) z949 &&& BitVec.ofInt (IntKind.bits IntKind.i64) 65535)) : Int) > 0 then
                  if (↑k964 : Int) > 0 then
                   if (0 : Int) ≤ (0 : Int) ∧ (0 : Int) < (↑k964 : Int) then
                    ((l965[(0 : Nat)]?).bind W39.dec).bind fun e969 =>
                    if ((↑(List.length e969.2) : Int) == 0) = true then
                     none -- false
                    else
                     if 0 ≤ w64 ((↑(List.length e969.2) : Int) - 1) then
                      ((e969.2[Int.toNat (w64 ((↑(List.length e969.2) : Int) - (1 : Int)))]?).bind W34.dec).bind fun e970 =>
                      if 0 ≤ w64 ((↑k953 : Int) - 1) ∧ w64 ((↑k953 : Int) - 1) < (↑k953 : Int) then
                       ((l956[(0 : Nat) + Int.toNat (w64 ((↑k953 : Int) - (1 : Int)))]?).bind W34.dec).bind fun e971 =>
                       if (!(e970.c0 == e971.c0 && (e970.c1 == e971.c1 && true))) = true then
                        none -- false
                       else
                        (F30).bind fun r => match r with
                        | .a0 b972 =>
                         some (A7.a0 (b972))
                      else
                       none -- none
                     else
                      none -- none
                   else
                    none -- none
                  else
                   (F30).bind fun r => match r with
                   | .a0 b974 =>
                    some (A7.a0 (b974))
                 else
                  (F30).bind fun r => match r with
                  | .a0 b975 =>
                   some (A7.a0 (b975))
               else
                none -- none
             else
              none -- none
            else
             if w64 (↑(BitVec.toNat (BitVec.ofInt (IntKind.bits IntKind.i64) z949 &&& BitVec.ofInt (IntKind.bits IntKind.i64) 65535)) : Int) > 0 then
              if (↑k964 : Int) > 0 then
               if (0 : Int) ≤ (0 : Int) ∧ (0 : Int) < (↑k964 : Int) then
                ((l965[(0 : Nat)]?).bind W39.dec).bind fun e976 =>
                if ((↑(List.length e976.2) : Int) == 0) = true then
                 none -- false
                else
                 if 0 ≤ w64 ((↑(List.length e976.2) : Int) - 1) then
                  ((e976.2[Int.toNat (w64 ((↑(List.length e976.2) : Int) - (1 : Int)))]?).bind W34.dec).bind fun e977 =>
                  if 0 ≤ w64 ((↑k953 : Int) - 1) ∧ w64 ((↑k953 : Int) - 1) < (↑k953 : Int) then
                   ((l956[(0 : Nat) + Int.toNat (w64 ((↑k953 : Int) - (1 : Int)))]?).bind W34.dec).bind fun e978 =>
                   if (!(e977.c0 == e978.c0 && (e977.c1 == e978.c1 && true))) = true then
                    none -- false
                   else
                    (F30).bind fun r => match r with
                    | .a0 b979 =>
                     some (A7.a0 (b979))
                  else
                   none -- none
                 else
                  none -- none
               else
                none -- none
              else
               (F30).bind fun r => match r with
               | .a0 b980 =>
                some (A7.a0 (b980))
             else
              (F30).bind fun r => match r with
              | .a0 b981 =>
               some (A7.a0 (b981))
       else
        none -- none
      else
       none -- none
   else
    none -- none
theorem F7_ok (m : Nat) (l948 : List (List V)) (z949 : Int) (z950 : Int) (r : A7) (h : F7 l948 z949 z950 = some r) : call Try.prog X O0 18446744073709551616 (m + 9) 7 ([V.list 1 l948, i64 z949, i64 z950]) ([]) = some r.out := by
  unfold F7 at h
  obtain ⟨r0, h0, h⟩ := Option.bind_eq_some_iff.mp h
  have h0 := F28_ok (m + 4) (l948) (0) r0 h0
  cases r0 with
  | a0 b952 k953 l954 z955 l956 =>
    rcases ite_eq h with ⟨h1, h⟩ | ⟨h1, h⟩
    · skip
      obtain ⟨r2, h2, h⟩ := Option.bind_eq_some_iff.mp h
      have h2 := F31_ok (m + 1) ([[vb false, V.list 2 (List.take k953 l956)]]) (w64 (↑(BitVec.toNat (BitVec.ofInt (IntKind.bits IntKind.i64) z949 &&& BitVec.ofInt (IntKind.bits IntKind.i64) 65535)) : Int)) (w64 (↑(BitVec.toNat (BitVec.ofInt (IntKind.bits IntKind.i64) z950 &&& BitVec.ofInt (IntKind.bits IntKind.i64) 65535)) : Int)) r2 h2
      cases r2 with
      | a0 k957 l958 =>
        obtain ⟨r3, h3, h⟩ := Option.bind_eq_some_iff.mp h
        have h3 := F31_ok (m + 1) ([[vb false, V.list 2 (List.take k953 l956)]]) (w64 (↑(BitVec.toNat (BitVec.ofInt (IntKind.bits IntKind.i64) z950 &&& BitVec.ofInt (IntKind.bits IntKind.i64) 65535)) : Int)) (w64 (↑(BitVec.toNat (BitVec.ofInt (IntKind.bits IntKind.i64) z949 &&& BitVec.ofInt (IntKind.bits IntKind.i64) 65535)) : Int)) r3 h3
        cases r3 with
        | a0 k959 l960 =>
          rcases ite_eq h with ⟨h4, h⟩ | ⟨h4, h⟩
          · skip
            rcases ite_eq h with ⟨h5, h⟩ | ⟨h5, h⟩
            · skip
              obtain ⟨r6, h6, h⟩ := Option.bind_eq_some_iff.mp h
              have h6 := F32_ok (m + 6) (List.take k957 l958) (List.take k959 l960) r6 h6
              cases r6 with
              | a0 b961 =>
                rcases ite_eq h with ⟨h7, h⟩ | ⟨h7, h⟩
                · skip
                  cases h
                · skip
                  obtain ⟨r8, h8, h⟩ := Option.bind_eq_some_iff.mp h
                  have h8 := F31_ok (m + 1) ([[vb false, V.list 2 (List.take k953 l956)]]) (0) (if 1 > w64 (↑(BitVec.toNat (BitVec.ofInt (IntKind.bits IntKind.i64) z950 &&& BitVec.ofInt (IntKind.bits IntKind.i64) 65535)) : Int) then 1 else w64 (↑(BitVec.toNat (BitVec.ofInt (IntKind.bits IntKind.i64) z950 &&& BitVec.ofInt (IntKind.bits IntKind.i64) 65535)) : Int)) r8 h8
                  cases r8 with
                  | a0 k962 l963 =>
                    obtain ⟨r9, h9, h⟩ := Option.bind_eq_some_iff.mp h
                    have h9 := F31_ok (m + 1) ([[vb false, V.list 2 (List.take k953 l956)]]) (if 65535 < w64 (↑(BitVec.toNat (BitVec.ofInt (IntKind.bits IntKind.i64) z949 &&& BitVec.ofInt (IntKind.bits IntKind.i64) 65535)) : Int) then 65535 else w64 (↑(BitVec.toNat (BitVec.ofInt (IntKind.bits IntKind.i64) z949 &&& BitVec.ofInt (IntKind.bits IntKind.i64) 65535)) : Int)) (65536) r9 h9
                    cases r9 with
                    | a0 k964 l965 =>
                      rcases ite_eq h with ⟨h10, h⟩ | ⟨h10, h⟩
                      · skip
                        rcases ite_eq h with ⟨h11, h⟩ | ⟨h11, h⟩
                        · skip
                          obtain ⟨e966, h12, h⟩ := Option.bind_eq_some_iff.mp h
                          rcases ite_eq h with ⟨h13, h⟩ | ⟨h13, h⟩
                          · skip
                            cases h
                          · skip
                            obtain ⟨e967, h14, h⟩ := Option.bind_eq_some_iff.mp h
                            rcases ite_eq h with ⟨h15, h⟩ | ⟨h15, h⟩
                            · skip
                              obtain ⟨e968, h16, h⟩ := Option.bind_eq_some_iff.mp h
                              rcases ite_eq h with ⟨h17, h⟩ | ⟨h17, h⟩
                              · skip
                                cases h
                              · skip
                                rcases ite_eq h with ⟨h18, h⟩ | ⟨h18, h⟩
                                · skip
                                  rcases ite_eq h with ⟨h19, h⟩ | ⟨h19, h⟩
                                  · skip
                                    rcases ite_eq h with ⟨h20, h⟩ | ⟨h20, h⟩
                                    · skip
                                      obtain ⟨e969, h21, h⟩ := Option.bind_eq_some_iff.mp h
                                      rcases ite_eq h with ⟨h22, h⟩ | ⟨h22, h⟩
                                      · skip
                                        cases h
                                      · skip
                                        rcases ite_eq h with ⟨h23, h⟩ | ⟨h23, h⟩
                                        · skip
                                          obtain ⟨e970, h24, h⟩ := Option.bind_eq_some_iff.mp h
                                          rcases ite_eq h with ⟨h25, h⟩ | ⟨h25, h⟩
                                          · skip
                                            obtain ⟨e971, h26, h⟩ := Option.bind_eq_some_iff.mp h
                                            rcases ite_eq h with ⟨h27, h⟩ | ⟨h27, h⟩
                                            · skip
                                              cases h
                                            · skip
                                              obtain ⟨r28, h28, h⟩ := Option.bind_eq_some_iff.mp h
                                              have h28 := F30_ok (m + 0) r28 h28
                                              cases r28 with
                                              | a0 b972 =>
                                                cases h
                                                exact call_pathL (gs := [.an (V.agg [vb b952, V.hs 1 0 k953]) [Ob.cells true false 2 [[V.list 1 l954, i64 z955]], Ob.cells true true 2 l956], .a, .a, .a, .t, .a, .an (V.hs 0 0 k957) [Ob.cells true true 2 l958], .a, .an (V.hs 0 0 k959) [Ob.cells true true 2 l960], .t, .t, .an (vb b961) [], .f, .a, .an (V.hs 0 0 k962) [Ob.cells true true 2 l963], .a, .an (V.hs 0 0 k964) [Ob.cells true true 2 l965], .t, .t, .t, .t, .t, .el (W39.cells e966), .t, .t, .t, .f, .f, .t, .f, .f, .el (W39.cells e966), .f, .a, .el (W34.cells e967), .f, .f, .f, .a, .f, .t, .f, .el (W34.cells e968), .f, .t, .f, .t, .ft [⟨0, [], []⟩, ⟨1, [6], []⟩, ⟨2, [], []⟩, ⟨3, [], []⟩, ⟨4, [], []⟩, ⟨5, [6], []⟩, ⟨6, [6], []⟩, ⟨7, [6], []⟩, ⟨8, [], []⟩, ⟨9, [], []⟩, ⟨10, [], []⟩, ⟨11, [], []⟩, ⟨12, [6], []⟩, ⟨13, [6], []⟩, ⟨14, [6], []⟩, ⟨15, [], []⟩, ⟨16, [], []⟩, ⟨17, [2], []⟩, ⟨18, [2], []⟩, ⟨19, [1], []⟩, ⟨20, [1], []⟩, ⟨21, [], []⟩, ⟨22, [], []⟩, ⟨23, [], []⟩], .f, .t, .t, .t, .t, .t, .t, .t, .t, .t, .el (W39.cells e969), .t, .t, .t, .f, .f, .t, .f, .f, .el (W39.cells e969), .f, .f, .t, .f, .f, .el (W39.cells e969), .f, .f, .f, .t, .el (W34.cells e970), .f, .f, .f, .a, .f, .f, .a, .f, .f, .f, .t, .f, .el (W34.cells e971), .f, .t, .f, .t, .ft [⟨0, [], []⟩, ⟨1, [], []⟩, ⟨2, [], []⟩, ⟨3, [], []⟩, ⟨4, [7], []⟩, ⟨5, [], []⟩, ⟨6, [], []⟩, ⟨7, [], []⟩, ⟨8, [], []⟩, ⟨9, [7], []⟩, ⟨10, [7], []⟩, ⟨11, [7], []⟩, ⟨12, [], []⟩, ⟨13, [], []⟩, ⟨14, [], []⟩, ⟨15, [], []⟩, ⟨16, [7], []⟩, ⟨17, [7], []⟩, ⟨18, [7], []⟩, ⟨19, [], []⟩, ⟨20, [7], []⟩, ⟨21, [7], []⟩, ⟨22, [7], []⟩, ⟨23, [], []⟩, ⟨24, [], []⟩, ⟨25, [], []⟩, ⟨26, [], []⟩, ⟨27, [2], []⟩, ⟨28, [2], []⟩, ⟨29, [2], []⟩, ⟨30, [2], []⟩, ⟨31, [1], []⟩, ⟨32, [], []⟩, ⟨33, [1], []⟩, ⟨34, [1], []⟩, ⟨35, [], []⟩, ⟨36, [], []⟩, ⟨37, [], []⟩], .f, .an (vb b972) []]) (notIn []) rfl rfl (by kernel_rfl) (And.intro h0 (And.intro (decide_eq_true h1) (And.intro h2 (And.intro h3 (And.intro (decide_eq_true h4) (And.intro (decide_eq_true h5) (And.intro h6 (And.intro (Bool.eq_false_iff.mpr h7) (And.intro h8 (And.intro h9 (And.intro (decide_eq_true h10) (And.intro (decide_eq_true h10) (And.intro (decide_eq_true h11) (And.intro (decide_eq_true h10) (And.intro (decide_eq_true h10) (And.intro (W39.dec_ok h12) (And.intro (decide_eq_true h10) (And.intro (decide_eq_true h10) (And.intro (decide_eq_true h10) (And.intro (decide_eq_false h13) (And.intro (decide_eq_false h13) (And.intro (decide_eq_true h11) (And.intro (decide_eq_false h13) (And.intro (decide_eq_false h13) (And.intro (W39.dec_ok h12) (And.intro (decide_eq_false h13) (And.intro (W34.dec_ok h14) (And.intro (decide_eq_false h13) (And.intro (decide_eq_false h13) (And.intro (decide_eq_false h13) (And.intro (decide_eq_false h13) (And.intro (decide_eq_true h15) (And.intro (decide_eq_false h13) (And.intro (W34.dec_ok h16) (And.intro (decide_eq_false h13) (And.intro (decide_eq_true h10) (And.intro (decide_eq_false h13) (And.intro (decide_eq_true h10) (And.intro (Eq.refl ([⟨0, [], []⟩, ⟨1, [6], []⟩, ⟨2, [], []⟩, ⟨3, [], []⟩, ⟨4, [], []⟩, ⟨5, [6], []⟩, ⟨6, [6], []⟩, ⟨7, [6], []⟩, ⟨8, [], []⟩, ⟨9, [], []⟩, ⟨10, [], []⟩, ⟨11, [], []⟩, ⟨12, [6], []⟩, ⟨13, [6], []⟩, ⟨14, [6], []⟩, ⟨15, [], []⟩, ⟨16, [], []⟩, ⟨17, [2], []⟩, ⟨18, [2], []⟩, ⟨19, [1], []⟩, ⟨20, [1], []⟩, ⟨21, [], []⟩, ⟨22, [], []⟩, ⟨23, [], []⟩] : List Foot)) (And.intro (Bool.eq_false_iff.mpr h17) (And.intro (decide_eq_true h18) (And.intro (decide_eq_true h18) (And.intro (decide_eq_true h18) (And.intro (decide_eq_true h18) (And.intro (decide_eq_true h19) (And.intro (decide_eq_true h19) (And.intro (decide_eq_true h20) (And.intro (decide_eq_true h19) (And.intro (decide_eq_true h19) (And.intro (W39.dec_ok h21) (And.intro (decide_eq_true h19) (And.intro (decide_eq_true h19) (And.intro (decide_eq_true h19) (And.intro (Bool.eq_false_iff.mpr h22) (And.intro (Bool.eq_false_iff.mpr h22) (And.intro (decide_eq_true h20) (And.intro (Bool.eq_false_iff.mpr h22) (And.intro (Bool.eq_false_iff.mpr h22) (And.intro (W39.dec_ok h21) (And.intro (Bool.eq_false_iff.mpr h22) (And.intro (Bool.eq_false_iff.mpr h22) (And.intro (decide_eq_true h20) (And.intro (Bool.eq_false_iff.mpr h22) (And.intro (Bool.eq_false_iff.mpr h22) (And.intro (W39.dec_ok h21) (And.intro (Bool.eq_false_iff.mpr h22) (And.intro (Bool.eq_false_iff.mpr h22) (And.intro (Bool.eq_false_iff.mpr h22) (And.intro (decide_eq_true h23) (And.intro (W34.dec_ok h24) (And.intro (Bool.eq_false_iff.mpr h22) (And.intro (Bool.eq_false_iff.mpr h22) (And.intro (Bool.eq_false_iff.mpr h22) (And.intro (Bool.eq_false_iff.mpr h22) (And.intro (Bool.eq_false_iff.mpr h22) (And.intro (Bool.eq_false_iff.mpr h22) (And.intro (Bool.eq_false_iff.mpr h22) (And.intro (Bool.eq_false_iff.mpr h22) (And.intro (decide_eq_true h25) (And.intro (Bool.eq_false_iff.mpr h22) (And.intro (W34.dec_ok h26) (And.intro (Bool.eq_false_iff.mpr h22) (And.intro (decide_eq_true h19) (And.intro (Bool.eq_false_iff.mpr h22) (And.intro (decide_eq_true h19) (And.intro (Eq.refl ([⟨0, [], []⟩, ⟨1, [], []⟩, ⟨2, [], []⟩, ⟨3, [], []⟩, ⟨4, [7], []⟩, ⟨5, [], []⟩, ⟨6, [], []⟩, ⟨7, [], []⟩, ⟨8, [], []⟩, ⟨9, [7], []⟩, ⟨10, [7], []⟩, ⟨11, [7], []⟩, ⟨12, [], []⟩, ⟨13, [], []⟩, ⟨14, [], []⟩, ⟨15, [], []⟩, ⟨16, [7], []⟩, ⟨17, [7], []⟩, ⟨18, [7], []⟩, ⟨19, [], []⟩, ⟨20, [7], []⟩, ⟨21, [7], []⟩, ⟨22, [7], []⟩, ⟨23, [], []⟩, ⟨24, [], []⟩, ⟨25, [], []⟩, ⟨26, [], []⟩, ⟨27, [2], []⟩, ⟨28, [2], []⟩, ⟨29, [2], []⟩, ⟨30, [2], []⟩, ⟨31, [1], []⟩, ⟨32, [], []⟩, ⟨33, [1], []⟩, ⟨34, [1], []⟩, ⟨35, [], []⟩, ⟨36, [], []⟩, ⟨37, [], []⟩] : List Foot)) (And.intro (Bool.eq_false_iff.mpr h27) (And.intro h28 True.intro))))))))))))))))))))))))))))))))))))))))))))))))))))))))))))))))))))))))))))))))))))))))
                                          · skip
                                            cases h
                                        · skip
                                          cases h
                                    · skip
                                      cases h
                                  · skip
                                    obtain ⟨r20, h20, h⟩ := Option.bind_eq_some_iff.mp h
                                    have h20 := F30_ok (m + 0) r20 h20
                                    cases r20 with
                                    | a0 b974 =>
                                      cases h
                                      exact call_pathL (gs := [.an (V.agg [vb b952, V.hs 1 0 k953]) [Ob.cells true false 2 [[V.list 1 l954, i64 z955]], Ob.cells true true 2 l956], .a, .a, .a, .t, .a, .an (V.hs 0 0 k957) [Ob.cells true true 2 l958], .a, .an (V.hs 0 0 k959) [Ob.cells true true 2 l960], .t, .t, .an (vb b961) [], .f, .a, .an (V.hs 0 0 k962) [Ob.cells true true 2 l963], .a, .an (V.hs 0 0 k964) [Ob.cells true true 2 l965], .t, .t, .t, .t, .t, .el (W39.cells e966), .t, .t, .t, .f, .f, .t, .f, .f, .el (W39.cells e966), .f, .a, .el (W34.cells e967), .f, .f, .f, .a, .f, .t, .f, .el (W34.cells e968), .f, .t, .f, .t, .ft [⟨0, [], []⟩, ⟨1, [6], []⟩, ⟨2, [], []⟩, ⟨3, [], []⟩, ⟨4, [], []⟩, ⟨5, [6], []⟩, ⟨6, [6], []⟩, ⟨7, [6], []⟩, ⟨8, [], []⟩, ⟨9, [], []⟩, ⟨10, [], []⟩, ⟨11, [], []⟩, ⟨12, [6], []⟩, ⟨13, [6], []⟩, ⟨14, [6], []⟩, ⟨15, [], []⟩, ⟨16, [], []⟩, ⟨17, [2], []⟩, ⟨18, [2], []⟩, ⟨19, [1], []⟩, ⟨20, [1], []⟩, ⟨21, [], []⟩, ⟨22, [], []⟩, ⟨23, [], []⟩], .f, .t, .t, .t, .t, .f, .f, .f, .f, .f, .f, .f, .f, .f, .ft [⟨0, [], []⟩, ⟨1, [], []⟩, ⟨2, [], []⟩, ⟨3, [], []⟩, ⟨4, [7], []⟩, ⟨5, [], []⟩, ⟨6, [], []⟩, ⟨7, [], []⟩, ⟨8, [], []⟩, ⟨9, [], []⟩, ⟨10, [], []⟩, ⟨11, [], []⟩, ⟨12, [], []⟩, ⟨13, [], []⟩, ⟨14, [], []⟩, ⟨15, [], []⟩, ⟨16, [], []⟩, ⟨17, [], []⟩, ⟨18, [], []⟩, ⟨19, [], []⟩, ⟨20, [], []⟩, ⟨21, [], []⟩, ⟨22, [], []⟩, ⟨23, [], []⟩, ⟨24, [], []⟩, ⟨25, [], []⟩, ⟨26, [], []⟩, ⟨27, [], []⟩, ⟨28, [], []⟩, ⟨29, [], []⟩, ⟨30, [], []⟩, ⟨31, [], []⟩, ⟨32, [], []⟩, ⟨33, [], []⟩, ⟨34, [], []⟩, ⟨35, [], []⟩, ⟨36, [], []⟩, ⟨37, [], []⟩], .a, .an (vb b974) []]) (notIn []) rfl rfl (by kernel_rfl) (And.intro h0 (And.intro (decide_eq_true h1) (And.intro h2 (And.intro h3 (And.intro (decide_eq_true h4) (And.intro (decide_eq_true h5) (And.intro h6 (And.intro (Bool.eq_false_iff.mpr h7) (And.intro h8 (And.intro h9 (And.intro (decide_eq_true h10) (And.intro (decide_eq_true h10) (And.intro (decide_eq_true h11) (And.intro (decide_eq_true h10) (And.intro (decide_eq_true h10) (And.intro (W39.dec_ok h12) (And.intro (decide_eq_true h10) (And.intro (decide_eq_true h10) (And.intro (decide_eq_true h10) (And.intro (decide_eq_false h13) (And.intro (decide_eq_false h13) (And.intro (decide_eq_true h11) (And.intro (decide_eq_false h13) (And.intro (decide_eq_false h13) (And.intro (W39.dec_ok h12) (And.intro (decide_eq_false h13) (And.intro (W34.dec_ok h14) (And.intro (decide_eq_false h13) (And.intro (decide_eq_false h13) (And.intro (decide_eq_false h13) (And.intro (decide_eq_false h13) (And.intro (decide_eq_true h15) (And.intro (decide_eq_false h13) (And.intro (W34.dec_ok h16) (And.intro (decide_eq_false h13) (And.intro (decide_eq_true h10) (And.intro (decide_eq_false h13) (And.intro (decide_eq_true h10) (And.intro (Eq.refl ([⟨0, [], []⟩, ⟨1, [6], []⟩, ⟨2, [], []⟩, ⟨3, [], []⟩, ⟨4, [], []⟩, ⟨5, [6], []⟩, ⟨6, [6], []⟩, ⟨7, [6], []⟩, ⟨8, [], []⟩, ⟨9, [], []⟩, ⟨10, [], []⟩, ⟨11, [], []⟩, ⟨12, [6], []⟩, ⟨13, [6], []⟩, ⟨14, [6], []⟩, ⟨15, [], []⟩, ⟨16, [], []⟩, ⟨17, [2], []⟩, ⟨18, [2], []⟩, ⟨19, [1], []⟩, ⟨20, [1], []⟩, ⟨21, [], []⟩, ⟨22, [], []⟩, ⟨23, [], []⟩] : List Foot)) (And.intro (Bool.eq_false_iff.mpr h17) (And.intro (decide_eq_true h18) (And.intro (decide_eq_true h18) (And.intro (decide_eq_true h18) (And.intro (decide_eq_true h18) (And.intro (decide_eq_false h19) (And.intro (decide_eq_false h19) (And.intro (decide_eq_false h19) (And.intro (decide_eq_false h19) (And.intro (decide_eq_false h19) (And.intro (decide_eq_false h19) (And.intro (decide_eq_false h19) (And.intro (decide_eq_false h19) (And.intro (decide_eq_false h19) (And.intro (Eq.refl ([⟨0, [], []⟩, ⟨1, [], []⟩, ⟨2, [], []⟩, ⟨3, [], []⟩, ⟨4, [7], []⟩, ⟨5, [], []⟩, ⟨6, [], []⟩, ⟨7, [], []⟩, ⟨8, [], []⟩, ⟨9, [], []⟩, ⟨10, [], []⟩, ⟨11, [], []⟩, ⟨12, [], []⟩, ⟨13, [], []⟩, ⟨14, [], []⟩, ⟨15, [], []⟩, ⟨16, [], []⟩, ⟨17, [], []⟩, ⟨18, [], []⟩, ⟨19, [], []⟩, ⟨20, [], []⟩, ⟨21, [], []⟩, ⟨22, [], []⟩, ⟨23, [], []⟩, ⟨24, [], []⟩, ⟨25, [], []⟩, ⟨26, [], []⟩, ⟨27, [], []⟩, ⟨28, [], []⟩, ⟨29, [], []⟩, ⟨30, [], []⟩, ⟨31, [], []⟩, ⟨32, [], []⟩, ⟨33, [], []⟩, ⟨34, [], []⟩, ⟨35, [], []⟩, ⟨36, [], []⟩, ⟨37, [], []⟩] : List Foot)) (And.intro h20 True.intro)))))))))))))))))))))))))))))))))))))))))))))))))))))))
                                · skip
                                  obtain ⟨r19, h19, h⟩ := Option.bind_eq_some_iff.mp h
                                  have h19 := F30_ok (m + 0) r19 h19
                                  cases r19 with
                                  | a0 b975 =>
                                    cases h
                                    exact call_pathL (gs := [.an (V.agg [vb b952, V.hs 1 0 k953]) [Ob.cells true false 2 [[V.list 1 l954, i64 z955]], Ob.cells true true 2 l956], .a, .a, .a, .t, .a, .an (V.hs 0 0 k957) [Ob.cells true true 2 l958], .a, .an (V.hs 0 0 k959) [Ob.cells true true 2 l960], .t, .t, .an (vb b961) [], .f, .a, .an (V.hs 0 0 k962) [Ob.cells true true 2 l963], .a, .an (V.hs 0 0 k964) [Ob.cells true true 2 l965], .t, .t, .t, .t, .t, .el (W39.cells e966), .t, .t, .t, .f, .f, .t, .f, .f, .el (W39.cells e966), .f, .a, .el (W34.cells e967), .f, .f, .f, .a, .f, .t, .f, .el (W34.cells e968), .f, .t, .f, .t, .ft [⟨0, [], []⟩, ⟨1, [6], []⟩, ⟨2, [], []⟩, ⟨3, [], []⟩, ⟨4, [], []⟩, ⟨5, [6], []⟩, ⟨6, [6], []⟩, ⟨7, [6], []⟩, ⟨8, [], []⟩, ⟨9, [], []⟩, ⟨10, [], []⟩, ⟨11, [], []⟩, ⟨12, [6], []⟩, ⟨13, [6], []⟩, ⟨14, [6], []⟩, ⟨15, [], []⟩, ⟨16, [], []⟩, ⟨17, [2], []⟩, ⟨18, [2], []⟩, ⟨19, [1], []⟩, ⟨20, [1], []⟩, ⟨21, [], []⟩, ⟨22, [], []⟩, ⟨23, [], []⟩], .f, .f, .f, .f, .f, .a, .a, .a, .a, .a, .a, .a, .a, .a, .ft [⟨0, [], []⟩, ⟨1, [], []⟩, ⟨2, [], []⟩, ⟨3, [], []⟩, ⟨4, [], []⟩, ⟨5, [], []⟩, ⟨6, [], []⟩, ⟨7, [], []⟩, ⟨8, [], []⟩, ⟨9, [], []⟩, ⟨10, [], []⟩, ⟨11, [], []⟩, ⟨12, [], []⟩, ⟨13, [], []⟩, ⟨14, [], []⟩, ⟨15, [], []⟩, ⟨16, [], []⟩, ⟨17, [], []⟩, ⟨18, [], []⟩, ⟨19, [], []⟩, ⟨20, [], []⟩, ⟨21, [], []⟩, ⟨22, [], []⟩, ⟨23, [], []⟩, ⟨24, [], []⟩, ⟨25, [], []⟩, ⟨26, [], []⟩, ⟨27, [], []⟩, ⟨28, [], []⟩, ⟨29, [], []⟩, ⟨30, [], []⟩, ⟨31, [], []⟩, ⟨32, [], []⟩, ⟨33, [], []⟩, ⟨34, [], []⟩, ⟨35, [], []⟩, ⟨36, [], []⟩, ⟨37, [], []⟩], .a, .an (vb b975) []]) (notIn []) rfl rfl (by kernel_rfl) (And.intro h0 (And.intro (decide_eq_true h1) (And.intro h2 (And.intro h3 (And.intro (decide_eq_true h4) (And.intro (decide_eq_true h5) (And.intro h6 (And.intro (Bool.eq_false_iff.mpr h7) (And.intro h8 (And.intro h9 (And.intro (decide_eq_true h10) (And.intro (decide_eq_true h10) (And.intro (decide_eq_true h11) (And.intro (decide_eq_true h10) (And.intro (decide_eq_true h10) (And.intro (W39.dec_ok h12) (And.intro (decide_eq_true h10) (And.intro (decide_eq_true h10) (And.intro (decide_eq_true h10) (And.intro (decide_eq_false h13) (And.intro (decide_eq_false h13) (And.intro (decide_eq_true h11) (And.intro (decide_eq_false h13) (And.intro (decide_eq_false h13) (And.intro (W39.dec_ok h12) (And.intro (decide_eq_false h13) (And.intro (W34.dec_ok h14) (And.intro (decide_eq_false h13) (And.intro (decide_eq_false h13) (And.intro (decide_eq_false h13) (And.intro (decide_eq_false h13) (And.intro (decide_eq_true h15) (And.intro (decide_eq_false h13) (And.intro (W34.dec_ok h16) (And.intro (decide_eq_false h13) (And.intro (decide_eq_true h10) (And.intro (decide_eq_false h13) (And.intro (decide_eq_true h10) (And.intro (Eq.refl ([⟨0, [], []⟩, ⟨1, [6], []⟩, ⟨2, [], []⟩, ⟨3, [], []⟩, ⟨4, [], []⟩, ⟨5, [6], []⟩, ⟨6, [6], []⟩, ⟨7, [6], []⟩, ⟨8, [], []⟩, ⟨9, [], []⟩, ⟨10, [], []⟩, ⟨11, [], []⟩, ⟨12, [6], []⟩, ⟨13, [6], []⟩, ⟨14, [6], []⟩, ⟨15, [], []⟩, ⟨16, [], []⟩, ⟨17, [2], []⟩, ⟨18, [2], []⟩, ⟨19, [1], []⟩, ⟨20, [1], []⟩, ⟨21, [], []⟩, ⟨22, [], []⟩, ⟨23, [], []⟩] : List Foot)) (And.intro (Bool.eq_false_iff.mpr h17) (And.intro (decide_eq_false h18) (And.intro (decide_eq_false h18) (And.intro (decide_eq_false h18) (And.intro (decide_eq_false h18) (And.intro (Eq.refl ([⟨0, [], []⟩, ⟨1, [], []⟩, ⟨2, [], []⟩, ⟨3, [], []⟩, ⟨4, [], []⟩, ⟨5, [], []⟩, ⟨6, [], []⟩, ⟨7, [], []⟩, ⟨8, [], []⟩, ⟨9, [], []⟩, ⟨10, [], []⟩, ⟨11, [], []⟩, ⟨12, [], []⟩, ⟨13, [], []⟩, ⟨14, [], []⟩, ⟨15, [], []⟩, ⟨16, [], []⟩, ⟨17, [], []⟩, ⟨18, [], []⟩, ⟨19, [], []⟩, ⟨20, [], []⟩, ⟨21, [], []⟩, ⟨22, [], []⟩, ⟨23, [], []⟩, ⟨24, [], []⟩, ⟨25, [], []⟩, ⟨26, [], []⟩, ⟨27, [], []⟩, ⟨28, [], []⟩, ⟨29, [], []⟩, ⟨30, [], []⟩, ⟨31, [], []⟩, ⟨32, [], []⟩, ⟨33, [], []⟩, ⟨34, [], []⟩, ⟨35, [], []⟩, ⟨36, [], []⟩, ⟨37, [], []⟩] : List Foot)) (And.intro h19 True.intro))))))))))))))))))))))))))))))))))))))))))))))
                            · skip
                              cases h
                        · skip
                          cases h
                      · skip
                        rcases ite_eq h with ⟨h11, h⟩ | ⟨h11, h⟩
                        · skip
                          rcases ite_eq h with ⟨h12, h⟩ | ⟨h12, h⟩
                          · skip
                            rcases ite_eq h with ⟨h13, h⟩ | ⟨h13, h⟩
                            · skip
                              obtain ⟨e976, h14, h⟩ := Option.bind_eq_some_iff.mp h
                              rcases ite_eq h with ⟨h15, h⟩ | ⟨h15, h⟩
                              · skip
                                cases h
                              · skip
                                rcases ite_eq h with ⟨h16, h⟩ | ⟨h16, h⟩
                                · skip
                                  obtain ⟨e977, h17, h⟩ := Option.bind_eq_some_iff.mp h
                                  rcases ite_eq h with ⟨h18, h⟩ | ⟨h18, h⟩
                                  · skip
                                    obtain ⟨e978, h19, h⟩ := Option.bind_eq_some_iff.mp h
                                    rcases ite_eq h with ⟨h20, h⟩ | ⟨h20, h⟩
                                    · skip
                                      cases h
                                    · skip
                                      obtain ⟨r21, h21, h⟩ := Option.bind_eq_some_iff.mp h
                                      have h21 := F30_ok (m + 0) r21 h21
                                      cases r21 with
                                      | a0 b979 =>
                                        cases h
                                        exact call_pathL (gs := [.an (V.agg [vb b952, V.hs 1 0 k953]) [Ob.cells true false 2 [[V.list 1 l954, i64 z955]], Ob.cells true true 2 l956], .a, .a, .a, .t, .a, .an (V.hs 0 0 k957) [Ob.cells true true 2 l958], .a, .an (V.hs 0 0 k959) [Ob.cells true true 2 l960], .t, .t, .an (vb b961) [], .f, .a, .an (V.hs 0 0 k962) [Ob.cells true true 2 l963], .a, .an (V.hs 0 0 k964) [Ob.cells true true 2 l965], .f, .f, .f, .f, .f, .f, .f, .f, .f, .ft [⟨0, [], []⟩, ⟨1, [6], []⟩, ⟨2, [], []⟩, ⟨3, [], []⟩, ⟨4, [], []⟩, ⟨5, [], []⟩, ⟨6, [], []⟩, ⟨7, [], []⟩, ⟨8, [], []⟩, ⟨9, [], []⟩, ⟨10, [], []⟩, ⟨11, [], []⟩, ⟨12, [], []⟩, ⟨13, [], []⟩, ⟨14, [], []⟩, ⟨15, [], []⟩, ⟨16, [], []⟩, ⟨17, [], []⟩, ⟨18, [], []⟩, ⟨19, [], []⟩, ⟨20, [], []⟩, ⟨21, [], []⟩, ⟨22, [], []⟩, ⟨23, [], []⟩], .a, .t, .t, .t, .t, .t, .t, .t, .t, .t, .el (W39.cells e976), .t, .t, .t, .f, .f, .t, .f, .f, .el (W39.cells e976), .f, .f, .t, .f, .f, .el (W39.cells e976), .f, .f, .f, .t, .el (W34.cells e977), .f, .f, .f, .a, .f, .f, .a, .f, .f, .f, .t, .f, .el (W34.cells e978), .f, .t, .f, .t, .ft [⟨0, [], []⟩, ⟨1, [], []⟩, ⟨2, [], []⟩, ⟨3, [], []⟩, ⟨4, [7], []⟩, ⟨5, [], []⟩, ⟨6, [], []⟩, ⟨7, [], []⟩, ⟨8, [], []⟩, ⟨9, [7], []⟩, ⟨10, [7], []⟩, ⟨11, [7], []⟩, ⟨12, [], []⟩, ⟨13, [], []⟩, ⟨14, [], []⟩, ⟨15, [], []⟩, ⟨16, [7], []⟩, ⟨17, [7], []⟩, ⟨18, [7], []⟩, ⟨19, [], []⟩, ⟨20, [7], []⟩, ⟨21, [7], []⟩, ⟨22, [7], []⟩, ⟨23, [], []⟩, ⟨24, [], []⟩, ⟨25, [], []⟩, ⟨26, [], []⟩, ⟨27, [2], []⟩, ⟨28, [2], []⟩, ⟨29, [2], []⟩, ⟨30, [2], []⟩, ⟨31, [1], []⟩, ⟨32, [], []⟩, ⟨33, [1], []⟩, ⟨34, [1], []⟩, ⟨35, [], []⟩, ⟨36, [], []⟩, ⟨37, [], []⟩], .f, .an (vb b979) []]) (notIn []) rfl rfl (by kernel_rfl) (And.intro h0 (And.intro (decide_eq_true h1) (And.intro h2 (And.intro h3 (And.intro (decide_eq_true h4) (And.intro (decide_eq_true h5) (And.intro h6 (And.intro (Bool.eq_false_iff.mpr h7) (And.intro h8 (And.intro h9 (And.intro (decide_eq_false h10) (And.intro (decide_eq_false h10) (And.intro (decide_eq_false h10) (And.intro (decide_eq_false h10) (And.intro (decide_eq_false h10) (And.intro (decide_eq_false h10) (And.intro (decide_eq_false h10) (And.intro (decide_eq_false h10) (And.intro (decide_eq_false h10) (And.intro (Eq.refl ([⟨0, [], []⟩, ⟨1, [6], []⟩, ⟨2, [], []⟩, ⟨3, [], []⟩, ⟨4, [], []⟩, ⟨5, [], []⟩, ⟨6, [], []⟩, ⟨7, [], []⟩, ⟨8, [], []⟩, ⟨9, [], []⟩, ⟨10, [], []⟩, ⟨11, [], []⟩, ⟨12, [], []⟩, ⟨13, [], []⟩, ⟨14, [], []⟩, ⟨15, [], []⟩, ⟨16, [], []⟩, ⟨17, [], []⟩, ⟨18, [], []⟩, ⟨19, [], []⟩, ⟨20, [], []⟩, ⟨21, [], []⟩, ⟨22, [], []⟩, ⟨23, [], []⟩] : List Foot)) (And.intro (decide_eq_true h11) (And.intro (decide_eq_true h11) (And.intro (decide_eq_true h11) (And.intro (decide_eq_true h11) (And.intro (decide_eq_true h12) (And.intro (decide_eq_true h12) (And.intro (decide_eq_true h13) (And.intro (decide_eq_true h12) (And.intro (decide_eq_true h12) (And.intro (W39.dec_ok h14) (And.intro (decide_eq_true h12) (And.intro (decide_eq_true h12) (And.intro (decide_eq_true h12) (And.intro (Bool.eq_false_iff.mpr h15) (And.intro (Bool.eq_false_iff.mpr h15) (And.intro (decide_eq_true h13) (And.intro (Bool.eq_false_iff.mpr h15) (And.intro (Bool.eq_false_iff.mpr h15) (And.intro (W39.dec_ok h14) (And.intro (Bool.eq_false_iff.mpr h15) (And.intro (Bool.eq_false_iff.mpr h15) (And.intro (decide_eq_true h13) (And.intro (Bool.eq_false_iff.mpr h15) (And.intro (Bool.eq_false_iff.mpr h15) (And.intro (W39.dec_ok h14) (And.intro (Bool.eq_false_iff.mpr h15) (And.intro (Bool.eq_false_iff.mpr h15) (And.intro (Bool.eq_false_iff.mpr h15) (And.intro (decide_eq_true h16) (And.intro (W34.dec_ok h17) (And.intro (Bool.eq_false_iff.mpr h15) (And.intro (Bool.eq_false_iff.mpr h15) (And.intro (Bool.eq_false_iff.mpr h15) (And.intro (Bool.eq_false_iff.mpr h15) (And.intro (Bool.eq_false_iff.mpr h15) (And.intro (Bool.eq_false_iff.mpr h15) (And.intro (Bool.eq_false_iff.mpr h15) (And.intro (Bool.eq_false_iff.mpr h15) (And.intro (decide_eq_true h18) (And.intro (Bool.eq_false_iff.mpr h15) (And.intro (W34.dec_ok h19) (And.intro (Bool.eq_false_iff.mpr h15) (And.intro (decide_eq_true h12) (And.intro (Bool.eq_false_iff.mpr h15) (And.intro (decide_eq_true h12) (And.intro (Eq.refl ([⟨0, [], []⟩, ⟨1, [], []⟩, ⟨2, [], []⟩, ⟨3, [], []⟩, ⟨4, [7], []⟩, ⟨5, [], []⟩, ⟨6, [], []⟩, ⟨7, [], []⟩, ⟨8, [], []⟩, ⟨9, [7], []⟩, ⟨10, [7], []⟩, ⟨11, [7], []⟩, ⟨12, [], []⟩, ⟨13, [], []⟩, ⟨14, [], []⟩, ⟨15, [], []⟩, ⟨16, [7], []⟩, ⟨17, [7], []⟩, ⟨18, [7], []⟩, ⟨19, [], []⟩, ⟨20, [7], []⟩, ⟨21, [7], []⟩, ⟨22, [7], []⟩, ⟨23, [], []⟩, ⟨24, [], []⟩, ⟨25, [], []⟩, ⟨26, [], []⟩, ⟨27, [2], []⟩, ⟨28, [2], []⟩, ⟨29, [2], []⟩, ⟨30, [2], []⟩, ⟨31, [1], []⟩, ⟨32, [], []⟩, ⟨33, [1], []⟩, ⟨34, [1], []⟩, ⟨35, [], []⟩, ⟨36, [], []⟩, ⟨37, [], []⟩] : List Foot)) (And.intro (Bool.eq_false_iff.mpr h20) (And.intro h21 True.intro))))))))))))))))))))))))))))))))))))))))))))))))))))))))))))))))))))
                                  · skip
                                    cases h
                                · skip
                                  cases h
                            · skip
                              cases h
                          · skip
                            obtain ⟨r13, h13, h⟩ := Option.bind_eq_some_iff.mp h
                            have h13 := F30_ok (m + 0) r13 h13
                            cases r13 with
                            | a0 b980 =>
                              cases h
                              exact call_pathL (gs := [.an (V.agg [vb b952, V.hs 1 0 k953]) [Ob.cells true false 2 [[V.list 1 l954, i64 z955]], Ob.cells true true 2 l956], .a, .a, .a, .t, .a, .an (V.hs 0 0 k957) [Ob.cells true true 2 l958], .a, .an (V.hs 0 0 k959) [Ob.cells true true 2 l960], .t, .t, .an (vb b961) [], .f, .a, .an (V.hs 0 0 k962) [Ob.cells true true 2 l963], .a, .an (V.hs 0 0 k964) [Ob.cells true true 2 l965], .f, .f, .f, .f, .f, .f, .f, .f, .f, .ft [⟨0, [], []⟩, ⟨1, [6], []⟩, ⟨2, [], []⟩, ⟨3, [], []⟩, ⟨4, [], []⟩, ⟨5, [], []⟩, ⟨6, [], []⟩, ⟨7, [], []⟩, ⟨8, [], []⟩, ⟨9, [], []⟩, ⟨10, [], []⟩, ⟨11, [], []⟩, ⟨12, [], []⟩, ⟨13, [], []⟩, ⟨14, [], []⟩, ⟨15, [], []⟩, ⟨16, [], []⟩, ⟨17, [], []⟩, ⟨18, [], []⟩, ⟨19, [], []⟩, ⟨20, [], []⟩, ⟨21, [], []⟩, ⟨22, [], []⟩, ⟨23, [], []⟩], .a, .t, .t, .t, .t, .f, .f, .f, .f, .f, .f, .f, .f, .f, .ft [⟨0, [], []⟩, ⟨1, [], []⟩, ⟨2, [], []⟩, ⟨3, [], []⟩, ⟨4, [7], []⟩, ⟨5, [], []⟩, ⟨6, [], []⟩, ⟨7, [], []⟩, ⟨8, [], []⟩, ⟨9, [], []⟩, ⟨10, [], []⟩, ⟨11, [], []⟩, ⟨12, [], []⟩, ⟨13, [], []⟩, ⟨14, [], []⟩, ⟨15, [], []⟩, ⟨16, [], []⟩, ⟨17, [], []⟩, ⟨18, [], []⟩, ⟨19, [], []⟩, ⟨20, [], []⟩, ⟨21, [], []⟩, ⟨22, [], []⟩, ⟨23, [], []⟩, ⟨24, [], []⟩, ⟨25, [], []⟩, ⟨26, [], []⟩, ⟨27, [], []⟩, ⟨28, [], []⟩, ⟨29, [], []⟩, ⟨30, [], []⟩, ⟨31, [], []⟩, ⟨32, [], []⟩, ⟨33, [], []⟩, ⟨34, [], []⟩, ⟨35, [], []⟩, ⟨36, [], []⟩, ⟨37, [], []⟩], .a, .an (vb b980) []]) (notIn []) rfl rfl (by kernel_rfl) (And.intro h0 (And.intro (decide_eq_true h1) (And.intro h2 (And.intro h3 (And.intro (decide_eq_true h4) (And.intro (decide_eq_true h5) (And.intro h6 (And.intro (Bool.eq_false_iff.mpr h7) (And.intro h8 (And.intro h9 (And.intro (decide_eq_false h10) (And.intro (decide_eq_false h10) (And.intro (decide_eq_false h10) (And.intro (decide_eq_false h10) (And.intro (decide_eq_false h10) (And.intro (decide_eq_false h10) (And.intro (decide_eq_false h10) (And.intro (decide_eq_false h10) (And.intro (decide_eq_false h10) (And.intro (Eq.refl ([⟨0, [], []⟩, ⟨1, [6], []⟩, ⟨2, [], []⟩, ⟨3, [], []⟩, ⟨4, [], []⟩, ⟨5, [], []⟩, ⟨6, [], []⟩, ⟨7, [], []⟩, ⟨8, [], []⟩, ⟨9, [], []⟩, ⟨10, [], []⟩, ⟨11, [], []⟩, ⟨12, [], []⟩, ⟨13, [], []⟩, ⟨14, [], []⟩, ⟨15, [], []⟩, ⟨16, [], []⟩, ⟨17, [], []⟩, ⟨18, [], []⟩, ⟨19, [], []⟩, ⟨20, [], []⟩, ⟨21, [], []⟩, ⟨22, [], []⟩, ⟨23, [], []⟩] : List Foot)) (And.intro (decide_eq_true h11) (And.intro (decide_eq_true h11) (And.intro (decide_eq_true h11) (And.intro (decide_eq_true h11) (And.intro (decide_eq_false h12) (And.intro (decide_eq_false h12) (And.intro (decide_eq_false h12) (And.intro (decide_eq_false h12) (And.intro (decide_eq_false h12) (And.intro (decide_eq_false h12) (And.intro (decide_eq_false h12) (And.intro (decide_eq_false h12) (And.intro (decide_eq_false h12) (And.intro (Eq.refl ([⟨0, [], []⟩, ⟨1, [], []⟩, ⟨2, [], []⟩, ⟨3, [], []⟩, ⟨4, [7], []⟩, ⟨5, [], []⟩, ⟨6, [], []⟩, ⟨7, [], []⟩, ⟨8, [], []⟩, ⟨9, [], []⟩, ⟨10, [], []⟩, ⟨11, [], []⟩, ⟨12, [], []⟩, ⟨13, [], []⟩, ⟨14, [], []⟩, ⟨15, [], []⟩, ⟨16, [], []⟩, ⟨17, [], []⟩, ⟨18, [], []⟩, ⟨19, [], []⟩, ⟨20, [], []⟩, ⟨21, [], []⟩, ⟨22, [], []⟩, ⟨23, [], []⟩, ⟨24, [], []⟩, ⟨25, [], []⟩, ⟨26, [], []⟩, ⟨27, [], []⟩, ⟨28, [], []⟩, ⟨29, [], []⟩, ⟨30, [], []⟩, ⟨31, [], []⟩, ⟨32, [], []⟩, ⟨33, [], []⟩, ⟨34, [], []⟩, ⟨35, [], []⟩, ⟨36, [], []⟩, ⟨37, [], []⟩] : List Foot)) (And.intro h13 True.intro)))))))))))))))))))))))))))))))))))
                        · skip
                          obtain ⟨r12, h12, h⟩ := Option.bind_eq_some_iff.mp h
                          have h12 := F30_ok (m + 0) r12 h12
                          cases r12 with
                          | a0 b981 =>
                            cases h
                            exact call_pathL (gs := [.an (V.agg [vb b952, V.hs 1 0 k953]) [Ob.cells true false 2 [[V.list 1 l954, i64 z955]], Ob.cells true true 2 l956], .a, .a, .a, .t, .a, .an (V.hs 0 0 k957) [Ob.cells true true 2 l958], .a, .an (V.hs 0 0 k959) [Ob.cells true true 2 l960], .t, .t, .an (vb b961) [], .f, .a, .an (V.hs 0 0 k962) [Ob.cells true true 2 l963], .a, .an (V.hs 0 0 k964) [Ob.cells true true 2 l965], .f, .f, .f, .f, .f, .f, .f, .f, .f, .ft [⟨0, [], []⟩, ⟨1, [6], []⟩, ⟨2, [], []⟩, ⟨3, [], []⟩, ⟨4, [], []⟩, ⟨5, [], []⟩, ⟨6, [], []⟩, ⟨7, [], []⟩, ⟨8, [], []⟩, ⟨9, [], []⟩, ⟨10, [], []⟩, ⟨11, [], []⟩, ⟨12, [], []⟩, ⟨13, [], []⟩, ⟨14, [], []⟩, ⟨15, [], []⟩, ⟨16, [], []⟩, ⟨17, [], []⟩, ⟨18, [], []⟩, ⟨19, [], []⟩, ⟨20, [], []⟩, ⟨21, [], []⟩, ⟨22, [], []⟩, ⟨23, [], []⟩], .a, .f, .f, .f, .f, .a, .a, .a, .a, .a, .a, .a, .a, .a, .ft [⟨0, [], []⟩, ⟨1, [], []⟩, ⟨2, [], []⟩, ⟨3, [], []⟩, ⟨4, [], []⟩, ⟨5, [], []⟩, ⟨6, [], []⟩, ⟨7, [], []⟩, ⟨8, [], []⟩, ⟨9, [], []⟩, ⟨10, [], []⟩, ⟨11, [], []⟩, ⟨12, [], []⟩, ⟨13, [], []⟩, ⟨14, [], []⟩, ⟨15, [], []⟩, ⟨16, [], []⟩, ⟨17, [], []⟩, ⟨18, [], []⟩, ⟨19, [], []⟩, ⟨20, [], []⟩, ⟨21, [], []⟩, ⟨22, [], []⟩, ⟨23, [], []⟩, ⟨24, [], []⟩, ⟨25, [], []⟩, ⟨26, [], []⟩, ⟨27, [], []⟩, ⟨28, [], []⟩, ⟨29, [], []⟩, ⟨30, [], []⟩, ⟨31, [], []⟩, ⟨32, [], []⟩, ⟨33, [], []⟩, ⟨34, [], []⟩, ⟨35, [], []⟩, ⟨36, [], []⟩, ⟨37, [], []⟩], .a, .an (vb b981) []]) (notIn []) rfl rfl (by kernel_rfl) (And.intro h0 (And.intro (decide_eq_true h1) (And.intro h2 (And.intro h3 (And.intro (decide_eq_true h4) (And.intro (decide_eq_true h5) (And.intro h6 (And.intro (Bool.eq_false_iff.mpr h7) (And.intro h8 (And.intro h9 (And.intro (decide_eq_false h10) (And.intro (decide_eq_false h10) (And.intro (decide_eq_false h10) (And.intro (decide_eq_false h10) (And.intro (decide_eq_false h10) (And.intro (decide_eq_false h10) (And.intro (decide_eq_false h10) (And.intro (decide_eq_false h10) (And.intro (decide_eq_false h10) (And.intro (Eq.refl ([⟨0, [], []⟩, ⟨1, [6], []⟩, ⟨2, [], []⟩, ⟨3, [], []⟩, ⟨4, [], []⟩, ⟨5, [], []⟩, ⟨6, [], []⟩, ⟨7, [], []⟩, ⟨8, [], []⟩, ⟨9, [], []⟩, ⟨10, [], []⟩, ⟨11, [], []⟩, ⟨12, [], []⟩, ⟨13, [], []⟩, ⟨14, [], []⟩, ⟨15, [], []⟩, ⟨16, [], []⟩, ⟨17, [], []⟩, ⟨18, [], []⟩, ⟨19, [], []⟩, ⟨20, [], []⟩, ⟨21, [], []⟩, ⟨22, [], []⟩, ⟨23, [], []⟩] : List Foot)) (And.intro (decide_eq_false h11) (And.intro (decide_eq_false h11) (And.intro (decide_eq_false h11) (And.intro (decide_eq_false h11) (And.intro (Eq.refl ([⟨0, [], []⟩, ⟨1, [], []⟩, ⟨2, [], []⟩, ⟨3, [], []⟩, ⟨4, [], []⟩, ⟨5, [], []⟩, ⟨6, [], []⟩, ⟨7, [], []⟩, ⟨8, [], []⟩, ⟨9, [], []⟩, ⟨10, [], []⟩, ⟨11, [], []⟩, ⟨12, [], []⟩, ⟨13, [], []⟩, ⟨14, [], []⟩, ⟨15, [], []⟩, ⟨16, [], []⟩, ⟨17, [], []⟩, ⟨18, [], []⟩, ⟨19, [], []⟩, ⟨20, [], []⟩, ⟨21, [], []⟩, ⟨22, [], []⟩, ⟨23, [], []⟩, ⟨24, [], []⟩, ⟨25, [], []⟩, ⟨26, [], []⟩, ⟨27, [], []⟩, ⟨28, [], []⟩, ⟨29, [], []⟩, ⟨30, [], []⟩, ⟨31, [], []⟩, ⟨32, [], []⟩, ⟨33, [], []⟩, ⟨34, [], []⟩, ⟨35, [], []⟩, ⟨36, [], []⟩, ⟨37, [], []⟩] : List Foot)) (And.intro h12 True.intro))))))))))))))))))))))))))
            · skip
              cases h
          · skip
            cases h
    · skip
      cases h
/-! ## 77 -/
inductive A77 where
  | a0 (z1013 : Int) (z1014 : Int)
@[reducible] def A77.out : A77 → V × Store
  | .a0 z1013 z1014 => (V.tup [i64 z1013, i64 z1014], [])
def F77 (z1008 : Int) (z1009 : Int) : Option A77 :=
  bnd (F101 (z1008) (0) (65536)) fun z1011 =>
  bnd (F101 (z1009) (0) (65536)) fun z1012 =>
  some (A77.a0 (if z1012 < z1011 then z1012 else z1011) (if z1012 > z1011 then z1012 else z1011))
theorem F77_ok (m : Nat) (z1008 : Int) (z1009 : Int) (r : A77) (h : F77 z1008 z1009 = some r) : call Try.prog X O0 18446744073709551616 (m + 2) 77 ([i64 z1008, i64 z1009]) ([]) = some r.out := by
  unfold F77 at h
  obtain ⟨z1011, h0, h⟩ := bnd_eq h
  obtain ⟨z1012, h1, h⟩ := bnd_eq h
  cases h
  exact call_pathL (gs := [.an (i64 z1011) [], .an (i64 z1012) []]) (notIn []) rfl rfl (by kernel_rfl) (And.intro (F101_ok (m + 0) (z1008) (0) (65536) z1011 h0) (And.intro (F101_ok (m + 0) (z1009) (0) (65536) z1012 h1) True.intro))
/-! ## 102 -/
inductive A102 where
  | a0 (b1032 : Bool) (k1033 : Nat) (l1034 : List (List V))
@[reducible] def A102.out : A102 → V × Store
  | .a0 b1032 k1033 l1034 => (V.agg [vb b1032, V.hs 0 0 k1033], [Ob.cells true true 2 l1034])
def F102 (b1029 : Bool) (l1030 : List (List V)) : Option A102 :=
  if (0 : Nat) ≤ (0 : Nat) ∧ ((0 : Nat) + List.length l1030) * (16 : Nat) ≤ (140737488355328 : Nat) ∧ (0 : Nat) + List.length l1030 ≤ (140737488355328 : Nat) then
   some (A102.a0 (b1029) (0 + List.length l1030) ([] ++ l1030))
  else
   none -- none
theorem F102_ok (m : Nat) (b1029 : Bool) (l1030 : List (List V)) (r : A102) (h : F102 b1029 l1030 = some r) : call Try.prog X O0 18446744073709551616 (m + 1) 102 ([V.agg [vb b1029, V.list 2 l1030]]) ([]) = some r.out := by
  unfold F102 at h
  rcases ite_eq h with ⟨h0, h⟩ | ⟨h0, h⟩
  · skip
    cases h
    exact call_pathL (gs := [.a, .a, .t, .a, .ft [⟨0, [0], []⟩, ⟨1, [0], []⟩, ⟨2, [2], [2]⟩, ⟨3, [0], []⟩, ⟨4, [0], []⟩, ⟨5, [3, 2], [2, 3]⟩, ⟨6, [], []⟩, ⟨7, [1], [1]⟩]]) (notIn []) rfl rfl (by kernel_rfl) (And.intro (decide_eq_true h0) (And.intro (Eq.refl ([⟨0, [0], []⟩, ⟨1, [0], []⟩, ⟨2, [2], [2]⟩, ⟨3, [0], []⟩, ⟨4, [0], []⟩, ⟨5, [3, 2], [2, 3]⟩, ⟨6, [], []⟩, ⟨7, [1], [1]⟩] : List Foot)) True.intro))
  · skip
    cases h
/-! ## 95 -/
inductive A95 where
  | a0 (z1045 : Int) (b1046 : Bool)
@[reducible] def A95.out : A95 → V × Store
  | .a0 z1045 b1046 => (V.tup [V.int IntKind.u64 z1045, vb b1046], [])
def F95 (z1043 : Int) : Option A95 :=
  if z1043 < 0 then
   some (A95.a0 (IntKind.wrap IntKind.u64 (w64 (0 - z1043))) (true))
  else
   some (A95.a0 (IntKind.wrap IntKind.u64 z1043) (false))
theorem F95_ok (m : Nat) (z1043 : Int) (r : A95) (h : F95 z1043 = some r) : call Try.prog X O0 18446744073709551616 (m + 1) 95 ([i64 z1043]) ([]) = some r.out := by
  unfold F95 at h
  rcases ite_eq h with ⟨h0, h⟩ | ⟨h0, h⟩
  · skip
    cases h
    exact call_pathL (gs := [.t]) (notIn []) rfl rfl (by kernel_rfl) (And.intro (decide_eq_true h0) True.intro)
  · skip
    cases h
    exact call_pathL (gs := [.f]) (notIn []) rfl rfl (by kernel_rfl) (And.intro (decide_eq_false h0) True.intro)
/-! ## 123 -/
inductive A123 where
@[reducible] def A123.out : A123 → V × Store
  := fun x => nomatch x
def F123 (z1068 : Int) : Option A123 :=
  if z1068 ≥ 4294967296 then
   if Int.fdiv z1068 4294967296 ≥ 65536 then
    if Int.fdiv (Int.fdiv z1068 4294967296) 65536 ≥ 256 then
     none -- none
    else
     none -- none
   else
    if Int.fdiv z1068 4294967296 ≥ 256 then
     none -- none
    else
     none -- none
  else
   if z1068 ≥ 65536 then
    if Int.fdiv z1068 65536 ≥ 256 then
     none -- none
    else
     none -- none
   else
    if z1068 ≥ 256 then
     none -- none
    else
     none -- none
theorem F123_ok (m : Nat) (z1068 : Int) (r : A123) (h : F123 z1068 = some r) : call Try.prog X O0 18446744073709551616 (m + 1) 123 ([V.int IntKind.u64 z1068]) ([]) = some r.out := by
  unfold F123 at h
  rcases ite_eq h with ⟨h0, h⟩ | ⟨h0, h⟩
  · skip
    rcases ite_eq h with ⟨h1, h⟩ | ⟨h1, h⟩
    · skip
      rcases ite_eq h with ⟨h2, h⟩ | ⟨h2, h⟩
      · skip
        cases h
      · skip
        cases h
    · skip
      rcases ite_eq h with ⟨h2, h⟩ | ⟨h2, h⟩
      · skip
        cases h
      · skip
        cases h
  · skip
    rcases ite_eq h with ⟨h1, h⟩ | ⟨h1, h⟩
    · skip
      rcases ite_eq h with ⟨h2, h⟩ | ⟨h2, h⟩
      · skip
        cases h
      · skip
        cases h
    · skip
      rcases ite_eq h with ⟨h2, h⟩ | ⟨h2, h⟩
      · skip
        cases h
      · skip
        cases h
/-! ## 119 -/
inductive A119 where
@[reducible] def A119.out : A119 → V × Store
  := fun x => nomatch x
def F119 (z1066 : Int) : Option A119 :=
  none -- F123 has no answer
theorem F119_ok (m : Nat) (z1066 : Int) (r : A119) (h : F119 z1066 = some r) : call Try.prog X O0 18446744073709551616 (m + 2) 119 ([V.int IntKind.u64 z1066]) ([]) = some r.out := by
  unfold F119 at h
  cases h
/-! ## 113 -/
inductive A113 where
  | a0 (z1064 : Int) (z1065 : Int)
@[reducible] def A113.out : A113 → V × Store
  | .a0 z1064 z1065 => (V.tup [V.int IntKind.u64 z1064, V.int IntKind.u64 z1065], [])
def F113 (z1060 : Int) (z1061 : Int) (z1062 : Int) : Option A113 :=
  if (z1062 == 0) = true then
   none -- none
  else
   if z1062 ≤ z1060 then
    none -- none
   else
    if (z1060 == 0) = true then
     if z1062 = 0 then
      none -- none
     else
      some (A113.a0 (IntKind.wrap IntKind.u64 (Int.tdiv z1061 z1062)) (Int.tmod z1061 z1062))
    else
     none -- F119 has no answer
theorem F113_ok (m : Nat) (z1060 : Int) (z1061 : Int) (z1062 : Int) (r : A113) (h : F113 z1060 z1061 z1062 = some r) : call Try.prog X O0 18446744073709551616 (m + 3) 113 ([V.int IntKind.u64 z1060, V.int IntKind.u64 z1061, V.int IntKind.u64 z1062]) ([]) = some r.out := by
  unfold F113 at h
  rcases ite_eq h with ⟨h0, h⟩ | ⟨h0, h⟩
  · skip
    cases h
  · skip
    rcases ite_eq h with ⟨h1, h⟩ | ⟨h1, h⟩
    · skip
      cases h
    · skip
      rcases ite_eq h with ⟨h2, h⟩ | ⟨h2, h⟩
      · skip
        rcases ite_eq h with ⟨h3, h⟩ | ⟨h3, h⟩
        · skip
          cases h
        · skip
          cases h
          exact call_pathL (gs := [.f, .f, .t, .f, .f, .ft [⟨0, [], []⟩, ⟨1, [], []⟩, ⟨2, [], []⟩, ⟨3, [], []⟩, ⟨4, [], []⟩, ⟨5, [], []⟩, ⟨6, [], []⟩, ⟨7, [], []⟩]]) (notIn []) rfl rfl (by kernel_rfl) (And.intro (Bool.eq_false_iff.mpr h0) (And.intro (decide_eq_false h1) (And.intro h2 (And.intro (decide_eq_false h3) (And.intro (decide_eq_false h3) (And.intro (Eq.refl ([⟨0, [], []⟩, ⟨1, [], []⟩, ⟨2, [], []⟩, ⟨3, [], []⟩, ⟨4, [], []⟩, ⟨5, [], []⟩, ⟨6, [], []⟩, ⟨7, [], []⟩] : List Foot)) True.intro))))))
      · skip
        cases h
/-! ## 97 -/
inductive A97 where
  | a0 (z1059 : Int)
@[reducible] def A97.out : A97 → V × Store
  | .a0 z1059 => (i64 z1059, [])
def F97 (z1054 : Int) (z1055 : Int) (z1056 : Int) (b1057 : Bool) : Option A97 :=
  if z1054 ≥ z1056 then
   if (b1057) = true then
    some (A97.a0 (-1099511627776))
   else
    some (A97.a0 (1099511627776))
  else
   (F113 (z1054) (z1055) (z1056)).bind fun r => match r with
   | .a0 z1070 z1071 =>
    if (b1057) = true then
     if z1071 > 0 then
      if z1070 < 4611686018427387904 then
       bnd (F74 (w64 (0 - w64 (if 4611686018427387904 < IntKind.wrap IntKind.u64 (z1070 + 1) then 4611686018427387904 else IntKind.wrap IntKind.u64 (z1070 + 1))))) fun z1072 =>
       some (A97.a0 (z1072))
      else
       bnd (F74 (w64 (0 - w64 (if 4611686018427387904 < z1070 then 4611686018427387904 else z1070)))) fun z1073 =>
       some (A97.a0 (z1073))
     else
      bnd (F74 (w64 (0 - w64 (if 4611686018427387904 < z1070 then 4611686018427387904 else z1070)))) fun z1074 =>
      some (A97.a0 (z1074))
    else
     bnd (F74 (w64 (if 4611686018427387904 < z1070 then 4611686018427387904 else z1070))) fun z1075 =>
     some (A97.a0 (z1075))
theorem F97_ok (m : Nat) (z1054 : Int) (z1055 : Int) (z1056 : Int) (b1057 : Bool) (r : A97) (h : F97 z1054 z1055 z1056 b1057 = some r) : call Try.prog X O0 18446744073709551616 (m + 4) 97 ([V.int IntKind.u64 z1054, V.int IntKind.u64 z1055, V.int IntKind.u64 z1056, vb b1057]) ([]) = some r.out := by
  unfold F97 at h
  rcases ite_eq h with ⟨h0, h⟩ | ⟨h0, h⟩
  · skip
    rcases ite_eq h with ⟨h1, h⟩ | ⟨h1, h⟩
    · skip
      cases h
      exact call_pathL (gs := [.t, .t]) (notIn []) rfl rfl (by kernel_rfl) (And.intro (decide_eq_true h0) (And.intro h1 True.intro))
    · skip
      cases h
      exact call_pathL (gs := [.t, .f]) (notIn []) rfl rfl (by kernel_rfl) (And.intro (decide_eq_true h0) (And.intro (Bool.eq_false_iff.mpr h1) True.intro))
  · skip
    obtain ⟨r1, h1, h⟩ := Option.bind_eq_some_iff.mp h
    have h1 := F113_ok (m + 0) (z1054) (z1055) (z1056) r1 h1
    cases r1 with
    | a0 z1070 z1071 =>
      rcases ite_eq h with ⟨h2, h⟩ | ⟨h2, h⟩
      · skip
        rcases ite_eq h with ⟨h3, h⟩ | ⟨h3, h⟩
        · skip
          rcases ite_eq h with ⟨h4, h⟩ | ⟨h4, h⟩
          · skip
            obtain ⟨z1072, h5, h⟩ := bnd_eq h
            cases h
            exact call_pathL (gs := [.f, .an (V.tup [V.int IntKind.u64 z1070, V.int IntKind.u64 z1071]) [], .t, .t, .t, .t, .t, .t, .t, .t, .an (i64 z1072) []]) (notIn []) rfl rfl (by kernel_rfl) (And.intro (decide_eq_false h0) (And.intro h1 (And.intro h2 (And.intro h2 (And.intro h2 (And.intro (decide_eq_true h3) (And.intro (decide_eq_true h3) (And.intro (decide_eq_true h3) (And.intro (decide_eq_true h4) (And.intro h2 (And.intro (F74_ok (m + 1) (w64 (0 - w64 (if 4611686018427387904 < IntKind.wrap IntKind.u64 (z1070 + 1) then 4611686018427387904 else IntKind.wrap IntKind.u64 (z1070 + 1)))) z1072 h5) True.intro)))))))))))
          · skip
            obtain ⟨z1073, h5, h⟩ := bnd_eq h
            cases h
            exact call_pathL (gs := [.f, .an (V.tup [V.int IntKind.u64 z1070, V.int IntKind.u64 z1071]) [], .t, .t, .t, .t, .t, .t, .f, .t, .an (i64 z1073) []]) (notIn []) rfl rfl (by kernel_rfl) (And.intro (decide_eq_false h0) (And.intro h1 (And.intro h2 (And.intro h2 (And.intro h2 (And.intro (decide_eq_true h3) (And.intro (decide_eq_true h3) (And.intro (decide_eq_true h3) (And.intro (decide_eq_false h4) (And.intro h2 (And.intro (F74_ok (m + 1) (w64 (0 - w64 (if 4611686018427387904 < z1070 then 4611686018427387904 else z1070))) z1073 h5) True.intro)))))))))))
        · skip
          obtain ⟨z1074, h4, h⟩ := bnd_eq h
          cases h
          exact call_pathL (gs := [.f, .an (V.tup [V.int IntKind.u64 z1070, V.int IntKind.u64 z1071]) [], .t, .t, .t, .f, .f, .f, .a, .t, .an (i64 z1074) []]) (notIn []) rfl rfl (by kernel_rfl) (And.intro (decide_eq_false h0) (And.intro h1 (And.intro h2 (And.intro h2 (And.intro h2 (And.intro (decide_eq_false h3) (And.intro (decide_eq_false h3) (And.intro (decide_eq_false h3) (And.intro h2 (And.intro (F74_ok (m + 1) (w64 (0 - w64 (if 4611686018427387904 < z1070 then 4611686018427387904 else z1070))) z1074 h4) True.intro))))))))))
      · skip
        obtain ⟨z1075, h3, h⟩ := bnd_eq h
        cases h
        exact call_pathL (gs := [.f, .an (V.tup [V.int IntKind.u64 z1070, V.int IntKind.u64 z1071]) [], .f, .f, .f, .a, .a, .a, .a, .f, .an (i64 z1075) []]) (notIn []) rfl rfl (by kernel_rfl) (And.intro (decide_eq_false h0) (And.intro h1 (And.intro (Bool.eq_false_iff.mpr h2) (And.intro (Bool.eq_false_iff.mpr h2) (And.intro (Bool.eq_false_iff.mpr h2) (And.intro (Bool.eq_false_iff.mpr h2) (And.intro (F74_ok (m + 1) (w64 (if 4611686018427387904 < z1070 then 4611686018427387904 else z1070)) z1075 h3) True.intro)))))))
/-! ## 66 -/
inductive A66 where
  | a0 (z1077 : Int)
@[reducible] def A66.out : A66 → V × Store
  | .a0 z1077 => (i64 z1077, [])
def F66 (z1039 : Int) (z1040 : Int) : Option A66 :=
  bnd (F74 (z1039)) fun z1042 =>
  (F95 (z1042)).bind fun r => match r with
  | .a0 z1047 b1048 =>
   bnd (F74 (z1040)) fun z1049 =>
   (F95 (z1049)).bind fun r => match r with
   | .a0 z1050 b1051 =>
    (F96 (z1047) (z1050)).bind fun r => match r with
    | .a0 z1052 z1053 =>
     (F97 (z1052) (z1053) (65536) (!b1048 == b1051)).bind fun r => match r with
     | .a0 z1076 =>
      some (A66.a0 (z1076))
theorem F66_ok (m : Nat) (z1039 : Int) (z1040 : Int) (r : A66) (h : F66 z1039 z1040 = some r) : call Try.prog X O0 18446744073709551616 (m + 5) 66 ([i64 z1039, i64 z1040]) ([]) = some r.out := by
  unfold F66 at h
  obtain ⟨z1042, h0, h⟩ := bnd_eq h
  obtain ⟨r1, h1, h⟩ := Option.bind_eq_some_iff.mp h
  have h1 := F95_ok (m + 3) (z1042) r1 h1
  cases r1 with
  | a0 z1047 b1048 =>
    obtain ⟨z1049, h2, h⟩ := bnd_eq h
    obtain ⟨r3, h3, h⟩ := Option.bind_eq_some_iff.mp h
    have h3 := F95_ok (m + 3) (z1049) r3 h3
    cases r3 with
    | a0 z1050 b1051 =>
      obtain ⟨r4, h4, h⟩ := Option.bind_eq_some_iff.mp h
      have h4 := F96_ok (m + 3) (z1047) (z1050) r4 h4
      cases r4 with
      | a0 z1052 z1053 =>
        obtain ⟨r5, h5, h⟩ := Option.bind_eq_some_iff.mp h
        have h5 := F97_ok (m + 0) (z1052) (z1053) (65536) (!b1048 == b1051) r5 h5
        cases r5 with
        | a0 z1076 =>
          cases h
          exact call_pathL (gs := [.an (i64 z1042) [], .an (V.tup [V.int IntKind.u64 z1047, vb b1048]) [], .an (i64 z1049) [], .an (V.tup [V.int IntKind.u64 z1050, vb b1051]) [], .an (V.tup [V.int IntKind.u64 z1052, V.int IntKind.u64 z1053]) [], .an (i64 z1076) []]) (notIn []) rfl rfl (by kernel_rfl) (And.intro (F74_ok (m + 2) (z1039) z1042 h0) (And.intro h1 (And.intro (F74_ok (m + 2) (z1040) z1049 h2) (And.intro h3 (And.intro h4 (And.intro h5 True.intro))))))
/-! ## 75 -/
inductive A75 where
  | a0 (z1124 : Int)
@[reducible] def A75.out : A75 → V × Store
  | .a0 z1124 => (i64 z1124, [])
def F75 (z1115 : Int) (z1116 : Int) : Option A75 :=
  bnd (F74 (z1115)) fun z1118 =>
  (F95 (z1118)).bind fun r => match r with
  | .a0 z1119 b1120 =>
   bnd (F74 (z1116)) fun z1121 =>
   (F95 (z1121)).bind fun r => match r with
   | .a0 z1122 b1123 =>
    if (z1122 == 0) = true then
     some (A75.a0 (0))
    else
     (F96 (z1119) (65536)).bind fun r => match r with
     | .a0 z1125 z1126 =>
      (F97 (z1125) (z1126) (z1122) (!b1120 == b1123)).bind fun r => match r with
      | .a0 z1127 =>
       some (A75.a0 (z1127))
theorem F75_ok (m : Nat) (z1115 : Int) (z1116 : Int) (r : A75) (h : F75 z1115 z1116 = some r) : call Try.prog X O0 18446744073709551616 (m + 5) 75 ([i64 z1115, i64 z1116]) ([]) = some r.out := by
  unfold F75 at h
  obtain ⟨z1118, h0, h⟩ := bnd_eq h
  obtain ⟨r1, h1, h⟩ := Option.bind_eq_some_iff.mp h
  have h1 := F95_ok (m + 3) (z1118) r1 h1
  cases r1 with
  | a0 z1119 b1120 =>
    obtain ⟨z1121, h2, h⟩ := bnd_eq h
    obtain ⟨r3, h3, h⟩ := Option.bind_eq_some_iff.mp h
    have h3 := F95_ok (m + 3) (z1121) r3 h3
    cases r3 with
    | a0 z1122 b1123 =>
      rcases ite_eq h with ⟨h4, h⟩ | ⟨h4, h⟩
      · skip
        cases h
        exact call_pathL (gs := [.an (i64 z1118) [], .an (V.tup [V.int IntKind.u64 z1119, vb b1120]) [], .an (i64 z1121) [], .an (V.tup [V.int IntKind.u64 z1122, vb b1123]) [], .t]) (notIn []) rfl rfl (by kernel_rfl) (And.intro (F74_ok (m + 2) (z1115) z1118 h0) (And.intro h1 (And.intro (F74_ok (m + 2) (z1116) z1121 h2) (And.intro h3 (And.intro h4 True.intro)))))
      · skip
        obtain ⟨r5, h5, h⟩ := Option.bind_eq_some_iff.mp h
        have h5 := F96_ok (m + 3) (z1119) (65536) r5 h5
        cases r5 with
        | a0 z1125 z1126 =>
          obtain ⟨r6, h6, h⟩ := Option.bind_eq_some_iff.mp h
          have h6 := F97_ok (m + 0) (z1125) (z1126) (z1122) (!b1120 == b1123) r6 h6
          cases r6 with
          | a0 z1127 =>
            cases h
            exact call_pathL (gs := [.an (i64 z1118) [], .an (V.tup [V.int IntKind.u64 z1119, vb b1120]) [], .an (i64 z1121) [], .an (V.tup [V.int IntKind.u64 z1122, vb b1123]) [], .f, .an (V.tup [V.int IntKind.u64 z1125, V.int IntKind.u64 z1126]) [], .an (i64 z1127) []]) (notIn []) rfl rfl (by kernel_rfl) (And.intro (F74_ok (m + 2) (z1115) z1118 h0) (And.intro h1 (And.intro (F74_ok (m + 2) (z1116) z1121 h2) (And.intro h3 (And.intro (Bool.eq_false_iff.mpr h4) (And.intro h5 (And.intro h6 True.intro)))))))
/-! ## 76 -/
inductive A76 where
  | a0 (z1137 : Int)
@[reducible] def A76.out : A76 → V × Store
  | .a0 z1137 => (i64 z1137, [])
def F76 (z1129 : Int) (z1130 : Int) (z1131 : Int) : Option A76 :=
  bnd (F74 (z1129)) fun z1133 =>
  bnd (F60 (z1130) (w64 (0 - z1133))) fun z1134 =>
  (F66 (z1134) (z1131)).bind fun r => match r with
  | .a0 z1135 =>
   bnd (F60 (z1129) (z1135)) fun z1136 =>
   some (A76.a0 (z1136))
theorem F76_ok (m : Nat) (z1129 : Int) (z1130 : Int) (z1131 : Int) (r : A76) (h : F76 z1129 z1130 z1131 = some r) : call Try.prog X O0 18446744073709551616 (m + 6) 76 ([i64 z1129, i64 z1130, i64 z1131]) ([]) = some r.out := by
  unfold F76 at h
  obtain ⟨z1133, h0, h⟩ := bnd_eq h
  obtain ⟨z1134, h1, h⟩ := bnd_eq h
  obtain ⟨r2, h2, h⟩ := Option.bind_eq_some_iff.mp h
  have h2 := F66_ok (m + 0) (z1134) (z1131) r2 h2
  cases r2 with
  | a0 z1135 =>
    obtain ⟨z1136, h3, h⟩ := bnd_eq h
    cases h
    exact call_pathL (gs := [.an (i64 z1133) [], .an (i64 z1134) [], .an (i64 z1135) [], .an (i64 z1136) []]) (notIn []) rfl rfl (by kernel_rfl) (And.intro (F74_ok (m + 3) (z1129) z1133 h0) (And.intro (F60_ok (m + 2) (z1130) (w64 (0 - z1133)) z1134 h1) (And.intro h2 (And.intro (F60_ok (m + 2) (z1129) (z1135) z1136 h3) True.intro))))
/-! ## 40 -/
inductive A40 where
  | a0 (z1113 : Int) (z1114 : Int)
@[reducible] def A40.out : A40 → V × Store
  | .a0 z1113 z1114 => (V.agg [i64 z1113, i64 z1114], [])
def F40 (z1101 : Int) (z1102 : Int) (z1103 : Int) (z1104 : Int) (z1105 : Int) (z1106 : Int) : Option A40 :=
  (F73 (z1101) (z1102)).bind fun r => match r with
  | .a0 z1108 z1109 =>
   (F73 (z1103) (z1104)).bind fun r => match r with
   | .a0 z1110 z1111 =>
    bnd (F74 (z1105)) fun z1112 =>
    if z1112 ≤ 0 then
     some (A40.a0 (z1108) (z1109))
    else
     if z1112 ≥ z1106 then
      some (A40.a0 (z1110) (z1111))
     else
      (F75 (z1112) (z1106)).bind fun r => match r with
      | .a0 z1128 =>
       (F76 (z1108) (z1110) (z1128)).bind fun r => match r with
       | .a0 z1138 =>
        (F76 (z1109) (z1111) (z1128)).bind fun r => match r with
        | .a0 z1139 =>
         some (A40.a0 (z1138) (z1139))
theorem F40_ok (m : Nat) (z1101 : Int) (z1102 : Int) (z1103 : Int) (z1104 : Int) (z1105 : Int) (z1106 : Int) (r : A40) (h : F40 z1101 z1102 z1103 z1104 z1105 z1106 = some r) : call Try.prog X O0 18446744073709551616 (m + 7) 40 ([V.agg [i64 z1101, i64 z1102], V.agg [i64 z1103, i64 z1104], i64 z1105, i64 z1106]) ([]) = some r.out := by
  unfold F40 at h
  obtain ⟨r0, h0, h⟩ := Option.bind_eq_some_iff.mp h
  have h0 := F73_ok (m + 3) (z1101) (z1102) r0 h0
  cases r0 with
  | a0 z1108 z1109 =>
    obtain ⟨r1, h1, h⟩ := Option.bind_eq_some_iff.mp h
    have h1 := F73_ok (m + 3) (z1103) (z1104) r1 h1
    cases r1 with
    | a0 z1110 z1111 =>
      obtain ⟨z1112, h2, h⟩ := bnd_eq h
      rcases ite_eq h with ⟨h3, h⟩ | ⟨h3, h⟩
      · skip
        cases h
        exact call_pathL (gs := [.a, .an (V.agg [i64 z1108, i64 z1109]) [], .a, .an (V.agg [i64 z1110, i64 z1111]) [], .an (i64 z1112) [], .a, .a, .ft [⟨0, [0], []⟩, ⟨1, [], []⟩, ⟨2, [1], []⟩, ⟨3, [], []⟩, ⟨4, [], []⟩, ⟨5, [], []⟩, ⟨6, [0], [0]⟩, ⟨7, [1], [1]⟩, ⟨8, [], []⟩], .t, .a, .a]) (notIn []) rfl rfl (by kernel_rfl) (And.intro h0 (And.intro h1 (And.intro (F74_ok (m + 4) (z1105) z1112 h2) (And.intro (Eq.refl ([⟨0, [0], []⟩, ⟨1, [], []⟩, ⟨2, [1], []⟩, ⟨3, [], []⟩, ⟨4, [], []⟩, ⟨5, [], []⟩, ⟨6, [0], [0]⟩, ⟨7, [1], [1]⟩, ⟨8, [], []⟩] : List Foot)) (And.intro (decide_eq_true h3) True.intro)))))
      · skip
        rcases ite_eq h with ⟨h4, h⟩ | ⟨h4, h⟩
        · skip
          cases h
          exact call_pathL (gs := [.a, .an (V.agg [i64 z1108, i64 z1109]) [], .a, .an (V.agg [i64 z1110, i64 z1111]) [], .an (i64 z1112) [], .a, .a, .ft [⟨0, [0], []⟩, ⟨1, [], []⟩, ⟨2, [1], []⟩, ⟨3, [], []⟩, ⟨4, [], []⟩, ⟨5, [], []⟩, ⟨6, [0], [0]⟩, ⟨7, [1], [1]⟩, ⟨8, [], []⟩], .f, .t, .a, .a]) (notIn []) rfl rfl (by kernel_rfl) (And.intro h0 (And.intro h1 (And.intro (F74_ok (m + 4) (z1105) z1112 h2) (And.intro (Eq.refl ([⟨0, [0], []⟩, ⟨1, [], []⟩, ⟨2, [1], []⟩, ⟨3, [], []⟩, ⟨4, [], []⟩, ⟨5, [], []⟩, ⟨6, [0], [0]⟩, ⟨7, [1], [1]⟩, ⟨8, [], []⟩] : List Foot)) (And.intro (decide_eq_false h3) (And.intro (decide_eq_true h4) True.intro))))))
        · skip
          obtain ⟨r5, h5, h⟩ := Option.bind_eq_some_iff.mp h
          have h5 := F75_ok (m + 1) (z1112) (z1106) r5 h5
          cases r5 with
          | a0 z1128 =>
            obtain ⟨r6, h6, h⟩ := Option.bind_eq_some_iff.mp h
            have h6 := F76_ok (m + 0) (z1108) (z1110) (z1128) r6 h6
            cases r6 with
            | a0 z1138 =>
              obtain ⟨r7, h7, h⟩ := Option.bind_eq_some_iff.mp h
              have h7 := F76_ok (m + 0) (z1109) (z1111) (z1128) r7 h7
              cases r7 with
              | a0 z1139 =>
                cases h
                exact call_pathL (gs := [.a, .an (V.agg [i64 z1108, i64 z1109]) [], .a, .an (V.agg [i64 z1110, i64 z1111]) [], .an (i64 z1112) [], .a, .a, .ft [⟨0, [0], []⟩, ⟨1, [], []⟩, ⟨2, [1], []⟩, ⟨3, [], []⟩, ⟨4, [], []⟩, ⟨5, [], []⟩, ⟨6, [0], [0]⟩, ⟨7, [1], [1]⟩, ⟨8, [], []⟩], .f, .f, .an (i64 z1128) [], .a, .a, .an (i64 z1138) [], .a, .a, .an (i64 z1139) [], .a, .ft [⟨0, [0], []⟩, ⟨1, [0], []⟩, ⟨2, [1], []⟩, ⟨3, [1], []⟩, ⟨4, [], []⟩, ⟨5, [], []⟩, ⟨6, [0], []⟩, ⟨7, [0], []⟩, ⟨8, [1], []⟩, ⟨9, [1], []⟩, ⟨10, [], []⟩, ⟨11, [], []⟩, ⟨12, [], []⟩, ⟨13, [2], [2]⟩]]) (notIn []) rfl rfl (by kernel_rfl) (And.intro h0 (And.intro h1 (And.intro (F74_ok (m + 4) (z1105) z1112 h2) (And.intro (Eq.refl ([⟨0, [0], []⟩, ⟨1, [], []⟩, ⟨2, [1], []⟩, ⟨3, [], []⟩, ⟨4, [], []⟩, ⟨5, [], []⟩, ⟨6, [0], [0]⟩, ⟨7, [1], [1]⟩, ⟨8, [], []⟩] : List Foot)) (And.intro (decide_eq_false h3) (And.intro (decide_eq_false h4) (And.intro h5 (And.intro h6 (And.intro h7 (And.intro (Eq.refl ([⟨0, [0], []⟩, ⟨1, [0], []⟩, ⟨2, [1], []⟩, ⟨3, [1], []⟩, ⟨4, [], []⟩, ⟨5, [], []⟩, ⟨6, [0], []⟩, ⟨7, [0], []⟩, ⟨8, [1], []⟩, ⟨9, [1], []⟩, ⟨10, [], []⟩, ⟨11, [], []⟩, ⟨12, [], []⟩, ⟨13, [2], [2]⟩] : List Foot)) True.intro))))))))))
/-! ## 70 -/
noncomputable abbrev B70 : Code := (Try.f70.body).getD .skip
inductive R70_0 where
  | e0 (k1190 : Nat) (l1191 : List (List V))
@[reducible] def s70_0_0 (z1182 : Int) (z1183 : Int) (z1184 : Int) (z1185 : Int) (b1186 : Bool) (l1187 : List (List V)) (z1188 : Int) (b1189 : Bool) (k1190 : Nat) (l1191 : List (List V)) : S := { T := U :: i64 z1182 :: i64 z1183 :: V.ptr 0 0 0 :: U :: U :: V.ptr 1 0 0 :: V.ptr 2 0 0 :: i64 z1184 :: i64 z1185 :: un 12 (i64 z1185 :: V.agg [vb b1186, V.list 2 l1187] :: i64 z1188 :: vb b1189 :: un 56 []), σ := [Ob.cells true false 2 [[vb b1186, V.list 2 l1187]], Ob.cells true false 2 [[vb false, V.hs 3 0 0]], Ob.cells true false 2 [[vb false, V.hs 4 0 k1190]], Ob.cells true true 2 [], Ob.cells true true 2 l1191] }
def R70_0.St : R70_0 → VX × S → Prop
  | .e0 k1190 l1191, p => ∃ z1182 : Int, ∃ z1183 : Int, ∃ z1184 : Int, ∃ z1185 : Int, ∃ b1186 : Bool, ∃ l1187 : List (List V), ∃ z1188 : Int, ∃ b1189 : Bool, p = (VX.exit 0, s70_0_0 z1182 z1183 z1184 z1185 b1186 l1187 z1188 b1189 k1190 l1191)
def L70_0 : Nat → Int → Int → Int → Int → Bool → List (List V) → Nat → List (List V) → Option R70_0
  | 0, _, _, _, _, _, _, _, _ => none
  | n + 1, z1144, z1145, z1146, z1147, b1148, l1149, k1150, l1151 =>
    bnd (F58 (b1148) (l1149)) fun z1169 =>
    if z1147 < z1169 then
     (F59 (b1148) (l1149) (z1147)).bind fun r => match r with
     | .a0 z1170 z1171 z1172 z1173 =>
      (F61 (z1170) (z1171) (z1172) (z1173)).bind fun r => match r with
      | .a0 z1174 =>
       bnd (F60 (z1146) (z1174)) fun z1175 =>
       if z1174 > 0 then
        if z1175 > z1144 then
         if z1146 < z1145 then
          if ((↑k1150 : Int) == 0) = true then
           (F40 (z1170) (z1171) (z1172) (z1173) (w64 (z1144 - z1146)) (z1174)).bind fun r => match r with
           | .a0 z1176 z1177 =>
            if 0 + k1150 ≤ List.length l1151 ∧ (k1150 + 1) * 16 ≤ 140737488355328 ∧ k1150 + 1 ≤ 140737488355328 then
             (F40 (z1170) (z1171) (z1172) (z1173) (w64 (z1145 - z1146)) (z1174)).bind fun r => match r with
             | .a0 z1178 z1179 =>
              if 0 + (k1150 + 1) ≤ List.length (List.take k1150 l1151 ++ [[i64 z1176, i64 z1177]]) ∧ (k1150 + 1 + 1) * 16 ≤ 140737488355328 ∧ k1150 + 1 + 1 ≤ 140737488355328 then
               L70_0 n (z1144) (z1145) (z1175) (w64 (z1147 + 1)) (b1148) (l1149) (k1150 + 1 + 1) (List.take (k1150 + 1) (List.take k1150 l1151 ++ [[i64 z1176, i64 z1177]]) ++ [[i64 z1178, i64 z1179]])
              else
               none -- none
            else
             none -- none
          else
           (F40 (z1170) (z1171) (z1172) (z1173) (w64 (z1145 - z1146)) (z1174)).bind fun r => match r with
           | .a0 z1180 z1181 =>
            if 0 + k1150 ≤ List.length l1151 ∧ (k1150 + 1) * 16 ≤ 140737488355328 ∧ k1150 + 1 ≤ 140737488355328 then
             L70_0 n (z1144) (z1145) (z1175) (w64 (z1147 + 1)) (b1148) (l1149) (k1150 + 1) (List.take k1150 l1151 ++ [[i64 z1180, i64 z1181]])
            else
             none -- none
         else
          L70_0 n (z1144) (z1145) (z1175) (w64 (z1147 + 1)) (b1148) (l1149) (k1150) (l1151)
        else
         L70_0 n (z1144) (z1145) (z1175) (w64 (z1147 + 1)) (b1148) (l1149) (k1150) (l1151)
       else
        L70_0 n (z1144) (z1145) (z1175) (w64 (z1147 + 1)) (b1148) (l1149) (k1150) (l1151)
    else
     some (R70_0.e0 (k1150) (l1151))
theorem L70_0_ok (m : Nat) : ∀ (n : Nat) (z1144 : Int) (z1145 : Int) (z1146 : Int) (z1147 : Int) (b1148 : Bool) (l1149 : List (List V)) (k1150 : Nat) (l1151 : List (List V)) (r : R70_0), L70_0 n z1144 z1145 z1146 z1147 b1148 l1149 k1150 l1151 = some r → ∃ st, loopFrom Try.prog X (genO X (call Try.prog X O0 18446744073709551616 (m + 7))) 70 (0) 18446744073709551616 B70 0 n ({ T := U :: i64 z1144 :: i64 z1145 :: V.ptr 0 0 0 :: U :: U :: V.ptr 1 0 0 :: V.ptr 2 0 0 :: i64 z1146 :: i64 z1147 :: un 72 [], σ := [Ob.cells true false 2 [[vb b1148, V.list 2 l1149]], Ob.cells true false 2 [[vb false, V.hs 3 0 0]], Ob.cells true false 2 [[vb false, V.hs 4 0 k1150]], Ob.cells true true 2 [], Ob.cells true true 2 l1151] }) = some st ∧ r.St st
  | 0, _, _, _, _, _, _, _, _, r, h => by cases h
  | n + 1, z1144, z1145, z1146, z1147, b1148, l1149, k1150, l1151, r, h => by
    rw [L70_0] at h
    obtain ⟨z1169, h0, h⟩ := bnd_eq h
    rcases ite_eq h with ⟨h1, h⟩ | ⟨h1, h⟩
    · skip
      obtain ⟨r2, h2, h⟩ := Option.bind_eq_some_iff.mp h
      have h2 := F59_ok (m + 3) (b1148) (l1149) (z1147) r2 h2
      cases r2 with
      | a0 z1170 z1171 z1172 z1173 =>
        obtain ⟨r3, h3, h⟩ := Option.bind_eq_some_iff.mp h
        have h3 := F61_ok (m + 4) (z1170) (z1171) (z1172) (z1173) r3 h3
        cases r3 with
        | a0 z1174 =>
          obtain ⟨z1175, h4, h⟩ := bnd_eq h
          rcases ite_eq h with ⟨h5, h⟩ | ⟨h5, h⟩
          · skip
            rcases ite_eq h with ⟨h6, h⟩ | ⟨h6, h⟩
            · skip
              rcases ite_eq h with ⟨h7, h⟩ | ⟨h7, h⟩
              · skip
                rcases ite_eq h with ⟨h8, h⟩ | ⟨h8, h⟩
                · skip
                  obtain ⟨r9, h9, h⟩ := Option.bind_eq_some_iff.mp h
                  have h9 := F40_ok (m + 0) (z1170) (z1171) (z1172) (z1173) (w64 (z1144 - z1146)) (z1174) r9 h9
                  cases r9 with
                  | a0 z1176 z1177 =>
                    rcases ite_eq h with ⟨h10, h⟩ | ⟨h10, h⟩
                    · skip
                      obtain ⟨r11, h11, h⟩ := Option.bind_eq_some_iff.mp h
                      have h11 := F40_ok (m + 0) (z1170) (z1171) (z1172) (z1173) (w64 (z1145 - z1146)) (z1174) r11 h11
                      cases r11 with
                      | a0 z1178 z1179 =>
                        rcases ite_eq h with ⟨h12, h⟩ | ⟨h12, h⟩
                        · skip
                          obtain ⟨st, hs, hr⟩ := L70_0_ok m n (z1144) (z1145) (z1175) (w64 (z1147 + 1)) (b1148) (l1149) (k1150 + 1 + 1) (List.take (k1150 + 1) (List.take k1150 l1151 ++ [[i64 z1176, i64 z1177]]) ++ [[i64 z1178, i64 z1179]]) r h
                          exact ⟨st, (round_on (gs := [.a, .an (i64 z1169) [], .t, .a, .an (V.tup [V.agg [i64 z1170, i64 z1171], V.agg [i64 z1172, i64 z1173]]) [], .a, .a, .a, .a, .an (i64 z1174) [], .an (i64 z1175) [], .t, .t, .t, .t, .t, .t, .t, .t, .t, .a, .t, .a, .a, .a, .an (V.agg [i64 z1176, i64 z1177]) [], .a, .t, .a, .ft [⟨0, [2], []⟩, ⟨1, [2], []⟩, ⟨2, [8], []⟩, ⟨3, [9], []⟩, ⟨4, [], []⟩, ⟨5, [], []⟩, ⟨6, [], []⟩, ⟨7, [], []⟩, ⟨8, [], []⟩, ⟨9, [10], [10]⟩, ⟨10, [10, 11, 4], [4, 11]⟩, ⟨11, [2], []⟩, ⟨12, [2], [2]⟩], .a, .a, .a, .an (V.agg [i64 z1178, i64 z1179]) [], .a, .t, .a, .ft [⟨0, [2], []⟩, ⟨1, [2], []⟩, ⟨2, [8], []⟩, ⟨3, [9], []⟩, ⟨4, [], []⟩, ⟨5, [], []⟩, ⟨6, [], []⟩, ⟨7, [], []⟩, ⟨8, [], []⟩, ⟨9, [12], [12]⟩, ⟨10, [12, 13, 11], [11, 13]⟩, ⟨11, [2], []⟩, ⟨12, [2], [2]⟩]]) (notIn []) (by kernel_rfl) (And.intro (F58_ok (m + 6) (b1148) (l1149) z1169 h0) (And.intro (decide_eq_true h1) (And.intro h2 (And.intro h3 (And.intro (F60_ok (m + 4) (z1146) (z1174) z1175 h4) (And.intro (decide_eq_true h5) (And.intro (decide_eq_true h5) (And.intro (decide_eq_true h5) (And.intro (decide_eq_true h5) (And.intro (decide_eq_true h6) (And.intro (decide_eq_true h6) (And.intro (decide_eq_true h6) (And.intro (decide_eq_true h6) (And.intro (decide_eq_true h7) (And.intro h8 (And.intro h9 (And.intro (decide_eq_true h10) (And.intro (Eq.refl ([⟨0, [2], []⟩, ⟨1, [2], []⟩, ⟨2, [8], []⟩, ⟨3, [9], []⟩, ⟨4, [], []⟩, ⟨5, [], []⟩, ⟨6, [], []⟩, ⟨7, [], []⟩, ⟨8, [], []⟩, ⟨9, [10], [10]⟩, ⟨10, [10, 11, 4], [4, 11]⟩, ⟨11, [2], []⟩, ⟨12, [2], [2]⟩] : List Foot)) (And.intro h11 (And.intro (decide_eq_true h12) (And.intro (Eq.refl ([⟨0, [2], []⟩, ⟨1, [2], []⟩, ⟨2, [8], []⟩, ⟨3, [9], []⟩, ⟨4, [], []⟩, ⟨5, [], []⟩, ⟨6, [], []⟩, ⟨7, [], []⟩, ⟨8, [], []⟩, ⟨9, [12], [12]⟩, ⟨10, [12, 13, 11], [11, 13]⟩, ⟨11, [2], []⟩, ⟨12, [2], [2]⟩] : List Foot)) True.intro))))))))))))))))))))) n).trans hs, hr⟩
                        · skip
                          cases h
                    · skip
                      cases h
                · skip
                  obtain ⟨r9, h9, h⟩ := Option.bind_eq_some_iff.mp h
                  have h9 := F40_ok (m + 0) (z1170) (z1171) (z1172) (z1173) (w64 (z1145 - z1146)) (z1174) r9 h9
                  cases r9 with
                  | a0 z1180 z1181 =>
                    rcases ite_eq h with ⟨h10, h⟩ | ⟨h10, h⟩
                    · skip
                      obtain ⟨st, hs, hr⟩ := L70_0_ok m n (z1144) (z1145) (z1175) (w64 (z1147 + 1)) (b1148) (l1149) (k1150 + 1) (List.take k1150 l1151 ++ [[i64 z1180, i64 z1181]]) r h
                      exact ⟨st, (round_on (gs := [.a, .an (i64 z1169) [], .t, .a, .an (V.tup [V.agg [i64 z1170, i64 z1171], V.agg [i64 z1172, i64 z1173]]) [], .a, .a, .a, .a, .an (i64 z1174) [], .an (i64 z1175) [], .t, .t, .t, .t, .t, .t, .t, .t, .t, .a, .f, .a, .a, .a, .an (V.agg [i64 z1180, i64 z1181]) [], .a, .t, .a, .ft [⟨0, [2], []⟩, ⟨1, [2], []⟩, ⟨2, [8], []⟩, ⟨3, [9], []⟩, ⟨4, [], []⟩, ⟨5, [], []⟩, ⟨6, [], []⟩, ⟨7, [], []⟩, ⟨8, [], []⟩, ⟨9, [10], [10]⟩, ⟨10, [10, 11, 4], [4, 11]⟩, ⟨11, [2], []⟩, ⟨12, [2], [2]⟩]]) (notIn []) (by kernel_rfl) (And.intro (F58_ok (m + 6) (b1148) (l1149) z1169 h0) (And.intro (decide_eq_true h1) (And.intro h2 (And.intro h3 (And.intro (F60_ok (m + 4) (z1146) (z1174) z1175 h4) (And.intro (decide_eq_true h5) (And.intro (decide_eq_true h5) (And.intro (decide_eq_true h5) (And.intro (decide_eq_true h5) (And.intro (decide_eq_true h6) (And.intro (decide_eq_true h6) (And.intro (decide_eq_true h6) (And.intro (decide_eq_true h6) (And.intro (decide_eq_true h7) (And.intro (Bool.eq_false_iff.mpr h8) (And.intro h9 (And.intro (decide_eq_true h10) (And.intro (Eq.refl ([⟨0, [2], []⟩, ⟨1, [2], []⟩, ⟨2, [8], []⟩, ⟨3, [9], []⟩, ⟨4, [], []⟩, ⟨5, [], []⟩, ⟨6, [], []⟩, ⟨7, [], []⟩, ⟨8, [], []⟩, ⟨9, [10], [10]⟩, ⟨10, [10, 11, 4], [4, 11]⟩, ⟨11, [2], []⟩, ⟨12, [2], [2]⟩] : List Foot)) True.intro)))))))))))))))))) n).trans hs, hr⟩
                    · skip
                      cases h
              · skip
                obtain ⟨st, hs, hr⟩ := L70_0_ok m n (z1144) (z1145) (z1175) (w64 (z1147 + 1)) (b1148) (l1149) (k1150) (l1151) r h
                exact ⟨st, (round_on (gs := [.a, .an (i64 z1169) [], .t, .a, .an (V.tup [V.agg [i64 z1170, i64 z1171], V.agg [i64 z1172, i64 z1173]]) [], .a, .a, .a, .a, .an (i64 z1174) [], .an (i64 z1175) [], .t, .t, .t, .t, .t, .t, .t, .t, .f]) (notIn []) (by kernel_rfl) (And.intro (F58_ok (m + 6) (b1148) (l1149) z1169 h0) (And.intro (decide_eq_true h1) (And.intro h2 (And.intro h3 (And.intro (F60_ok (m + 4) (z1146) (z1174) z1175 h4) (And.intro (decide_eq_true h5) (And.intro (decide_eq_true h5) (And.intro (decide_eq_true h5) (And.intro (decide_eq_true h5) (And.intro (decide_eq_true h6) (And.intro (decide_eq_true h6) (And.intro (decide_eq_true h6) (And.intro (decide_eq_true h6) (And.intro (decide_eq_false h7) True.intro)))))))))))))) n).trans hs, hr⟩
            · skip
              obtain ⟨st, hs, hr⟩ := L70_0_ok m n (z1144) (z1145) (z1175) (w64 (z1147 + 1)) (b1148) (l1149) (k1150) (l1151) r h
              exact ⟨st, (round_on (gs := [.a, .an (i64 z1169) [], .t, .a, .an (V.tup [V.agg [i64 z1170, i64 z1171], V.agg [i64 z1172, i64 z1173]]) [], .a, .a, .a, .a, .an (i64 z1174) [], .an (i64 z1175) [], .t, .t, .t, .t, .f, .f, .f, .f, .a]) (notIn []) (by kernel_rfl) (And.intro (F58_ok (m + 6) (b1148) (l1149) z1169 h0) (And.intro (decide_eq_true h1) (And.intro h2 (And.intro h3 (And.intro (F60_ok (m + 4) (z1146) (z1174) z1175 h4) (And.intro (decide_eq_true h5) (And.intro (decide_eq_true h5) (And.intro (decide_eq_true h5) (And.intro (decide_eq_true h5) (And.intro (decide_eq_false h6) (And.intro (decide_eq_false h6) (And.intro (decide_eq_false h6) (And.intro (decide_eq_false h6) True.intro))))))))))))) n).trans hs, hr⟩
          · skip
            obtain ⟨st, hs, hr⟩ := L70_0_ok m n (z1144) (z1145) (z1175) (w64 (z1147 + 1)) (b1148) (l1149) (k1150) (l1151) r h
            exact ⟨st, (round_on (gs := [.a, .an (i64 z1169) [], .t, .a, .an (V.tup [V.agg [i64 z1170, i64 z1171], V.agg [i64 z1172, i64 z1173]]) [], .a, .a, .a, .a, .an (i64 z1174) [], .an (i64 z1175) [], .f, .f, .f, .f, .a, .a, .a, .a, .a]) (notIn []) (by kernel_rfl) (And.intro (F58_ok (m + 6) (b1148) (l1149) z1169 h0) (And.intro (decide_eq_true h1) (And.intro h2 (And.intro h3 (And.intro (F60_ok (m + 4) (z1146) (z1174) z1175 h4) (And.intro (decide_eq_false h5) (And.intro (decide_eq_false h5) (And.intro (decide_eq_false h5) (And.intro (decide_eq_false h5) True.intro))))))))) n).trans hs, hr⟩
    · skip
      cases h
      exact ⟨_, round_out (gs := [.a, .an (i64 z1169) [], .f]) (notIn []) (by kernel_rfl) rfl (And.intro (F58_ok (m + 6) (b1148) (l1149) z1169 h0) (And.intro (decide_eq_false h1) True.intro)) n, z1144, z1145, z1146, z1147, b1148, l1149, z1169, decide (z1147 < z1169), rfl⟩
inductive A70 where
  | a0 (b1166 : Bool) (k1167 : Nat) (l1168 : List (List V))
@[reducible] def A70.out : A70 → V × Store
  | .a0 b1166 k1167 l1168 => (V.agg [vb b1166, V.hs 0 0 k1167], [Ob.cells true true 2 l1168])
def F70 (b1080 : Bool) (l1081 : List (List V)) (z1082 : Int) (z1083 : Int) : Option A70 :=
  bnd (F74 (z1082)) fun z1164 =>
  bnd (F74 (z1083)) fun z1165 =>
  if z1164 ≥ z1165 then
   some (A70.a0 (false) (0) ([]))
  else
   (L70_0 18446744073709551616 (z1164) (z1165) (0) (0) (b1080) (l1081) (0) ([])).bind fun r => match r with
   | .e0 k1200 l1201 =>
    some (A70.a0 (false) (k1200) (l1201))
theorem F70_ok (m : Nat) (b1080 : Bool) (l1081 : List (List V)) (z1082 : Int) (z1083 : Int) (r : A70) (h : F70 b1080 l1081 z1082 z1083 = some r) : call Try.prog X O0 18446744073709551616 (m + 8) 70 ([V.agg [vb b1080, V.list 2 l1081], i64 z1082, i64 z1083]) ([]) = some r.out := by
  unfold F70 at h
  obtain ⟨z1164, h0, h⟩ := bnd_eq h
  obtain ⟨z1165, h1, h⟩ := bnd_eq h
  rcases ite_eq h with ⟨h2, h⟩ | ⟨h2, h⟩
  · skip
    cases h
    exact call_pathL (gs := [.an (i64 z1164) [], .an (i64 z1165) [], .t, .a, .a]) (notIn []) rfl rfl (by kernel_rfl) (And.intro (F74_ok (m + 5) (z1082) z1164 h0) (And.intro (F74_ok (m + 5) (z1083) z1165 h1) (And.intro (decide_eq_true h2) True.intro)))
  · skip
    obtain ⟨r3, h3, h⟩ := Option.bind_eq_some_iff.mp h
    obtain ⟨st3, h3, hr3⟩ := L70_0_ok m 18446744073709551616 (z1164) (z1165) (0) (0) (b1080) (l1081) (0) ([]) r3 h3
    have h3 : loopRun Try.prog X (genO X (call Try.prog X O0 18446744073709551616 (m + 7))) 70 (0) 18446744073709551616 B70 0 ({ T := V.agg [vb b1080, V.list 2 l1081] :: i64 z1164 :: i64 z1165 :: V.ptr 0 0 0 :: U :: U :: V.ptr 1 0 0 :: V.ptr 2 0 0 :: i64 0 :: i64 0 :: un 4 (i64 z1082 :: i64 z1164 :: i64 z1083 :: i64 z1165 :: i64 z1164 :: i64 z1165 :: vb (decide (z1164 ≥ z1165)) :: un 61 []), σ := [Ob.cells true false 2 [[vb b1080, V.list 2 l1081]], Ob.cells true false 2 [[vb false, V.nilS]], Ob.cells true false 2 [[vb false, V.nilS]]] }) = some st3 := by
      rw [loopRun_from, show pre X 70 (0) 0 ({ T := V.agg [vb b1080, V.list 2 l1081] :: i64 z1164 :: i64 z1165 :: V.ptr 0 0 0 :: U :: U :: V.ptr 1 0 0 :: V.ptr 2 0 0 :: i64 0 :: i64 0 :: un 4 (i64 z1082 :: i64 z1164 :: i64 z1083 :: i64 z1165 :: i64 z1164 :: i64 z1165 :: vb (decide (z1164 ≥ z1165)) :: un 61 []), σ := [Ob.cells true false 2 [[vb b1080, V.list 2 l1081]], Ob.cells true false 2 [[vb false, V.nilS]], Ob.cells true false 2 [[vb false, V.nilS]]] }) = { T := U :: i64 z1164 :: i64 z1165 :: V.ptr 0 0 0 :: U :: U :: V.ptr 1 0 0 :: V.ptr 2 0 0 :: i64 0 :: i64 0 :: un 72 [], σ := [Ob.cells true false 2 [[vb b1080, V.list 2 l1081]], Ob.cells true false 2 [[vb false, V.hs 3 0 0]], Ob.cells true false 2 [[vb false, V.hs 4 0 0]], Ob.cells true true 2 [], Ob.cells true true 2 []] } by kernel_rfl]
      exact h3
    cases r3 with
    | e0 k1200 l1201 =>
      obtain ⟨z1192, z1193, z1194, z1195, b1196, l1197, z1198, b1199, rfl⟩ := hr3
      cases h
      exact call_pathL (gs := [.an (i64 z1164) [], .an (i64 z1165) [], .f, .lp (VX.exit 0) (s70_0_0 z1192 z1193 z1194 z1195 b1196 l1197 z1198 b1199 k1200 l1201), .a, .a]) (notIn []) rfl rfl (by kernel_rfl) (And.intro (F74_ok (m + 5) (z1082) z1164 h0) (And.intro (F74_ok (m + 5) (z1083) z1165 h1) (And.intro (decide_eq_false h2) (And.intro h3 True.intro))))
/-! ## 78 -/
noncomputable abbrev B78 : Code := (Try.f78.body).getD .skip
inductive R78_0 where
  | e0 (k1254 : Nat) (l1258 : List (List V))
@[reducible] def s78_0_0 (l1251 : List (List V)) (z1252 : Int) (z1253 : Int) (k1254 : Nat) (z1255 : Int) (z1256 : Int) (b1257 : Bool) (l1258 : List (List V)) : S := { T := V.list 2 l1251 :: un 6 (i64 z1252 :: i64 z1253 :: V.hs 0 0 k1254 :: i64 z1255 :: un 8 (i64 z1255 :: V.list 2 l1251 :: i64 z1256 :: vb b1257 :: un 32 [])), σ := [Ob.cells true true 2 l1258] }
def R78_0.St : R78_0 → VX × S → Prop
  | .e0 k1254 l1258, p => ∃ l1251 : List (List V), ∃ z1252 : Int, ∃ z1253 : Int, ∃ z1255 : Int, ∃ z1256 : Int, ∃ b1257 : Bool, p = (VX.exit 0, s78_0_0 l1251 z1252 z1253 k1254 z1255 z1256 b1257 l1258)
def L78_0 : Nat → List (List V) → Int → Int → Nat → Int → List (List V) → Option R78_0
  | 0, _, _, _, _, _, _ => none
  | n + 1, l1209, z1210, z1211, k1212, z1213, l1214 =>
    if z1213 < (↑(List.length l1209) : Int) then
     if 0 ≤ z1213 then
      ((l1209[Int.toNat z1213]?).bind W39.dec).bind fun e1235 =>
      (F102 (e1235.c0) (e1235.2)).bind fun r => match r with
      | .a0 b1236 k1237 l1238 =>
       if (z1210 != 0) = true then
        if 0 + k1237 ≤ List.length l1238 then
         (F29 (b1236) (List.take k1237 l1238)).bind fun r => match r with
         | .a0 z1239 =>
          (F66 (z1239) (z1210)).bind fun r => match r with
          | .a0 z1240 =>
           (F66 (z1239) (z1211)).bind fun r => match r with
           | .a0 z1241 =>
            (F70 (b1236) (List.take k1237 l1238) (z1240) (z1241)).bind fun r => match r with
            | .a0 b1242 k1243 l1244 =>
             if (↑k1243 : Int) < 2 then
              L78_0 n (l1209) (z1210) (z1211) (k1212) (w64 (z1213 + 1)) (l1214)
             else
              if 0 + k1243 ≤ List.length l1244 then
               if 0 + k1212 ≤ List.length l1214 ∧ (k1212 + 1) * 32 ≤ 140737488355328 ∧ k1212 + 1 ≤ 140737488355328 then
                L78_0 n (l1209) (z1210) (z1211) (k1212 + 1) (w64 (z1213 + 1)) (List.take k1212 l1214 ++ [[vb b1242, V.list 2 (List.take k1243 l1244)]])
               else
                none -- none
              else
               none -- none
        else
         none -- none
       else
        if (z1211 != 65536) = true then
         if 0 + k1237 ≤ List.length l1238 then
          (F29 (b1236) (List.take k1237 l1238)).bind fun r => match r with
          | .a0 z1245 =>
           (F66 (z1245) (z1210)).bind fun r => match r with
           | .a0 z1246 =>
            (F66 (z1245) (z1211)).bind fun r => match r with
            | .a0 z1247 =>
             (F70 (b1236) (List.take k1237 l1238) (z1246) (z1247)).bind fun r => match r with
             | .a0 b1248 k1249 l1250 =>
              if (↑k1249 : Int) < 2 then
               L78_0 n (l1209) (z1210) (z1211) (k1212) (w64 (z1213 + 1)) (l1214)
              else
               if 0 + k1249 ≤ List.length l1250 then
                if 0 + k1212 ≤ List.length l1214 ∧ (k1212 + 1) * 32 ≤ 140737488355328 ∧ k1212 + 1 ≤ 140737488355328 then
                 L78_0 n (l1209) (z1210) (z1211) (k1212 + 1) (w64 (z1213 + 1)) (List.take k1212 l1214 ++ [[vb b1248, V.list 2 (List.take k1249 l1250)]])
                else
                 none -- none
               else
                none -- none
         else
          none -- none
        else
         if 0 + k1237 ≤ List.length l1238 then
          if 0 + k1212 ≤ List.length l1214 ∧ (k1212 + 1) * 32 ≤ 140737488355328 ∧ k1212 + 1 ≤ 140737488355328 then
           L78_0 n (l1209) (z1210) (z1211) (k1212 + 1) (w64 (z1213 + 1)) (List.take k1212 l1214 ++ [[vb b1236, V.list 2 (List.take k1237 l1238)]])
          else
           none -- none
         else
          none -- none
     else
      none -- none
    else
     some (R78_0.e0 (k1212) (l1214))
theorem L78_0_ok (m : Nat) : ∀ (n : Nat) (l1209 : List (List V)) (z1210 : Int) (z1211 : Int) (k1212 : Nat) (z1213 : Int) (l1214 : List (List V)) (r : R78_0), L78_0 n l1209 z1210 z1211 k1212 z1213 l1214 = some r → ∃ st, loopFrom Try.prog X (genO X (call Try.prog X O0 18446744073709551616 (m + 8))) 78 (0) 18446744073709551616 B78 0 n ({ T := V.list 2 l1209 :: un 6 (i64 z1210 :: i64 z1211 :: V.hs 0 0 k1212 :: i64 z1213 :: un 44 []), σ := [Ob.cells true true 2 l1214] }) = some st ∧ r.St st
  | 0, _, _, _, _, _, _, r, h => by cases h
  | n + 1, l1209, z1210, z1211, k1212, z1213, l1214, r, h => by
    rw [L78_0] at h
    rcases ite_eq h with ⟨h0, h⟩ | ⟨h0, h⟩
    · skip
      rcases ite_eq h with ⟨h1, h⟩ | ⟨h1, h⟩
      · skip
        obtain ⟨e1235, h2, h⟩ := Option.bind_eq_some_iff.mp h
        obtain ⟨r3, h3, h⟩ := Option.bind_eq_some_iff.mp h
        have h3 := F102_ok (m + 7) (e1235.c0) (e1235.2) r3 h3
        cases r3 with
        | a0 b1236 k1237 l1238 =>
          rcases ite_eq h with ⟨h4, h⟩ | ⟨h4, h⟩
          · skip
            rcases ite_eq h with ⟨h5, h⟩ | ⟨h5, h⟩
            · skip
              obtain ⟨r6, h6, h⟩ := Option.bind_eq_some_iff.mp h
              have h6 := F29_ok (m + 3) (b1236) (List.take k1237 l1238) r6 h6
              cases r6 with
              | a0 z1239 =>
                obtain ⟨r7, h7, h⟩ := Option.bind_eq_some_iff.mp h
                have h7 := F66_ok (m + 3) (z1239) (z1210) r7 h7
                cases r7 with
                | a0 z1240 =>
                  obtain ⟨r8, h8, h⟩ := Option.bind_eq_some_iff.mp h
                  have h8 := F66_ok (m + 3) (z1239) (z1211) r8 h8
                  cases r8 with
                  | a0 z1241 =>
                    obtain ⟨r9, h9, h⟩ := Option.bind_eq_some_iff.mp h
                    have h9 := F70_ok (m + 0) (b1236) (List.take k1237 l1238) (z1240) (z1241) r9 h9
                    cases r9 with
                    | a0 b1242 k1243 l1244 =>
                      rcases ite_eq h with ⟨h10, h⟩ | ⟨h10, h⟩
                      · skip
                        obtain ⟨st, hs, hr⟩ := L78_0_ok m n (l1209) (z1210) (z1211) (k1212) (w64 (z1213 + 1)) (l1214) r h
                        exact ⟨st, (round_on (gs := [.t, .t, .el (W39.cells e1235), .an (V.agg [vb b1236, V.hs 0 0 k1237]) [Ob.cells true true 2 l1238], .a, .t, .t, .t, .a, .a, .t, .an (i64 z1239) [], .a, .an (i64 z1240) [], .an (i64 z1241) [], .t, .an (V.agg [vb b1242, V.hs 0 0 k1243]) [Ob.cells true true 2 l1244], .a, .ft [⟨0, [2], []⟩, ⟨1, [], []⟩, ⟨2, [], []⟩, ⟨3, [], []⟩, ⟨4, [], []⟩, ⟨5, [], []⟩, ⟨6, [], []⟩, ⟨7, [1, 3], [1, 3]⟩, ⟨8, [2], [2]⟩], .a, .t]) (notIn []) (by kernel_rfl) (And.intro (decide_eq_true h0) (And.intro (decide_eq_true h1) (And.intro (W39.dec_ok h2) (And.intro h3 (And.intro h4 (And.intro h4 (And.intro h4 (And.intro (decide_eq_true h5) (And.intro h6 (And.intro h7 (And.intro h8 (And.intro (decide_eq_true h5) (And.intro h9 (And.intro (Eq.refl ([⟨0, [2], []⟩, ⟨1, [], []⟩, ⟨2, [], []⟩, ⟨3, [], []⟩, ⟨4, [], []⟩, ⟨5, [], []⟩, ⟨6, [], []⟩, ⟨7, [1, 3], [1, 3]⟩, ⟨8, [2], [2]⟩] : List Foot)) (And.intro (decide_eq_true h10) True.intro))))))))))))))) n).trans hs, hr⟩
                      · skip
                        rcases ite_eq h with ⟨h11, h⟩ | ⟨h11, h⟩
                        · skip
                          rcases ite_eq h with ⟨h12, h⟩ | ⟨h12, h⟩
                          · skip
                            obtain ⟨st, hs, hr⟩ := L78_0_ok m n (l1209) (z1210) (z1211) (k1212 + 1) (w64 (z1213 + 1)) (List.take k1212 l1214 ++ [[vb b1242, V.list 2 (List.take k1243 l1244)]]) r h
                            exact ⟨st, (round_on (gs := [.t, .t, .el (W39.cells e1235), .an (V.agg [vb b1236, V.hs 0 0 k1237]) [Ob.cells true true 2 l1238], .a, .t, .t, .t, .a, .a, .t, .an (i64 z1239) [], .a, .an (i64 z1240) [], .an (i64 z1241) [], .t, .an (V.agg [vb b1242, V.hs 0 0 k1243]) [Ob.cells true true 2 l1244], .a, .ft [⟨0, [2], []⟩, ⟨1, [], []⟩, ⟨2, [], []⟩, ⟨3, [], []⟩, ⟨4, [], []⟩, ⟨5, [], []⟩, ⟨6, [], []⟩, ⟨7, [1, 3], [1, 3]⟩, ⟨8, [2], [2]⟩], .a, .f, .a, .t, .a, .t]) (notIn []) (by kernel_rfl) (And.intro (decide_eq_true h0) (And.intro (decide_eq_true h1) (And.intro (W39.dec_ok h2) (And.intro h3 (And.intro h4 (And.intro h4 (And.intro h4 (And.intro (decide_eq_true h5) (And.intro h6 (And.intro h7 (And.intro h8 (And.intro (decide_eq_true h5) (And.intro h9 (And.intro (Eq.refl ([⟨0, [2], []⟩, ⟨1, [], []⟩, ⟨2, [], []⟩, ⟨3, [], []⟩, ⟨4, [], []⟩, ⟨5, [], []⟩, ⟨6, [], []⟩, ⟨7, [1, 3], [1, 3]⟩, ⟨8, [2], [2]⟩] : List Foot)) (And.intro (decide_eq_false h10) (And.intro (decide_eq_true h11) (And.intro (decide_eq_true h12) True.intro))))))))))))))))) n).trans hs, hr⟩
                          · skip
                            cases h
                        · skip
                          cases h
            · skip
              cases h
          · skip
            rcases ite_eq h with ⟨h5, h⟩ | ⟨h5, h⟩
            · skip
              rcases ite_eq h with ⟨h6, h⟩ | ⟨h6, h⟩
              · skip
                obtain ⟨r7, h7, h⟩ := Option.bind_eq_some_iff.mp h
                have h7 := F29_ok (m + 3) (b1236) (List.take k1237 l1238) r7 h7
                cases r7 with
                | a0 z1245 =>
                  obtain ⟨r8, h8, h⟩ := Option.bind_eq_some_iff.mp h
                  have h8 := F66_ok (m + 3) (z1245) (z1210) r8 h8
                  cases r8 with
                  | a0 z1246 =>
                    obtain ⟨r9, h9, h⟩ := Option.bind_eq_some_iff.mp h
                    have h9 := F66_ok (m + 3) (z1245) (z1211) r9 h9
                    cases r9 with
                    | a0 z1247 =>
                      obtain ⟨r10, h10, h⟩ := Option.bind_eq_some_iff.mp h
                      have h10 := F70_ok (m + 0) (b1236) (List.take k1237 l1238) (z1246) (z1247) r10 h10
                      cases r10 with
                      | a0 b1248 k1249 l1250 =>
                        rcases ite_eq h with ⟨h11, h⟩ | ⟨h11, h⟩
                        · skip
                          obtain ⟨st, hs, hr⟩ := L78_0_ok m n (l1209) (z1210) (z1211) (k1212) (w64 (z1213 + 1)) (l1214) r h
                          exact ⟨st, (round_on (gs := [.t, .t, .el (W39.cells e1235), .an (V.agg [vb b1236, V.hs 0 0 k1237]) [Ob.cells true true 2 l1238], .a, .f, .f, .f, .t, .a, .t, .an (i64 z1245) [], .a, .an (i64 z1246) [], .an (i64 z1247) [], .t, .an (V.agg [vb b1248, V.hs 0 0 k1249]) [Ob.cells true true 2 l1250], .a, .ft [⟨0, [2], []⟩, ⟨1, [], []⟩, ⟨2, [], []⟩, ⟨3, [], []⟩, ⟨4, [], []⟩, ⟨5, [], []⟩, ⟨6, [], []⟩, ⟨7, [1, 3], [1, 3]⟩, ⟨8, [2], [2]⟩], .a, .t]) (notIn []) (by kernel_rfl) (And.intro (decide_eq_true h0) (And.intro (decide_eq_true h1) (And.intro (W39.dec_ok h2) (And.intro h3 (And.intro (Bool.eq_false_iff.mpr h4) (And.intro (Bool.eq_false_iff.mpr h4) (And.intro (Bool.eq_false_iff.mpr h4) (And.intro h5 (And.intro (decide_eq_true h6) (And.intro h7 (And.intro h8 (And.intro h9 (And.intro (decide_eq_true h6) (And.intro h10 (And.intro (Eq.refl ([⟨0, [2], []⟩, ⟨1, [], []⟩, ⟨2, [], []⟩, ⟨3, [], []⟩, ⟨4, [], []⟩, ⟨5, [], []⟩, ⟨6, [], []⟩, ⟨7, [1, 3], [1, 3]⟩, ⟨8, [2], [2]⟩] : List Foot)) (And.intro (decide_eq_true h11) True.intro)))))))))))))))) n).trans hs, hr⟩
                        · skip
                          rcases ite_eq h with ⟨h12, h⟩ | ⟨h12, h⟩
                          · skip
                            rcases ite_eq h with ⟨h13, h⟩ | ⟨h13, h⟩
                            · skip
                              obtain ⟨st, hs, hr⟩ := L78_0_ok m n (l1209) (z1210) (z1211) (k1212 + 1) (w64 (z1213 + 1)) (List.take k1212 l1214 ++ [[vb b1248, V.list 2 (List.take k1249 l1250)]]) r h
                              exact ⟨st, (round_on (gs := [.t, .t, .el (W39.cells e1235), .an (V.agg [vb b1236, V.hs 0 0 k1237]) [Ob.cells true true 2 l1238], .a, .f, .f, .f, .t, .a, .t, .an (i64 z1245) [], .a, .an (i64 z1246) [], .an (i64 z1247) [], .t, .an (V.agg [vb b1248, V.hs 0 0 k1249]) [Ob.cells true true 2 l1250], .a, .ft [⟨0, [2], []⟩, ⟨1, [], []⟩, ⟨2, [], []⟩, ⟨3, [], []⟩, ⟨4, [], []⟩, ⟨5, [], []⟩, ⟨6, [], []⟩, ⟨7, [1, 3], [1, 3]⟩, ⟨8, [2], [2]⟩], .a, .f, .a, .t, .a, .t]) (notIn []) (by kernel_rfl) (And.intro (decide_eq_true h0) (And.intro (decide_eq_true h1) (And.intro (W39.dec_ok h2) (And.intro h3 (And.intro (Bool.eq_false_iff.mpr h4) (And.intro (Bool.eq_false_iff.mpr h4) (And.intro (Bool.eq_false_iff.mpr h4) (And.intro h5 (And.intro (decide_eq_true h6) (And.intro h7 (And.intro h8 (And.intro h9 (And.intro (decide_eq_true h6) (And.intro h10 (And.intro (Eq.refl ([⟨0, [2], []⟩, ⟨1, [], []⟩, ⟨2, [], []⟩, ⟨3, [], []⟩, ⟨4, [], []⟩, ⟨5, [], []⟩, ⟨6, [], []⟩, ⟨7, [1, 3], [1, 3]⟩, ⟨8, [2], [2]⟩] : List Foot)) (And.intro (decide_eq_false h11) (And.intro (decide_eq_true h12) (And.intro (decide_eq_true h13) True.intro)))))))))))))))))) n).trans hs, hr⟩
                            · skip
                              cases h
                          · skip
                            cases h
              · skip
                cases h
            · skip
              rcases ite_eq h with ⟨h6, h⟩ | ⟨h6, h⟩
              · skip
                rcases ite_eq h with ⟨h7, h⟩ | ⟨h7, h⟩
                · skip
                  obtain ⟨st, hs, hr⟩ := L78_0_ok m n (l1209) (z1210) (z1211) (k1212 + 1) (w64 (z1213 + 1)) (List.take k1212 l1214 ++ [[vb b1236, V.list 2 (List.take k1237 l1238)]]) r h
                  exact ⟨st, (round_on (gs := [.t, .t, .el (W39.cells e1235), .an (V.agg [vb b1236, V.hs 0 0 k1237]) [Ob.cells true true 2 l1238], .a, .f, .f, .f, .f, .a, .t, .a, .t]) (notIn []) (by kernel_rfl) (And.intro (decide_eq_true h0) (And.intro (decide_eq_true h1) (And.intro (W39.dec_ok h2) (And.intro h3 (And.intro (Bool.eq_false_iff.mpr h4) (And.intro (Bool.eq_false_iff.mpr h4) (And.intro (Bool.eq_false_iff.mpr h4) (And.intro (Bool.eq_false_iff.mpr h5) (And.intro (decide_eq_true h6) (And.intro (decide_eq_true h7) True.intro)))))))))) n).trans hs, hr⟩
                · skip
                  cases h
              · skip
                cases h
      · skip
        cases h
    · skip
      cases h
      exact ⟨_, round_out (gs := [.f]) (notIn []) (by kernel_rfl) rfl (And.intro (decide_eq_false h0) True.intro) n, l1209, z1210, z1211, z1213, (↑(List.length l1209) : Int), decide (z1213 < (↑(List.length l1209) : Int)), rfl⟩
inductive A78 where
  | a0 (k1267 : Nat) (l1268 : List (List V))
@[reducible] def A78.out : A78 → V × Store
  | .a0 k1267 l1268 => (V.hs 0 0 k1267, [Ob.cells true true 2 l1268])
def F78 (l1019 : List (List V)) (z1020 : Int) (z1021 : Int) : Option A78 :=
  (F77 (z1020) (z1021)).bind fun r => match r with
  | .a0 z1233 z1234 =>
   (L78_0 18446744073709551616 (l1019) (z1233) (z1234) (0) (0) ([])).bind fun r => match r with
   | .e0 k1262 l1266 =>
    some (A78.a0 (k1262) (l1266))
theorem F78_ok (m : Nat) (l1019 : List (List V)) (z1020 : Int) (z1021 : Int) (r : A78) (h : F78 l1019 z1020 z1021 = some r) : call Try.prog X O0 18446744073709551616 (m + 9) 78 ([V.list 2 l1019, i64 z1020, i64 z1021]) ([]) = some r.out := by
  unfold F78 at h
  obtain ⟨r0, h0, h⟩ := Option.bind_eq_some_iff.mp h
  have h0 := F77_ok (m + 6) (z1020) (z1021) r0 h0
  cases r0 with
  | a0 z1233 z1234 =>
    obtain ⟨r1, h1, h⟩ := Option.bind_eq_some_iff.mp h
    obtain ⟨st1, h1, hr1⟩ := L78_0_ok m 18446744073709551616 (l1019) (z1233) (z1234) (0) (0) ([]) r1 h1
    have h1 : loopRun Try.prog X (genO X (call Try.prog X O0 18446744073709551616 (m + 8))) 78 (0) 18446744073709551616 B78 0 ({ T := V.list 2 l1019 :: i64 z1020 :: i64 z1021 :: U :: U :: U :: V.nilS :: i64 z1233 :: i64 z1234 :: V.nilS :: i64 0 :: U :: U :: V.tup [i64 z1233, i64 z1234] :: i64 z1020 :: i64 z1021 :: V.tup [i64 z1233, i64 z1234] :: i64 z1233 :: i64 z1234 :: un 36 [], σ := [Ob.vir, Ob.vir, Ob.vir] }) = some st1 := by
      rw [loopRun_from, show pre X 78 (0) 0 ({ T := V.list 2 l1019 :: i64 z1020 :: i64 z1021 :: U :: U :: U :: V.nilS :: i64 z1233 :: i64 z1234 :: V.nilS :: i64 0 :: U :: U :: V.tup [i64 z1233, i64 z1234] :: i64 z1020 :: i64 z1021 :: V.tup [i64 z1233, i64 z1234] :: i64 z1233 :: i64 z1234 :: un 36 [], σ := [Ob.vir, Ob.vir, Ob.vir] }) = { T := V.list 2 l1019 :: un 6 (i64 z1233 :: i64 z1234 :: V.hs 0 0 0 :: i64 0 :: un 44 []), σ := [Ob.cells true true 2 []] } by kernel_rfl]
      exact h1
    cases r1 with
    | e0 k1262 l1266 =>
      obtain ⟨l1259, z1260, z1261, z1263, z1264, b1265, rfl⟩ := hr1
      cases h
      exact call_pathL (gs := [.an (V.tup [i64 z1233, i64 z1234]) [], .lp (VX.exit 0) (s78_0_0 l1259 z1260 z1261 k1262 z1263 z1264 b1265 l1266)]) (notIn []) rfl rfl (by kernel_rfl) (And.intro h0 (And.intro h1 True.intro))
/-! ## 42 -/
inductive A42 where
  | a0 (b1272 : Bool)
@[reducible] def A42.out : A42 → V × Store
  | .a0 b1272 => (vb b1272, [])
def F42 (l1002 : List (List V)) (z1003 : Int) (z1004 : Int) : Option A42 :=
  (F62 (z1003) (z1004)).bind fun r => match r with
  | .a0 z1006 z1007 =>
   (F77 (z1003) (z1004)).bind fun r => match r with
   | .a0 z1015 z1016 =>
    if (z1006 == z1015) = true then
     if (z1007 == z1016) = true then
      (F31 (l1002) (z1003) (z1004)).bind fun r => match r with
      | .a0 k1017 l1018 =>
       (F78 (l1002) (z1003) (z1004)).bind fun r => match r with
       | .a0 k1269 l1270 =>
        if 0 + k1017 ≤ List.length l1018 then
         if 0 + k1269 ≤ List.length l1270 then
          (F32 (List.take k1017 l1018) (List.take k1269 l1270)).bind fun r => match r with
          | .a0 b1271 =>
           some (A42.a0 (b1271))
         else
          none -- none
        else
         none -- none
     else
      some (A42.a0 (false))
    else
     some (A42.a0 (false))
theorem F42_ok (m : Nat) (l1002 : List (List V)) (z1003 : Int) (z1004 : Int) (r : A42) (h : F42 l1002 z1003 z1004 = some r) : call Try.prog X O0 18446744073709551616 (m + 10) 42 ([V.list 2 l1002, i64 z1003, i64 z1004]) ([]) = some r.out := by
  unfold F42 at h
  obtain ⟨r0, h0, h⟩ := Option.bind_eq_some_iff.mp h
  have h0 := F62_ok (m + 7) (z1003) (z1004) r0 h0
  cases r0 with
  | a0 z1006 z1007 =>
    obtain ⟨r1, h1, h⟩ := Option.bind_eq_some_iff.mp h
    have h1 := F77_ok (m + 7) (z1003) (z1004) r1 h1
    cases r1 with
    | a0 z1015 z1016 =>
      rcases ite_eq h with ⟨h2, h⟩ | ⟨h2, h⟩
      · skip
        rcases ite_eq h with ⟨h3, h⟩ | ⟨h3, h⟩
        · skip
          obtain ⟨r4, h4, h⟩ := Option.bind_eq_some_iff.mp h
          have h4 := F31_ok (m + 2) (l1002) (z1003) (z1004) r4 h4
          cases r4 with
          | a0 k1017 l1018 =>
            obtain ⟨r5, h5, h⟩ := Option.bind_eq_some_iff.mp h
            have h5 := F78_ok (m + 0) (l1002) (z1003) (z1004) r5 h5
            cases r5 with
            | a0 k1269 l1270 =>
              rcases ite_eq h with ⟨h6, h⟩ | ⟨h6, h⟩
              · skip
                rcases ite_eq h with ⟨h7, h⟩ | ⟨h7, h⟩
                · skip
                  obtain ⟨r8, h8, h⟩ := Option.bind_eq_some_iff.mp h
                  have h8 := F32_ok (m + 7) (List.take k1017 l1018) (List.take k1269 l1270) r8 h8
                  cases r8 with
                  | a0 b1271 =>
                    cases h
                    exact call_pathL (gs := [.an (V.tup [i64 z1006, i64 z1007]) [], .an (V.tup [i64 z1015, i64 z1016]) [], .t, .t, .t, .t, .t, .t, .t, .t, .an (V.hs 0 0 k1017) [Ob.cells true true 2 l1018], .t, .t, .t, .t, .an (V.hs 0 0 k1269) [Ob.cells true true 2 l1270], .t, .t, .t, .an (vb b1271) [], .t]) (notIn []) rfl rfl (by kernel_rfl) (And.intro h0 (And.intro h1 (And.intro h2 (And.intro h2 (And.intro h2 (And.intro h2 (And.intro h3 (And.intro h3 (And.intro h3 (And.intro h3 (And.intro h4 (And.intro h3 (And.intro h3 (And.intro h3 (And.intro h3 (And.intro h5 (And.intro h3 (And.intro (decide_eq_true h6) (And.intro (decide_eq_true h7) (And.intro h8 (And.intro h3 True.intro)))))))))))))))))))))
                · skip
                  cases h
              · skip
                cases h
        · skip
          cases h
          exact call_pathL (gs := [.an (V.tup [i64 z1006, i64 z1007]) [], .an (V.tup [i64 z1015, i64 z1016]) [], .t, .t, .t, .t, .f, .f, .f, .f, .f, .f, .f, .f, .f, .f]) (notIn []) rfl rfl (by kernel_rfl) (And.intro h0 (And.intro h1 (And.intro h2 (And.intro h2 (And.intro h2 (And.intro h2 (And.intro (Bool.eq_false_iff.mpr h3) (And.intro (Bool.eq_false_iff.mpr h3) (And.intro (Bool.eq_false_iff.mpr h3) (And.intro (Bool.eq_false_iff.mpr h3) (And.intro (Bool.eq_false_iff.mpr h3) (And.intro (Bool.eq_false_iff.mpr h3) (And.intro (Bool.eq_false_iff.mpr h3) (And.intro (Bool.eq_false_iff.mpr h3) (And.intro (Bool.eq_false_iff.mpr h3) (And.intro (Bool.eq_false_iff.mpr h3) True.intro))))))))))))))))
      · skip
        cases h
        exact call_pathL (gs := [.an (V.tup [i64 z1006, i64 z1007]) [], .an (V.tup [i64 z1015, i64 z1016]) [], .f, .f, .f, .f, .a, .a, .a, .a, .a, .a, .a, .a, .a, .a]) (notIn []) rfl rfl (by kernel_rfl) (And.intro h0 (And.intro h1 (And.intro (Bool.eq_false_iff.mpr h2) (And.intro (Bool.eq_false_iff.mpr h2) (And.intro (Bool.eq_false_iff.mpr h2) (And.intro (Bool.eq_false_iff.mpr h2) True.intro))))))
/-! ## 12 -/
inductive A12 where
  | a0 (b1277 : Bool)
@[reducible] def A12.out : A12 → V × Store
  | .a0 b1277 => (vb b1277, [])
def F12 (l982 : List (List V)) (z983 : Int) (z984 : Int) (l985 : List (List V)) : Option A12 :=
  (F28 (l982) (0)).bind fun r => match r with
  | .a0 b987 k988 l989 z990 l991 =>
   (F28 (l989) (z990)).bind fun r => match r with
   | .a0 b992 k993 l994 z995 l996 =>
    (F28 (l994) (z995)).bind fun r => match r with
    | .a0 b997 k998 l999 z1000 l1001 =>
     if 0 + k988 ≤ List.length l991 then
      if 0 + k993 ≤ List.length l996 then
       if 0 + k998 ≤ List.length l1001 then
        if (↑(List.length l985) : Int) > 3 then
         if (0 : Int) ≤ (0 : Int) ∧ (0 : Int) ≤ (3 : Int) ∧ (3 : Int) ≤ (↑(List.length l985) : Int) then
          (F42 ([[vb b987, V.list 2 (List.take k988 l991)], [vb b992, V.list 2 (List.take k993 l996)], [vb b997, V.list 2 (List.take k998 l1001)]]) (z983) (z984)).bind fun r => match r with
          | .a0 b1273 =>
           if (b1273) = true then
            (F42 ([[vb b987, V.list 2 (List.take k988 l991)], [vb b992, V.list 2 (List.take k993 l996)], [vb b997, V.list 2 (List.take k998 l1001)]]) (w64 (w64 (↑(BitVec.toNat (BitVec.ofInt (IntKind.bits IntKind.i64) z983 &&& BitVec.ofInt (IntKind.bits IntKind.i64) 131071)) : Int) - 9)) (w64 (↑(BitVec.toNat (BitVec.ofInt (IntKind.bits IntKind.i64) z984 &&& BitVec.ofInt (IntKind.bits IntKind.i64) 131071)) : Int))).bind fun r => match r with
            | .a0 b1274 =>
             if (b1274) = true then
              (F42 (List.take 3 l985) (w64 (↑(BitVec.toNat (BitVec.ofInt (IntKind.bits IntKind.i64) z983 &&& BitVec.ofInt (IntKind.bits IntKind.i64) 65535)) : Int)) (z984)).bind fun r => match r with
              | .a0 b1275 =>
               if (b1275) = true then
                (F30).bind fun r => match r with
                | .a0 b1276 =>
                 some (A12.a0 (b1276))
               else
                none -- false
             else
              none -- false
           else
            none -- false
         else
          none -- none
        else
         (F42 ([[vb b987, V.list 2 (List.take k988 l991)], [vb b992, V.list 2 (List.take k993 l996)], [vb b997, V.list 2 (List.take k998 l1001)]]) (z983) (z984)).bind fun r => match r with
         | .a0 b1278 =>
          if (b1278) = true then
           (F42 ([[vb b987, V.list 2 (List.take k988 l991)], [vb b992, V.list 2 (List.take k993 l996)], [vb b997, V.list 2 (List.take k998 l1001)]]) (w64 (w64 (↑(BitVec.toNat (BitVec.ofInt (IntKind.bits IntKind.i64) z983 &&& BitVec.ofInt (IntKind.bits IntKind.i64) 131071)) : Int) - 9)) (w64 (↑(BitVec.toNat (BitVec.ofInt (IntKind.bits IntKind.i64) z984 &&& BitVec.ofInt (IntKind.bits IntKind.i64) 131071)) : Int))).bind fun r => match r with
           | .a0 b1279 =>
            if (b1279) = true then
             (F42 (l985) (w64 (↑(BitVec.toNat (BitVec.ofInt (IntKind.bits IntKind.i64) z983 &&& BitVec.ofInt (IntKind.bits IntKind.i64) 65535)) : Int)) (z984)).bind fun r => match r with
             | .a0 b1280 =>
              if (b1280) = true then
               (F30).bind fun r => match r with
               | .a0 b1281 =>
                some (A12.a0 (b1281))
              else
               none -- false
            else
             none -- false
          else
           none -- false
       else
        none -- none
      else
       none -- none
     else
      none -- none
theorem F12_ok (m : Nat) (l982 : List (List V)) (z983 : Int) (z984 : Int) (l985 : List (List V)) (r : A12) (h : F12 l982 z983 z984 l985 = some r) : call Try.prog X O0 18446744073709551616 (m + 11) 12 ([V.list 1 l982, i64 z983, i64 z984, V.list 2 l985]) ([]) = some r.out := by
  unfold F12 at h
  obtain ⟨r0, h0, h⟩ := Option.bind_eq_some_iff.mp h
  have h0 := F28_ok (m + 6) (l982) (0) r0 h0
  cases r0 with
  | a0 b987 k988 l989 z990 l991 =>
    obtain ⟨r1, h1, h⟩ := Option.bind_eq_some_iff.mp h
    have h1 := F28_ok (m + 6) (l989) (z990) r1 h1
    cases r1 with
    | a0 b992 k993 l994 z995 l996 =>
      obtain ⟨r2, h2, h⟩ := Option.bind_eq_some_iff.mp h
      have h2 := F28_ok (m + 6) (l994) (z995) r2 h2
      cases r2 with
      | a0 b997 k998 l999 z1000 l1001 =>
        rcases ite_eq h with ⟨h3, h⟩ | ⟨h3, h⟩
        · skip
          rcases ite_eq h with ⟨h4, h⟩ | ⟨h4, h⟩
          · skip
            rcases ite_eq h with ⟨h5, h⟩ | ⟨h5, h⟩
            · skip
              rcases ite_eq h with ⟨h6, h⟩ | ⟨h6, h⟩
              · skip
                rcases ite_eq h with ⟨h7, h⟩ | ⟨h7, h⟩
                · skip
                  obtain ⟨r8, h8, h⟩ := Option.bind_eq_some_iff.mp h
                  have h8 := F42_ok (m + 0) ([[vb b987, V.list 2 (List.take k988 l991)], [vb b992, V.list 2 (List.take k993 l996)], [vb b997, V.list 2 (List.take k998 l1001)]]) (z983) (z984) r8 h8
                  cases r8 with
                  | a0 b1273 =>
                    rcases ite_eq h with ⟨h9, h⟩ | ⟨h9, h⟩
                    · skip
                      obtain ⟨r10, h10, h⟩ := Option.bind_eq_some_iff.mp h
                      have h10 := F42_ok (m + 0) ([[vb b987, V.list 2 (List.take k988 l991)], [vb b992, V.list 2 (List.take k993 l996)], [vb b997, V.list 2 (List.take k998 l1001)]]) (w64 (w64 (↑(BitVec.toNat (BitVec.ofInt (IntKind.bits IntKind.i64) z983 &&& BitVec.ofInt (IntKind.bits IntKind.i64) 131071)) : Int) - 9)) (w64 (↑(BitVec.toNat (BitVec.ofInt (IntKind.bits IntKind.i64) z984 &&& BitVec.ofInt (IntKind.bits IntKind.i64) 131071)) : Int)) r10 h10
                      cases r10 with
                      | a0 b1274 =>
                        rcases ite_eq h with ⟨h11, h⟩ | ⟨h11, h⟩
                        · skip
                          obtain ⟨r12, h12, h⟩ := Option.bind_eq_some_iff.mp h
                          have h12 := F42_ok (m + 0) (List.take 3 l985) (w64 (↑(BitVec.toNat (BitVec.ofInt (IntKind.bits IntKind.i64) z983 &&& BitVec.ofInt (IntKind.bits IntKind.i64) 65535)) : Int)) (z984) r12 h12
                          cases r12 with
                          | a0 b1275 =>
                            rcases ite_eq h with ⟨h13, h⟩ | ⟨h13, h⟩
                            · skip
                              obtain ⟨r14, h14, h⟩ := Option.bind_eq_some_iff.mp h
                              have h14 := F30_ok (m + 2) r14 h14
                              cases r14 with
                              | a0 b1276 =>
                                cases h
                                exact call_pathL (gs := [.an (V.agg [vb b987, V.hs 1 0 k988]) [Ob.cells true false 2 [[V.list 1 l989, i64 z990]], Ob.cells true true 2 l991], .an (V.agg [vb b992, V.hs 1 0 k993]) [Ob.cells true false 2 [[V.list 1 l994, i64 z995]], Ob.cells true true 2 l996], .an (V.agg [vb b997, V.hs 1 0 k998]) [Ob.cells true false 2 [[V.list 1 l999, i64 z1000]], Ob.cells true true 2 l1001], .t, .t, .t, .t, .t, .a, .an (vb b1273) [], .t, .t, .t, .t, .t, .t, .t, .a, .an (vb b1274) [], .t, .t, .t, .t, .t, .t, .an (vb b1275) [], .t, .t, .an (vb b1276) [], .t]) (notIn []) rfl rfl (by kernel_rfl) (And.intro h0 (And.intro h1 (And.intro h2 (And.intro (decide_eq_true h3) (And.intro (decide_eq_true h4) (And.intro (decide_eq_true h5) (And.intro (decide_eq_true h6) (And.intro (decide_eq_true h7) (And.intro h8 (And.intro h9 (And.intro h9 (And.intro h9 (And.intro h9 (And.intro h9 (And.intro h9 (And.intro h9 (And.intro h10 (And.intro h9 (And.intro h11 (And.intro h11 (And.intro h11 (And.intro h11 (And.intro h11 (And.intro h12 (And.intro h11 (And.intro h13 (And.intro h14 (And.intro h13 True.intro))))))))))))))))))))))))))))
                            · skip
                              cases h
                        · skip
                          cases h
                    · skip
                      cases h
                · skip
                  cases h
              · skip
                obtain ⟨r7, h7, h⟩ := Option.bind_eq_some_iff.mp h
                have h7 := F42_ok (m + 0) ([[vb b987, V.list 2 (List.take k988 l991)], [vb b992, V.list 2 (List.take k993 l996)], [vb b997, V.list 2 (List.take k998 l1001)]]) (z983) (z984) r7 h7
                cases r7 with
                | a0 b1278 =>
                  rcases ite_eq h with ⟨h8, h⟩ | ⟨h8, h⟩
                  · skip
                    obtain ⟨r9, h9, h⟩ := Option.bind_eq_some_iff.mp h
                    have h9 := F42_ok (m + 0) ([[vb b987, V.list 2 (List.take k988 l991)], [vb b992, V.list 2 (List.take k993 l996)], [vb b997, V.list 2 (List.take k998 l1001)]]) (w64 (w64 (↑(BitVec.toNat (BitVec.ofInt (IntKind.bits IntKind.i64) z983 &&& BitVec.ofInt (IntKind.bits IntKind.i64) 131071)) : Int) - 9)) (w64 (↑(BitVec.toNat (BitVec.ofInt (IntKind.bits IntKind.i64) z984 &&& BitVec.ofInt (IntKind.bits IntKind.i64) 131071)) : Int)) r9 h9
                    cases r9 with
                    | a0 b1279 =>
                      rcases ite_eq h with ⟨h10, h⟩ | ⟨h10, h⟩
                      · skip
                        obtain ⟨r11, h11, h⟩ := Option.bind_eq_some_iff.mp h
                        have h11 := F42_ok (m + 0) (l985) (w64 (↑(BitVec.toNat (BitVec.ofInt (IntKind.bits IntKind.i64) z983 &&& BitVec.ofInt (IntKind.bits IntKind.i64) 65535)) : Int)) (z984) r11 h11
                        cases r11 with
                        | a0 b1280 =>
                          rcases ite_eq h with ⟨h12, h⟩ | ⟨h12, h⟩
                          · skip
                            obtain ⟨r13, h13, h⟩ := Option.bind_eq_some_iff.mp h
                            have h13 := F30_ok (m + 2) r13 h13
                            cases r13 with
                            | a0 b1281 =>
                              cases h
                              exact call_pathL (gs := [.an (V.agg [vb b987, V.hs 1 0 k988]) [Ob.cells true false 2 [[V.list 1 l989, i64 z990]], Ob.cells true true 2 l991], .an (V.agg [vb b992, V.hs 1 0 k993]) [Ob.cells true false 2 [[V.list 1 l994, i64 z995]], Ob.cells true true 2 l996], .an (V.agg [vb b997, V.hs 1 0 k998]) [Ob.cells true false 2 [[V.list 1 l999, i64 z1000]], Ob.cells true true 2 l1001], .t, .t, .t, .f, .a, .an (vb b1278) [], .t, .t, .t, .t, .t, .t, .t, .a, .an (vb b1279) [], .t, .t, .t, .t, .t, .t, .an (vb b1280) [], .t, .t, .an (vb b1281) [], .t]) (notIn []) rfl rfl (by kernel_rfl) (And.intro h0 (And.intro h1 (And.intro h2 (And.intro (decide_eq_true h3) (And.intro (decide_eq_true h4) (And.intro (decide_eq_true h5) (And.intro (decide_eq_false h6) (And.intro h7 (And.intro h8 (And.intro h8 (And.intro h8 (And.intro h8 (And.intro h8 (And.intro h8 (And.intro h8 (And.intro h9 (And.intro h8 (And.intro h10 (And.intro h10 (And.intro h10 (And.intro h10 (And.intro h10 (And.intro h11 (And.intro h10 (And.intro h12 (And.intro h13 (And.intro h12 True.intro)))))))))))))))))))))))))))
                          · skip
                            cases h
                      · skip
                        cases h
                  · skip
                    cases h
            · skip
              cases h
          · skip
            cases h
        · skip
          cases h
/-! ## 37 -/
noncomputable abbrev B37 : Code := (Try.f37.body).getD .skip
inductive R37_0 where
  | e0 (k1291 : Nat) (l1294 : List (List V))
@[reducible] def s37_0_0 (z1290 : Int) (k1291 : Nat) (z1292 : Int) (b1293 : Bool) (l1294 : List (List V)) : S := { T := i64 z1290 :: U :: U :: V.hs 0 0 k1291 :: i64 z1292 :: i64 z1292 :: vb b1293 :: un 20 [], σ := [Ob.cells true true 1 l1294] }
def R37_0.St : R37_0 → VX × S → Prop
  | .e0 k1291 l1294, p => ∃ z1290 : Int, ∃ z1292 : Int, ∃ b1293 : Bool, p = (VX.exit 0, s37_0_0 z1290 k1291 z1292 b1293 l1294)
def L37_0 : Nat → Int → Nat → Int → List (List V) → Option R37_0
  | 0, _, _, _, _ => none
  | n + 1, z1286, k1287, z1288, l1289 =>
    if z1288 < 60 then
     if 0 + k1287 ≤ List.length l1289 ∧ (k1287 + 1) * 8 ≤ 140737488355328 ∧ k1287 + 1 ≤ 140737488355328 then
      L37_0 n (z1286) (k1287 + 1) (w64 (z1288 + 1)) (List.take k1287 l1289 ++ [[i64 (Int.tmod (w64 (w64 (w64 (w64 (z1288 * z1288) * 11) + w64 (z1286 * 19)) + w64 (z1288 * z1286))) 103)]])
     else
      none -- none
    else
     some (R37_0.e0 (k1287) (l1289))
theorem L37_0_ok (m : Nat) : ∀ (n : Nat) (z1286 : Int) (k1287 : Nat) (z1288 : Int) (l1289 : List (List V)) (r : R37_0), L37_0 n z1286 k1287 z1288 l1289 = some r → ∃ st, loopFrom Try.prog X (genO X (call Try.prog X O0 18446744073709551616 (m + 0))) 37 (0) 18446744073709551616 B37 0 n ({ T := i64 z1286 :: U :: U :: V.hs 0 0 k1287 :: i64 z1288 :: un 22 [], σ := [Ob.cells true true 1 l1289] }) = some st ∧ r.St st
  | 0, _, _, _, _, r, h => by cases h
  | n + 1, z1286, k1287, z1288, l1289, r, h => by
    rw [L37_0] at h
    rcases ite_eq h with ⟨h0, h⟩ | ⟨h0, h⟩
    · skip
      rcases ite_eq h with ⟨h1, h⟩ | ⟨h1, h⟩
      · skip
        obtain ⟨st, hs, hr⟩ := L37_0_ok m n (z1286) (k1287 + 1) (w64 (z1288 + 1)) (List.take k1287 l1289 ++ [[i64 (Int.tmod (w64 (w64 (w64 (w64 (z1288 * z1288) * 11) + w64 (z1286 * 19)) + w64 (z1288 * z1286))) 103)]]) r h
        exact ⟨st, (round_on (gs := [.t, .a, .a, .t]) (notIn []) (by kernel_rfl) (And.intro (decide_eq_true h0) (And.intro (decide_eq_true h1) True.intro)) n).trans hs, hr⟩
      · skip
        cases h
    · skip
      cases h
      exact ⟨_, round_out (gs := [.f]) (notIn []) (by kernel_rfl) rfl (And.intro (decide_eq_false h0) True.intro) n, z1286, z1288, decide (z1288 < 60), rfl⟩
inductive A37 where
  | a0 (k1300 : Nat) (z1301 : Int) (l1302 : List (List V))
@[reducible] def A37.out : A37 → V × Store
  | .a0 k1300 z1301 l1302 => (V.ptr 0 0 0, [Ob.cells true false 2 [[V.hs 1 0 k1300, i64 z1301]], Ob.cells true true 1 l1302])
def F37 (z1283 : Int) : Option A37 :=
  (L37_0 18446744073709551616 (z1283) (0) (0) ([])).bind fun r => match r with
  | .e0 k1296 l1299 =>
   some (A37.a0 (k1296) (0) (l1299))
theorem F37_ok (m : Nat) (z1283 : Int) (r : A37) (h : F37 z1283 = some r) : call Try.prog X O0 18446744073709551616 (m + 1) 37 ([i64 z1283]) ([]) = some r.out := by
  unfold F37 at h
  obtain ⟨r0, h0, h⟩ := Option.bind_eq_some_iff.mp h
  obtain ⟨st0, h0, hr0⟩ := L37_0_ok m 18446744073709551616 (z1283) (0) (0) ([]) r0 h0
  have h0 : loopRun Try.prog X (genO X (call Try.prog X O0 18446744073709551616 (m + 0))) 37 (0) 18446744073709551616 B37 0 ({ T := i64 z1283 :: U :: V.nilP :: V.nilS :: i64 0 :: un 22 [], σ := [] }) = some st0 := by
    rw [loopRun_from, show pre X 37 (0) 0 ({ T := i64 z1283 :: U :: V.nilP :: V.nilS :: i64 0 :: un 22 [], σ := [] }) = { T := i64 z1283 :: U :: U :: V.hs 0 0 0 :: i64 0 :: un 22 [], σ := [Ob.cells true true 1 []] } by kernel_rfl]
    exact h0
  cases r0 with
  | e0 k1296 l1299 =>
    obtain ⟨z1295, z1297, b1298, rfl⟩ := hr0
    cases h
    exact call_pathL (gs := [.lp (VX.exit 0) (s37_0_0 z1295 k1296 z1297 b1298 l1299)]) (notIn []) rfl rfl (by kernel_rfl) (And.intro h0 True.intro)
/-! ## 15 -/
inductive A15v1 where
  | a0 (z1315 : Int) (k1316 : Nat) (z1317 : Int) (l1318 : List (List V))
@[reducible] def A15v1.out : A15v1 → V × Store
  | .a0 z1315 k1316 z1317 l1318 => (i64 z1315, [Ob.cells true false 2 [[V.hs 1 0 k1316, i64 z1317]], Ob.cells true true 1 l1318])
def F15v1 (z1310 : Int) (k1311 : Nat) (z1312 : Int) (l1313 : List (List V)) : Option A15v1 :=
  if z1312 ≥ (↑k1311 : Int) then
   some (A15v1.a0 (0) (k1311) (z1312) (l1313))
  else
   if 0 ≤ w64 (w64 (z1312 + 1) - 1) ∧ w64 (w64 (z1312 + 1) - 1) < (↑k1311 : Int) then
    ((l1313[(0 : Nat) + Int.toNat (w64 (w64 (z1312 + (1 : Int)) - (1 : Int)))]?).bind W3.dec).bind fun e1319 =>
    (F17 (e1319.c0) (0) (1073741824)).bind fun r => match r with
    | .a0 z1320 =>
     if z1310 = 0 then
      none -- none
     else
      some (A15v1.a0 (Int.tmod z1320 z1310) (k1311) (w64 (z1312 + 1)) (l1313))
   else
    none -- none
theorem F15v1_ok (m : Nat) (z1310 : Int) (k1311 : Nat) (z1312 : Int) (l1313 : List (List V)) (r : A15v1) (h : F15v1 z1310 k1311 z1312 l1313 = some r) : call Try.prog X O0 18446744073709551616 (m + 2) 15 ([V.ptr 0 0 0, i64 z1310]) ([Ob.cells true false 2 [[V.hs 1 0 k1311, i64 z1312]], Ob.cells true true 1 l1313]) = some r.out := by
  unfold F15v1 at h
  rcases ite_eq h with ⟨h0, h⟩ | ⟨h0, h⟩
  · skip
    cases h
    exact call_pathL (gs := [.a, .a, .ft [⟨0, [], []⟩, ⟨1, [0], []⟩, ⟨2, [0], []⟩, ⟨3, [0], []⟩, ⟨4, [], []⟩, ⟨5, [0], []⟩, ⟨6, [0], []⟩, ⟨7, [0], []⟩, ⟨8, [1], []⟩, ⟨9, [], []⟩], .t]) (notIn []) rfl rfl (by kernel_rfl) (And.intro (Eq.refl ([⟨0, [], []⟩, ⟨1, [0], []⟩, ⟨2, [0], []⟩, ⟨3, [0], []⟩, ⟨4, [], []⟩, ⟨5, [0], []⟩, ⟨6, [0], []⟩, ⟨7, [0], []⟩, ⟨8, [1], []⟩, ⟨9, [], []⟩] : List Foot)) (And.intro (decide_eq_true h0) True.intro))
  · skip
    rcases ite_eq h with ⟨h1, h⟩ | ⟨h1, h⟩
    · skip
      obtain ⟨e1319, h2, h⟩ := Option.bind_eq_some_iff.mp h
      obtain ⟨r3, h3, h⟩ := Option.bind_eq_some_iff.mp h
      have h3 := F17_ok (m + 0) (e1319.c0) (0) (1073741824) r3 h3
      cases r3 with
      | a0 z1320 =>
        rcases ite_eq h with ⟨h4, h⟩ | ⟨h4, h⟩
        · skip
          cases h
        · skip
          cases h
          exact call_pathL (gs := [.a, .a, .ft [⟨0, [], []⟩, ⟨1, [0], []⟩, ⟨2, [0], []⟩, ⟨3, [0], []⟩, ⟨4, [], []⟩, ⟨5, [0], []⟩, ⟨6, [0], []⟩, ⟨7, [0], []⟩, ⟨8, [1], []⟩, ⟨9, [], []⟩], .f, .a, .a, .a, .a, .t, .el (W3.cells e1319), .an (i64 z1320) [], .f, .ft [⟨0, [], []⟩, ⟨1, [0], []⟩, ⟨2, [0], []⟩, ⟨3, [0], []⟩, ⟨4, [], []⟩, ⟨5, [0], []⟩, ⟨6, [0], []⟩, ⟨7, [0], []⟩, ⟨8, [], []⟩, ⟨9, [1], []⟩, ⟨10, [1], []⟩, ⟨11, [], []⟩, ⟨12, [], []⟩, ⟨13, [], []⟩, ⟨14, [], []⟩]]) (notIn []) rfl rfl (by kernel_rfl) (And.intro (Eq.refl ([⟨0, [], []⟩, ⟨1, [0], []⟩, ⟨2, [0], []⟩, ⟨3, [0], []⟩, ⟨4, [], []⟩, ⟨5, [0], []⟩, ⟨6, [0], []⟩, ⟨7, [0], []⟩, ⟨8, [1], []⟩, ⟨9, [], []⟩] : List Foot)) (And.intro (decide_eq_false h0) (And.intro (decide_eq_true h1) (And.intro (W3.dec_ok h2) (And.intro h3 (And.intro (decide_eq_false h4) (And.intro (Eq.refl ([⟨0, [], []⟩, ⟨1, [0], []⟩, ⟨2, [0], []⟩, ⟨3, [0], []⟩, ⟨4, [], []⟩, ⟨5, [0], []⟩, ⟨6, [0], []⟩, ⟨7, [0], []⟩, ⟨8, [], []⟩, ⟨9, [1], []⟩, ⟨10, [1], []⟩, ⟨11, [], []⟩, ⟨12, [], []⟩, ⟨13, [], []⟩, ⟨14, [], []⟩] : List Foot)) True.intro)))))))
    · skip
      cases h
/-! ## 54 -/
inductive A54v1 where
  | a0 (z1348 : Int) (k1349 : Nat) (z1350 : Int) (l1351 : List (List V))
@[reducible] def A54v1.out : A54v1 → V × Store
  | .a0 z1348 k1349 z1350 l1351 => (i64 z1348, [Ob.cells true false 2 [[V.hs 1 0 k1349, i64 z1350]], Ob.cells true true 1 l1351])
def F54v1 (z1334 : Int) (z1335 : Int) (k1336 : Nat) (z1337 : Int) (l1338 : List (List V)) : Option A54v1 :=
  (F15v1 (w64 (w64 (z1335 - z1334) + 1)) (k1336) (z1337) (l1338)).bind fun r => match r with
  | .a0 z1340 k1341 z1342 l1343 =>
   (F15v1 (4) (k1341) (z1342) (l1343)).bind fun r => match r with
   | .a0 z1344 k1345 z1346 l1347 =>
    if (z1344 == 0) = true then
     some (A54v1.a0 (w64 (w64 (w64 (z1334 + z1340) * 65536) + 32768)) (k1345) (z1346) (l1347))
    else
     if (z1344 == 1) = true then
      (F15v1 (65536) (k1345) (z1346) (l1347)).bind fun r => match r with
      | .a0 z1352 k1353 z1354 l1355 =>
       some (A54v1.a0 (w64 (w64 (w64 (z1334 + z1340) * 65536) + z1352)) (k1353) (z1354) (l1355))
     else
      some (A54v1.a0 (w64 (w64 (z1334 + z1340) * 65536)) (k1345) (z1346) (l1347))
theorem F54v1_ok (m : Nat) (z1334 : Int) (z1335 : Int) (k1336 : Nat) (z1337 : Int) (l1338 : List (List V)) (r : A54v1) (h : F54v1 z1334 z1335 k1336 z1337 l1338 = some r) : call Try.prog X O0 18446744073709551616 (m + 3) 54 ([V.ptr 0 0 0, i64 z1334, i64 z1335]) ([Ob.cells true false 2 [[V.hs 1 0 k1336, i64 z1337]], Ob.cells true true 1 l1338]) = some r.out := by
  unfold F54v1 at h
  obtain ⟨r0, h0, h⟩ := Option.bind_eq_some_iff.mp h
  have h0 := F15v1_ok (m + 0) (w64 (w64 (z1335 - z1334) + 1)) (k1336) (z1337) (l1338) r0 h0
  cases r0 with
  | a0 z1340 k1341 z1342 l1343 =>
    obtain ⟨r1, h1, h⟩ := Option.bind_eq_some_iff.mp h
    have h1 := F15v1_ok (m + 0) (4) (k1341) (z1342) (l1343) r1 h1
    cases r1 with
    | a0 z1344 k1345 z1346 l1347 =>
      rcases ite_eq h with ⟨h2, h⟩ | ⟨h2, h⟩
      · skip
        cases h
        exact call_pathL (gs := [.an (i64 z1340) [Ob.cells true false 2 [[V.hs 1 0 k1341, i64 z1342]], Ob.cells true true 1 l1343], .an (i64 z1344) [Ob.cells true false 2 [[V.hs 1 0 k1345, i64 z1346]], Ob.cells true true 1 l1347], .t]) (notIn []) rfl rfl (by kernel_rfl) (And.intro h0 (And.intro h1 (And.intro h2 True.intro)))
      · skip
        rcases ite_eq h with ⟨h3, h⟩ | ⟨h3, h⟩
        · skip
          obtain ⟨r4, h4, h⟩ := Option.bind_eq_some_iff.mp h
          have h4 := F15v1_ok (m + 0) (65536) (k1345) (z1346) (l1347) r4 h4
          cases r4 with
          | a0 z1352 k1353 z1354 l1355 =>
            cases h
            exact call_pathL (gs := [.an (i64 z1340) [Ob.cells true false 2 [[V.hs 1 0 k1341, i64 z1342]], Ob.cells true true 1 l1343], .an (i64 z1344) [Ob.cells true false 2 [[V.hs 1 0 k1345, i64 z1346]], Ob.cells true true 1 l1347], .f, .t, .an (i64 z1352) [Ob.cells true false 2 [[V.hs 1 0 k1353, i64 z1354]], Ob.cells true true 1 l1355]]) (notIn []) rfl rfl (by kernel_rfl) (And.intro h0 (And.intro h1 (And.intro (Bool.eq_false_iff.mpr h2) (And.intro h3 (And.intro h4 True.intro)))))
        · skip
          cases h
          exact call_pathL (gs := [.an (i64 z1340) [Ob.cells true false 2 [[V.hs 1 0 k1341, i64 z1342]], Ob.cells true true 1 l1343], .an (i64 z1344) [Ob.cells true false 2 [[V.hs 1 0 k1345, i64 z1346]], Ob.cells true true 1 l1347], .f, .f]) (notIn []) rfl rfl (by kernel_rfl) (And.intro h0 (And.intro h1 (And.intro (Bool.eq_false_iff.mpr h2) (And.intro (Bool.eq_false_iff.mpr h3) True.intro))))
/-! ## 22 -/
noncomputable abbrev B22 : Code := (Try.f22.body).getD .skip
inductive R22_0 where
  | e0 (k1415 : Nat) (z1416 : Int) (l1417 : List (List V)) (b1418 : Bool) (k1419 : Nat) (l1420 : List (List V))
@[reducible] def s22_0_0 (z1413 : Int) (b1414 : Bool) (k1415 : Nat) (z1416 : Int) (l1417 : List (List V)) (b1418 : Bool) (k1419 : Nat) (l1420 : List (List V)) : S := { T := V.ptr 0 0 0 :: U :: V.ptr 2 0 0 :: V.ptr 3 0 0 :: i64 z1413 :: un 7 (i64 z1413 :: vb b1414 :: un 23 []), σ := [Ob.cells true false 2 [[V.hs 1 0 k1415, i64 z1416]], Ob.cells true true 1 l1417, Ob.cells true false 2 [[vb false, V.hs 4 0 0]], Ob.cells true false 2 [[vb b1418, V.hs 5 0 k1419]], Ob.cells true true 2 [], Ob.cells true true 2 l1420] }
def R22_0.St : R22_0 → VX × S → Prop
  | .e0 k1415 z1416 l1417 b1418 k1419 l1420, p => ∃ z1413 : Int, ∃ b1414 : Bool, p = (VX.exit 0, s22_0_0 z1413 b1414 k1415 z1416 l1417 b1418 k1419 l1420)
def L22_0 : Nat → Int → Nat → Int → List (List V) → Bool → Nat → List (List V) → Option R22_0
  | 0, _, _, _, _, _, _, _ => none
  | n + 1, z1368, k1369, z1370, l1371, b1372, k1373, l1374 =>
    if z1368 > 0 then
     (F54v1 (-5) (20) (k1369) (z1370) (l1371)).bind fun r => match r with
     | .a0 z1401 k1402 z1403 l1404 =>
      (F54v1 (-5) (20) (k1402) (z1403) (l1404)).bind fun r => match r with
      | .a0 z1405 k1406 z1407 l1408 =>
       if 0 + k1373 ≤ List.length l1374 ∧ (k1373 + 1) * 16 ≤ 140737488355328 ∧ k1373 + 1 ≤ 140737488355328 then
        (F15v1 (6) (k1406) (z1407) (l1408)).bind fun r => match r with
        | .a0 z1409 k1410 z1411 l1412 =>
         if (z1409 == 0) = true then
          if 0 + (k1373 + 1) ≤ List.length (List.take k1373 l1374 ++ [[i64 z1401, i64 z1405]]) ∧ (k1373 + 1 + 1) * 16 ≤ 140737488355328 ∧ k1373 + 1 + 1 ≤ 140737488355328 then
           L22_0 n (w64 (z1368 - 1)) (k1410) (z1411) (l1412) (b1372) (k1373 + 1 + 1) (List.take (k1373 + 1) (List.take k1373 l1374 ++ [[i64 z1401, i64 z1405]]) ++ [[i64 z1401, i64 z1405]])
          else
           none -- none
         else
          L22_0 n (w64 (z1368 - 1)) (k1410) (z1411) (l1412) (b1372) (k1373 + 1) (List.take k1373 l1374 ++ [[i64 z1401, i64 z1405]])
       else
        none -- none
    else
     some (R22_0.e0 (k1369) (z1370) (l1371) (b1372) (k1373) (l1374))
theorem L22_0_ok (m : Nat) : ∀ (n : Nat) (z1368 : Int) (k1369 : Nat) (z1370 : Int) (l1371 : List (List V)) (b1372 : Bool) (k1373 : Nat) (l1374 : List (List V)) (r : R22_0), L22_0 n z1368 k1369 z1370 l1371 b1372 k1373 l1374 = some r → ∃ st, loopFrom Try.prog X (genO X (call Try.prog X O0 18446744073709551616 (m + 3))) 22 (2) 18446744073709551616 B22 0 n ({ T := V.ptr 0 0 0 :: U :: V.ptr 2 0 0 :: V.ptr 3 0 0 :: i64 z1368 :: un 32 [], σ := [Ob.cells true false 2 [[V.hs 1 0 k1369, i64 z1370]], Ob.cells true true 1 l1371, Ob.cells true false 2 [[vb false, V.hs 4 0 0]], Ob.cells true false 2 [[vb b1372, V.hs 5 0 k1373]], Ob.cells true true 2 [], Ob.cells true true 2 l1374] }) = some st ∧ r.St st
  | 0, _, _, _, _, _, _, _, r, h => by cases h
  | n + 1, z1368, k1369, z1370, l1371, b1372, k1373, l1374, r, h => by
    rw [L22_0] at h
    rcases ite_eq h with ⟨h0, h⟩ | ⟨h0, h⟩
    · skip
      obtain ⟨r1, h1, h⟩ := Option.bind_eq_some_iff.mp h
      have h1 := F54v1_ok (m + 0) (-5) (20) (k1369) (z1370) (l1371) r1 h1
      cases r1 with
      | a0 z1401 k1402 z1403 l1404 =>
        obtain ⟨r2, h2, h⟩ := Option.bind_eq_some_iff.mp h
        have h2 := F54v1_ok (m + 0) (-5) (20) (k1402) (z1403) (l1404) r2 h2
        cases r2 with
        | a0 z1405 k1406 z1407 l1408 =>
          rcases ite_eq h with ⟨h3, h⟩ | ⟨h3, h⟩
          · skip
            obtain ⟨r4, h4, h⟩ := Option.bind_eq_some_iff.mp h
            have h4 := F15v1_ok (m + 1) (6) (k1406) (z1407) (l1408) r4 h4
            cases r4 with
            | a0 z1409 k1410 z1411 l1412 =>
              rcases ite_eq h with ⟨h5, h⟩ | ⟨h5, h⟩
              · skip
                rcases ite_eq h with ⟨h6, h⟩ | ⟨h6, h⟩
                · skip
                  obtain ⟨st, hs, hr⟩ := L22_0_ok m n (w64 (z1368 - 1)) (k1410) (z1411) (l1412) (b1372) (k1373 + 1 + 1) (List.take (k1373 + 1) (List.take k1373 l1374 ++ [[i64 z1401, i64 z1405]]) ++ [[i64 z1401, i64 z1405]]) r h
                  exact ⟨st, (round_on (gs := [.t, .an (i64 z1401) [Ob.cells true false 2 [[V.hs 1 0 k1402, i64 z1403]], Ob.cells true true 1 l1404], .an (i64 z1405) [Ob.cells true false 2 [[V.hs 1 0 k1406, i64 z1407]], Ob.cells true true 1 l1408], .a, .a, .a, .a, .t, .a, .an (i64 z1409) [Ob.cells true false 2 [[V.hs 1 0 k1410, i64 z1411]], Ob.cells true true 1 l1412], .t, .a, .a, .a, .t, .a]) (notIn []) (by kernel_rfl) (And.intro (decide_eq_true h0) (And.intro h1 (And.intro h2 (And.intro (decide_eq_true h3) (And.intro h4 (And.intro h5 (And.intro (decide_eq_true h6) True.intro))))))) n).trans hs, hr⟩
                · skip
                  cases h
              · skip
                obtain ⟨st, hs, hr⟩ := L22_0_ok m n (w64 (z1368 - 1)) (k1410) (z1411) (l1412) (b1372) (k1373 + 1) (List.take k1373 l1374 ++ [[i64 z1401, i64 z1405]]) r h
                exact ⟨st, (round_on (gs := [.t, .an (i64 z1401) [Ob.cells true false 2 [[V.hs 1 0 k1402, i64 z1403]], Ob.cells true true 1 l1404], .an (i64 z1405) [Ob.cells true false 2 [[V.hs 1 0 k1406, i64 z1407]], Ob.cells true true 1 l1408], .a, .a, .a, .a, .t, .a, .an (i64 z1409) [Ob.cells true false 2 [[V.hs 1 0 k1410, i64 z1411]], Ob.cells true true 1 l1412], .f]) (notIn []) (by kernel_rfl) (And.intro (decide_eq_true h0) (And.intro h1 (And.intro h2 (And.intro (decide_eq_true h3) (And.intro h4 (And.intro (Bool.eq_false_iff.mpr h5) True.intro)))))) n).trans hs, hr⟩
          · skip
            cases h
    · skip
      cases h
      exact ⟨_, round_out (gs := [.f]) (notIn []) (by kernel_rfl) rfl (And.intro (decide_eq_false h0) True.intro) n, z1368, decide (z1368 > 0), rfl⟩
inductive A22 where
  | a0 (b1429 : Bool) (k1430 : Nat) (k1431 : Nat) (z1432 : Int) (l1433 : List (List V)) (l1434 : List (List V))
@[reducible] def A22.out : A22 → V × Store
  | .a0 b1429 k1430 k1431 z1432 l1433 l1434 => (V.agg [vb b1429, V.hs 2 0 k1430], [Ob.cells true false 2 [[V.hs 1 0 k1431, i64 z1432]], Ob.cells true true 1 l1433, Ob.cells true true 2 l1434])
def F22 (k1306 : Nat) (z1307 : Int) (l1308 : List (List V)) : Option A22 :=
  (F15v1 (2) (k1306) (z1307) (l1308)).bind fun r => match r with
  | .a0 z1393 k1394 z1395 l1396 =>
   (F15v1 (7) (k1394) (z1395) (l1396)).bind fun r => match r with
   | .a0 z1397 k1398 z1399 l1400 =>
    (L22_0 18446744073709551616 (z1397) (k1398) (z1399) (l1400) (z1393 == 0) (0) ([])).bind fun r => match r with
    | .e0 k1423 z1424 l1425 b1426 k1427 l1428 =>
     some (A22.a0 (b1426) (k1427) (k1423) (z1424) (l1425) (l1428))
theorem F22_ok (m : Nat) (k1306 : Nat) (z1307 : Int) (l1308 : List (List V)) (r : A22) (h : F22 k1306 z1307 l1308 = some r) : call Try.prog X O0 18446744073709551616 (m + 4) 22 ([V.ptr 0 0 0]) ([Ob.cells true false 2 [[V.hs 1 0 k1306, i64 z1307]], Ob.cells true true 1 l1308]) = some r.out := by
  unfold F22 at h
  obtain ⟨r0, h0, h⟩ := Option.bind_eq_some_iff.mp h
  have h0 := F15v1_ok (m + 1) (2) (k1306) (z1307) (l1308) r0 h0
  cases r0 with
  | a0 z1393 k1394 z1395 l1396 =>
    obtain ⟨r1, h1, h⟩ := Option.bind_eq_some_iff.mp h
    have h1 := F15v1_ok (m + 1) (7) (k1394) (z1395) (l1396) r1 h1
    cases r1 with
    | a0 z1397 k1398 z1399 l1400 =>
      obtain ⟨r2, h2, h⟩ := Option.bind_eq_some_iff.mp h
      obtain ⟨st2, h2, hr2⟩ := L22_0_ok m 18446744073709551616 (z1397) (k1398) (z1399) (l1400) (z1393 == 0) (0) ([]) r2 h2
      have h2 : loopRun Try.prog X (genO X (call Try.prog X O0 18446744073709551616 (m + 3))) 22 (2) 18446744073709551616 B22 0 ({ T := V.ptr 0 0 0 :: U :: V.ptr 2 0 0 :: V.ptr 3 0 0 :: i64 z1397 :: U :: V.ptr 0 0 0 :: i64 z1393 :: vb (z1393 == 0) :: V.agg [vb (z1393 == 0), V.nilS] :: V.ptr 0 0 0 :: i64 z1397 :: un 25 [], σ := [Ob.cells true false 2 [[V.hs 1 0 k1398, i64 z1399]], Ob.cells true true 1 l1400, Ob.cells true false 2 [[vb false, V.nilS]], Ob.cells true false 2 [[vb (z1393 == 0), V.nilS]]] }) = some st2 := by
        rw [loopRun_from, show pre X 22 (2) 0 ({ T := V.ptr 0 0 0 :: U :: V.ptr 2 0 0 :: V.ptr 3 0 0 :: i64 z1397 :: U :: V.ptr 0 0 0 :: i64 z1393 :: vb (z1393 == 0) :: V.agg [vb (z1393 == 0), V.nilS] :: V.ptr 0 0 0 :: i64 z1397 :: un 25 [], σ := [Ob.cells true false 2 [[V.hs 1 0 k1398, i64 z1399]], Ob.cells true true 1 l1400, Ob.cells true false 2 [[vb false, V.nilS]], Ob.cells true false 2 [[vb (z1393 == 0), V.nilS]]] }) = { T := V.ptr 0 0 0 :: U :: V.ptr 2 0 0 :: V.ptr 3 0 0 :: i64 z1397 :: un 32 [], σ := [Ob.cells true false 2 [[V.hs 1 0 k1398, i64 z1399]], Ob.cells true true 1 l1400, Ob.cells true false 2 [[vb false, V.hs 4 0 0]], Ob.cells true false 2 [[vb (z1393 == 0), V.hs 5 0 0]], Ob.cells true true 2 [], Ob.cells true true 2 []] } by kernel_rfl]
        exact h2
      cases r2 with
      | e0 k1423 z1424 l1425 b1426 k1427 l1428 =>
        obtain ⟨z1421, b1422, rfl⟩ := hr2
        cases h
        exact call_pathL (gs := [.an (i64 z1393) [Ob.cells true false 2 [[V.hs 1 0 k1394, i64 z1395]], Ob.cells true true 1 l1396], .a, .an (i64 z1397) [Ob.cells true false 2 [[V.hs 1 0 k1398, i64 z1399]], Ob.cells true true 1 l1400], .lp (VX.exit 0) (s22_0_0 z1421 b1422 k1423 z1424 l1425 b1426 k1427 l1428), .a, .a]) (notIn []) rfl rfl (by kernel_rfl) (And.intro h0 (And.intro h1 (And.intro h2 True.intro)))
/-! ## 38 -/
inductive A38 where
  | a0 (b1472 : Bool)
@[reducible] def A38.out : A38 → V × Store
  | .a0 b1472 => (vb b1472, [])
def F38 (b1456 : Bool) (l1457 : List (List V)) (z1458 : Int) (z1459 : Int) : Option A38 :=
  (F23 (b1456) (l1457)).bind fun r => match r with
  | .a0 z1461 =>
   (F29 (b1456) (l1457)).bind fun r => match r with
   | .a0 z1462 =>
    if (z1461 == z1462) = true then
     bnd (F26 (b1456) (l1457)) fun z1463 =>
     bnd (F58 (b1456) (l1457)) fun z1464 =>
     if (z1463 == z1464) = true then
      (F24 (b1456) (l1457) (z1458) (z1459)).bind fun r => match r with
      | .a0 b1465 k1466 l1467 =>
       if 0 + k1466 ≤ List.length l1467 then
        (F70 (b1456) (l1457) (z1458) (z1459)).bind fun r => match r with
        | .a0 b1468 k1469 l1470 =>
         if 0 + k1469 ≤ List.length l1470 then
          (F32 ([[vb b1465, V.list 2 (List.take k1466 l1467)]]) ([[vb b1468, V.list 2 (List.take k1469 l1470)]])).bind fun r => match r with
          | .a0 b1471 =>
           some (A38.a0 (b1471))
         else
          none -- none
       else
        none -- none
     else
      some (A38.a0 (false))
    else
     some (A38.a0 (false))
theorem F38_ok (m : Nat) (b1456 : Bool) (l1457 : List (List V)) (z1458 : Int) (z1459 : Int) (r : A38) (h : F38 b1456 l1457 z1458 z1459 = some r) : call Try.prog X O0 18446744073709551616 (m + 9) 38 ([V.agg [vb b1456, V.list 2 l1457], i64 z1458, i64 z1459]) ([]) = some r.out := by
  unfold F38 at h
  obtain ⟨r0, h0, h⟩ := Option.bind_eq_some_iff.mp h
  have h0 := F23_ok (m + 3) (b1456) (l1457) r0 h0
  cases r0 with
  | a0 z1461 =>
    obtain ⟨r1, h1, h⟩ := Option.bind_eq_some_iff.mp h
    have h1 := F29_ok (m + 3) (b1456) (l1457) r1 h1
    cases r1 with
    | a0 z1462 =>
      rcases ite_eq h with ⟨h2, h⟩ | ⟨h2, h⟩
      · skip
        obtain ⟨z1463, h3, h⟩ := bnd_eq h
        obtain ⟨z1464, h4, h⟩ := bnd_eq h
        rcases ite_eq h with ⟨h5, h⟩ | ⟨h5, h⟩
        · skip
          obtain ⟨r6, h6, h⟩ := Option.bind_eq_some_iff.mp h
          have h6 := F24_ok (m + 2) (b1456) (l1457) (z1458) (z1459) r6 h6
          cases r6 with
          | a0 b1465 k1466 l1467 =>
            rcases ite_eq h with ⟨h7, h⟩ | ⟨h7, h⟩
            · skip
              obtain ⟨r8, h8, h⟩ := Option.bind_eq_some_iff.mp h
              have h8 := F70_ok (m + 0) (b1456) (l1457) (z1458) (z1459) r8 h8
              cases r8 with
              | a0 b1468 k1469 l1470 =>
                rcases ite_eq h with ⟨h9, h⟩ | ⟨h9, h⟩
                · skip
                  obtain ⟨r10, h10, h⟩ := Option.bind_eq_some_iff.mp h
                  have h10 := F32_ok (m + 6) ([[vb b1465, V.list 2 (List.take k1466 l1467)]]) ([[vb b1468, V.list 2 (List.take k1469 l1470)]]) r10 h10
                  cases r10 with
                  | a0 b1471 =>
                    cases h
                    exact call_pathL (gs := [.a, .an (i64 z1461) [], .a, .an (i64 z1462) [], .t, .a, .t, .an (i64 z1463) [], .t, .a, .t, .an (i64 z1464) [], .t, .t, .t, .a, .t, .t, .t, .an (V.agg [vb b1465, V.hs 0 0 k1466]) [Ob.cells true true 2 l1467], .t, .t, .t, .a, .t, .t, .t, .an (V.agg [vb b1468, V.hs 0 0 k1469]) [Ob.cells true true 2 l1470], .t, .t, .t, .a, .a, .an (vb b1471) [], .t, .ft [⟨0, [0], []⟩, ⟨1, [], []⟩, ⟨2, [0], []⟩, ⟨3, [], []⟩, ⟨4, [], []⟩, ⟨5, [], []⟩, ⟨6, [0], []⟩, ⟨7, [], []⟩, ⟨8, [0], []⟩, ⟨9, [], []⟩, ⟨10, [], []⟩, ⟨11, [], []⟩, ⟨12, [], []⟩, ⟨13, [0], []⟩, ⟨14, [], []⟩, ⟨15, [], []⟩, ⟨16, [1], [1]⟩, ⟨17, [1, 2], [1, 2]⟩, ⟨18, [0], []⟩, ⟨19, [], []⟩, ⟨20, [], []⟩, ⟨21, [3], [3]⟩, ⟨22, [3, 4], [3, 4]⟩, ⟨23, [2, 4], []⟩, ⟨24, [], []⟩, ⟨25, [], []⟩]]) (notIn []) rfl rfl (by kernel_rfl) (And.intro h0 (And.intro h1 (And.intro h2 (And.intro h2 (And.intro (F26_ok (m + 7) (b1456) (l1457) z1463 h3) (And.intro h2 (And.intro h2 (And.intro (F58_ok (m + 7) (b1456) (l1457) z1464 h4) (And.intro h2 (And.intro h2 (And.intro h5 (And.intro h5 (And.intro h5 (And.intro h5 (And.intro h6 (And.intro h5 (And.intro (decide_eq_true h7) (And.intro h5 (And.intro h5 (And.intro h5 (And.intro h5 (And.intro h8 (And.intro h5 (And.intro (decide_eq_true h9) (And.intro h5 (And.intro h10 (And.intro h5 (And.intro (Eq.refl ([⟨0, [0], []⟩, ⟨1, [], []⟩, ⟨2, [0], []⟩, ⟨3, [], []⟩, ⟨4, [], []⟩, ⟨5, [], []⟩, ⟨6, [0], []⟩, ⟨7, [], []⟩, ⟨8, [0], []⟩, ⟨9, [], []⟩, ⟨10, [], []⟩, ⟨11, [], []⟩, ⟨12, [], []⟩, ⟨13, [0], []⟩, ⟨14, [], []⟩, ⟨15, [], []⟩, ⟨16, [1], [1]⟩, ⟨17, [1, 2], [1, 2]⟩, ⟨18, [0], []⟩, ⟨19, [], []⟩, ⟨20, [], []⟩, ⟨21, [3], [3]⟩, ⟨22, [3, 4], [3, 4]⟩, ⟨23, [2, 4], []⟩, ⟨24, [], []⟩, ⟨25, [], []⟩] : List Foot)) True.intro))))))))))))))))))))))))))))
                · skip
                  cases h
            · skip
              cases h
        · skip
          cases h
          exact call_pathL (gs := [.a, .an (i64 z1461) [], .a, .an (i64 z1462) [], .t, .a, .t, .an (i64 z1463) [], .t, .a, .t, .an (i64 z1464) [], .t, .t, .f, .f, .f, .f, .f, .f, .f, .f, .f, .f, .f, .f, .ft [⟨0, [0], []⟩, ⟨1, [], []⟩, ⟨2, [0], []⟩, ⟨3, [], []⟩, ⟨4, [], []⟩, ⟨5, [], []⟩, ⟨6, [0], []⟩, ⟨7, [], []⟩, ⟨8, [0], []⟩, ⟨9, [], []⟩, ⟨10, [], []⟩, ⟨11, [], []⟩, ⟨12, [], []⟩, ⟨13, [], []⟩, ⟨14, [], []⟩, ⟨15, [], []⟩, ⟨16, [], []⟩, ⟨17, [], []⟩, ⟨18, [], []⟩, ⟨19, [], []⟩, ⟨20, [], []⟩, ⟨21, [], []⟩, ⟨22, [], []⟩, ⟨23, [], []⟩, ⟨24, [], []⟩, ⟨25, [], []⟩]]) (notIn []) rfl rfl (by kernel_rfl) (And.intro h0 (And.intro h1 (And.intro h2 (And.intro h2 (And.intro (F26_ok (m + 7) (b1456) (l1457) z1463 h3) (And.intro h2 (And.intro h2 (And.intro (F58_ok (m + 7) (b1456) (l1457) z1464 h4) (And.intro h2 (And.intro h2 (And.intro (Bool.eq_false_iff.mpr h5) (And.intro (Bool.eq_false_iff.mpr h5) (And.intro (Bool.eq_false_iff.mpr h5) (And.intro (Bool.eq_false_iff.mpr h5) (And.intro (Bool.eq_false_iff.mpr h5) (And.intro (Bool.eq_false_iff.mpr h5) (And.intro (Bool.eq_false_iff.mpr h5) (And.intro (Bool.eq_false_iff.mpr h5) (And.intro (Bool.eq_false_iff.mpr h5) (And.intro (Bool.eq_false_iff.mpr h5) (And.intro (Bool.eq_false_iff.mpr h5) (And.intro (Bool.eq_false_iff.mpr h5) (And.intro (Eq.refl ([⟨0, [0], []⟩, ⟨1, [], []⟩, ⟨2, [0], []⟩, ⟨3, [], []⟩, ⟨4, [], []⟩, ⟨5, [], []⟩, ⟨6, [0], []⟩, ⟨7, [], []⟩, ⟨8, [0], []⟩, ⟨9, [], []⟩, ⟨10, [], []⟩, ⟨11, [], []⟩, ⟨12, [], []⟩, ⟨13, [], []⟩, ⟨14, [], []⟩, ⟨15, [], []⟩, ⟨16, [], []⟩, ⟨17, [], []⟩, ⟨18, [], []⟩, ⟨19, [], []⟩, ⟨20, [], []⟩, ⟨21, [], []⟩, ⟨22, [], []⟩, ⟨23, [], []⟩, ⟨24, [], []⟩, ⟨25, [], []⟩] : List Foot)) True.intro)))))))))))))))))))))))
      · skip
        cases h
        exact call_pathL (gs := [.a, .an (i64 z1461) [], .a, .an (i64 z1462) [], .f, .f, .f, .f, .f, .f, .a, .a, .a, .a, .a, .a, .a, .a, .a, .a, .a, .a, .ft [⟨0, [0], []⟩, ⟨1, [], []⟩, ⟨2, [0], []⟩, ⟨3, [], []⟩, ⟨4, [], []⟩, ⟨5, [], []⟩, ⟨6, [], []⟩, ⟨7, [], []⟩, ⟨8, [], []⟩, ⟨9, [], []⟩, ⟨10, [], []⟩, ⟨11, [], []⟩, ⟨12, [], []⟩, ⟨13, [], []⟩, ⟨14, [], []⟩, ⟨15, [], []⟩, ⟨16, [], []⟩, ⟨17, [], []⟩, ⟨18, [], []⟩, ⟨19, [], []⟩, ⟨20, [], []⟩, ⟨21, [], []⟩, ⟨22, [], []⟩, ⟨23, [], []⟩, ⟨24, [], []⟩, ⟨25, [], []⟩]]) (notIn []) rfl rfl (by kernel_rfl) (And.intro h0 (And.intro h1 (And.intro (Bool.eq_false_iff.mpr h2) (And.intro (Bool.eq_false_iff.mpr h2) (And.intro (Bool.eq_false_iff.mpr h2) (And.intro (Bool.eq_false_iff.mpr h2) (And.intro (Bool.eq_false_iff.mpr h2) (And.intro (Bool.eq_false_iff.mpr h2) (And.intro (Eq.refl ([⟨0, [0], []⟩, ⟨1, [], []⟩, ⟨2, [0], []⟩, ⟨3, [], []⟩, ⟨4, [], []⟩, ⟨5, [], []⟩, ⟨6, [], []⟩, ⟨7, [], []⟩, ⟨8, [], []⟩, ⟨9, [], []⟩, ⟨10, [], []⟩, ⟨11, [], []⟩, ⟨12, [], []⟩, ⟨13, [], []⟩, ⟨14, [], []⟩, ⟨15, [], []⟩, ⟨16, [], []⟩, ⟨17, [], []⟩, ⟨18, [], []⟩, ⟨19, [], []⟩, ⟨20, [], []⟩, ⟨21, [], []⟩, ⟨22, [], []⟩, ⟨23, [], []⟩, ⟨24, [], []⟩, ⟨25, [], []⟩] : List Foot)) True.intro)))))))))
end Go.Proofs.Ythohhdcngdmbeaa.H
