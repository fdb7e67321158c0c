/- What the functions compute, and that they do so over the machine of plain values (printed by this session's program wip/vm/Walk.lean). No condition beyond those stated. -/
import Derived.Test.YtcomanfboibhiaaWk
import Derived.Test.YtcomanfboibhiaaRowsR4
set_option linter.unusedVariables false
set_option linter.unusedSimpArgs false
namespace Go.Proofs.Ytcomanfboibhiaa.H
open Go Go.VM
set_option maxRecDepth 100000
/-! ## 38 -/
inductive A38 where
  | a0 (z10 : Int) (z11 : Int)
@[reducible] def A38.out : A38 → V × Store
  | .a0 z10 z11 => (V.agg [i64 z10, i64 z11], [])
def F38 (z7 : Int) (z8 : Int) : Option A38 :=
  some (A38.a0 (z7) (z8))
theorem F38_ok (m : Nat) (z7 : Int) (z8 : Int) (r : A38) (h : F38 z7 z8 = some r) : call Try.prog X O0 18446744073709551616 (m + 1) 38 ([i64 z7, i64 z8]) ([]) = some r.out := by
  unfold F38 at h
  cases h
  exact call_pathL (gs := [.a]) (notIn []) rfl rfl (by kernel_rfl) True.intro
/-! ## 37 -/
noncomputable abbrev B37 : Code := (Try.f37.body).getD .skip
inductive R37_0 where
  | e0 (k51 : Nat) (l52 : List (List V))
@[reducible] def s37_0_0 (l47 : List (List V)) (z48 : Int) (z49 : Int) (b50 : Bool) (k51 : Nat) (l52 : List (List V)) : S := { T := V.list 2 l47 :: U :: V.ptr 0 0 0 :: V.ptr 1 0 0 :: un 8 (V.list 2 l47 :: i64 z48 :: i64 z49 :: vb b50 :: un 21 []), σ := [Ob.cells true false 2 [[vb false, V.hs 2 0 0]], Ob.cells true false 2 [[vb true, V.hs 3 0 k51]], Ob.cells true true 2 [], Ob.cells true true 2 l52] }
def R37_0.St : R37_0 → VX × S → Prop
  | .e0 k51 l52, p => ∃ l47 : List (List V), ∃ z48 : Int, ∃ z49 : Int, ∃ b50 : Bool, p = (VX.exit 0, s37_0_0 l47 z48 z49 b50 k51 l52)
def L37_0 : Nat → List (List V) → Int → Int → Nat → List (List V) → Option R37_0
  | 0, _, _, _, _, _ => none
  | n + 1, l28, z29, z30, k31, l32 =>
    if z30 < z29 then
     if 0 ≤ z30 then
      ((l28[Int.toNat z30]?).bind W44.dec).bind fun e45 =>
      if (↑(List.length l28) : Int) = 0 then
       none -- none
      else
       if 0 ≤ Int.tmod (w64 (z30 + 1)) (↑(List.length l28) : Int) then
        ((l28[Int.toNat (Int.tmod (w64 (z30 + (1 : Int))) (↑(List.length l28) : Int))]?).bind W44.dec).bind fun e46 =>
        if 0 + k31 ≤ List.length l32 ∧ (k31 + 3) * 16 ≤ 140737488355328 ∧ k31 + 3 ≤ 140737488355328 then
         L37_0 n (l28) (z29) (w64 (z30 + 1)) (k31 + 3) (List.take k31 l32 ++ [[i64 e45.c0, i64 e45.c1], [i64 e46.c0, i64 e46.c1], [i64 e46.c0, i64 e46.c1]])
        else
         none -- none
       else
        none -- none
     else
      none -- none
    else
     some (R37_0.e0 (k31) (l32))
theorem L37_0_ok (m : Nat) : ∀ (n : Nat) (l28 : List (List V)) (z29 : Int) (z30 : Int) (k31 : Nat) (l32 : List (List V)) (r : R37_0), L37_0 n l28 z29 z30 k31 l32 = some r → ∃ st, loopFrom Try.prog X (genO X (call Try.prog X O0 18446744073709551616 (m + 0))) 37 (0) 18446744073709551616 B37 0 n ({ T := V.list 2 l28 :: U :: V.ptr 0 0 0 :: V.ptr 1 0 0 :: un 8 (V.list 2 l28 :: i64 z29 :: i64 z30 :: un 22 []), σ := [Ob.cells true false 2 [[vb false, V.hs 2 0 0]], Ob.cells true false 2 [[vb true, V.hs 3 0 k31]], Ob.cells true true 2 [], Ob.cells true true 2 l32] }) = some st ∧ r.St st
  | 0, _, _, _, _, _, r, h => by cases h
  | n + 1, l28, z29, z30, k31, l32, r, h => by
    rw [L37_0] at h
    rcases ite_eq h with ⟨h0, h⟩ | ⟨h0, h⟩
    · skip
      rcases ite_eq h with ⟨h1, h⟩ | ⟨h1, h⟩
      · skip
        obtain ⟨e45, h2, h⟩ := Option.bind_eq_some_iff.mp h
        rcases ite_eq h with ⟨h3, h⟩ | ⟨h3, h⟩
        · skip
          cases h
        · skip
          rcases ite_eq h with ⟨h4, h⟩ | ⟨h4, h⟩
          · skip
            obtain ⟨e46, h5, h⟩ := Option.bind_eq_some_iff.mp h
            rcases ite_eq h with ⟨h6, h⟩ | ⟨h6, h⟩
            · skip
              obtain ⟨st, hs, hr⟩ := L37_0_ok m n (l28) (z29) (w64 (z30 + 1)) (k31 + 3) (List.take k31 l32 ++ [[i64 e45.c0, i64 e45.c1], [i64 e46.c0, i64 e46.c1], [i64 e46.c0, i64 e46.c1]]) r h
              exact ⟨st, (round_on (gs := [.t, .t, .el (W44.cells e45), .a, .f, .t, .el (W44.cells e46), .a, .a, .a, .a, .a, .a, .t, .a]) (notIn []) (by kernel_rfl) (And.intro (decide_eq_true h0) (And.intro (decide_eq_true h1) (And.intro (W44.dec_ok h2) (And.intro (decide_eq_false h3) (And.intro (decide_eq_true h4) (And.intro (W44.dec_ok h5) (And.intro (decide_eq_true h6) True.intro))))))) n).trans hs, hr⟩
            · skip
              cases h
          · skip
            cases h
      · skip
        cases h
    · skip
      cases h
      exact ⟨_, round_out (gs := [.f]) (notIn []) (by kernel_rfl) rfl (And.intro (decide_eq_false h0) True.intro) n, l28, z29, z30, decide (z30 < z29), rfl⟩
inductive A37 where
  | a0 (b59 : Bool) (k60 : Nat) (l61 : List (List V))
@[reducible] def A37.out : A37 → V × Store
  | .a0 b59 k60 l61 => (V.agg [vb b59, V.hs 0 0 k60], [Ob.cells true true 2 l61])
def F37 (l20 : List (List V)) : Option A37 :=
  ((l20[(0 : Nat)]?).bind W44.dec).bind fun e44 =>
  (L37_0 18446744073709551616 (l20) ((↑(List.length l20) : Int)) (0) (1) ([[i64 e44.c0, i64 e44.c1]])).bind fun r => match r with
  | .e0 k57 l58 =>
   some (A37.a0 (true) (k57) (l58))
theorem F37_ok (m : Nat) (l20 : List (List V)) (r : A37) (h : F37 l20 = some r) : call Try.prog X O0 18446744073709551616 (m + 1) 37 ([V.list 2 l20]) ([]) = some r.out := by
  unfold F37 at h
  obtain ⟨e44, h0, h⟩ := Option.bind_eq_some_iff.mp h
  obtain ⟨r1, h1, h⟩ := Option.bind_eq_some_iff.mp h
  obtain ⟨st1, h1, hr1⟩ := L37_0_ok m 18446744073709551616 (l20) ((↑(List.length l20) : Int)) (0) (1) ([[i64 e44.c0, i64 e44.c1]]) r1 h1
  have h1 : loopRun Try.prog X (genO X (call Try.prog X O0 18446744073709551616 (m + 0))) 37 (0) 18446744073709551616 B37 0 ({ T := V.list 2 l20 :: U :: V.ptr 0 0 0 :: V.ptr 2 0 0 :: U :: U :: U :: V.list 2 l20 :: V.pp [i64 e44.c0, i64 e44.c1] :: V.agg [i64 e44.c0, i64 e44.c1] :: V.hs 1 0 1 :: V.agg [vb true, V.hs 1 0 1] :: V.list 2 l20 :: i64 (↑(List.length l20) : Int) :: i64 0 :: un 22 [], σ := [Ob.cells true false 2 [[vb false, V.nilS]], Ob.cells true true 2 [[i64 e44.c0, i64 e44.c1]], Ob.cells true false 2 [[vb true, V.hs 1 0 1]]] }) = some st1 := by
    rw [loopRun_from, show pre X 37 (0) 0 ({ T := V.list 2 l20 :: U :: V.ptr 0 0 0 :: V.ptr 2 0 0 :: U :: U :: U :: V.list 2 l20 :: V.pp [i64 e44.c0, i64 e44.c1] :: V.agg [i64 e44.c0, i64 e44.c1] :: V.hs 1 0 1 :: V.agg [vb true, V.hs 1 0 1] :: V.list 2 l20 :: i64 (↑(List.length l20) : Int) :: i64 0 :: un 22 [], σ := [Ob.cells true false 2 [[vb false, V.nilS]], Ob.cells true true 2 [[i64 e44.c0, i64 e44.c1]], Ob.cells true false 2 [[vb true, V.hs 1 0 1]]] }) = { T := V.list 2 l20 :: U :: V.ptr 0 0 0 :: V.ptr 1 0 0 :: un 8 (V.list 2 l20 :: i64 (↑(List.length l20) : Int) :: i64 0 :: un 22 []), σ := [Ob.cells true false 2 [[vb false, V.hs 2 0 0]], Ob.cells true false 2 [[vb true, V.hs 3 0 1]], Ob.cells true true 2 [], Ob.cells true true 2 [[i64 e44.c0, i64 e44.c1]]] } by kernel_rfl]
    exact h1
  cases r1 with
  | e0 k57 l58 =>
    obtain ⟨l53, z54, z55, b56, rfl⟩ := hr1
    cases h
    exact call_pathL (gs := [.a, .el (W44.cells e44), .a, .lp (VX.exit 0) (s37_0_0 l53 z54 z55 b56 k57 l58), .a, .a]) (notIn []) rfl rfl (by kernel_rfl) (And.intro (W44.dec_ok h0) (And.intro h1 True.intro))
/-! ## 18 -/
inductive A18 where
  | a0 (b65 : Bool) (k66 : Nat) (l67 : List (List V))
@[reducible] def A18.out : A18 → V × Store
  | .a0 b65 k66 l67 => (V.agg [vb b65, V.hs 0 0 k66], [Ob.cells true true 2 l67])
def F18 (z4 : Int) (z5 : Int) : Option A18 :=
  (F38 (w64 (0 - Int.fdiv z4 2)) (w64 (0 - Int.fdiv z5 2))).bind fun r => match r with
  | .a0 z12 z13 =>
   (F38 (w64 (z4 - Int.fdiv z4 2)) (w64 (0 - Int.fdiv z5 2))).bind fun r => match r with
   | .a0 z14 z15 =>
    (F38 (w64 (z4 - Int.fdiv z4 2)) (w64 (z5 - Int.fdiv z5 2))).bind fun r => match r with
    | .a0 z16 z17 =>
     (F38 (w64 (0 - Int.fdiv z4 2)) (w64 (z5 - Int.fdiv z5 2))).bind fun r => match r with
     | .a0 z18 z19 =>
      (F37 ([[i64 z12, i64 z13], [i64 z14, i64 z15], [i64 z16, i64 z17], [i64 z18, i64 z19]])).bind fun r => match r with
      | .a0 b62 k63 l64 =>
       some (A18.a0 (b62) (k63) (l64))
theorem F18_ok (m : Nat) (z4 : Int) (z5 : Int) (r : A18) (h : F18 z4 z5 = some r) : call Try.prog X O0 18446744073709551616 (m + 2) 18 ([i64 z4, i64 z5]) ([]) = some r.out := by
  unfold F18 at h
  obtain ⟨r0, h0, h⟩ := Option.bind_eq_some_iff.mp h
  have h0 := F38_ok (m + 0) (w64 (0 - Int.fdiv z4 2)) (w64 (0 - Int.fdiv z5 2)) r0 h0
  cases r0 with
  | a0 z12 z13 =>
    obtain ⟨r1, h1, h⟩ := Option.bind_eq_some_iff.mp h
    have h1 := F38_ok (m + 0) (w64 (z4 - Int.fdiv z4 2)) (w64 (0 - Int.fdiv z5 2)) r1 h1
    cases r1 with
    | a0 z14 z15 =>
      obtain ⟨r2, h2, h⟩ := Option.bind_eq_some_iff.mp h
      have h2 := F38_ok (m + 0) (w64 (z4 - Int.fdiv z4 2)) (w64 (z5 - Int.fdiv z5 2)) r2 h2
      cases r2 with
      | a0 z16 z17 =>
        obtain ⟨r3, h3, h⟩ := Option.bind_eq_some_iff.mp h
        have h3 := F38_ok (m + 0) (w64 (0 - Int.fdiv z4 2)) (w64 (z5 - Int.fdiv z5 2)) r3 h3
        cases r3 with
        | a0 z18 z19 =>
          obtain ⟨r4, h4, h⟩ := Option.bind_eq_some_iff.mp h
          have h4 := F37_ok (m + 0) ([[i64 z12, i64 z13], [i64 z14, i64 z15], [i64 z16, i64 z17], [i64 z18, i64 z19]]) r4 h4
          cases r4 with
          | a0 b62 k63 l64 =>
            cases h
            exact call_pathL (gs := [.a, .a, .an (V.agg [i64 z12, i64 z13]) [], .an (V.agg [i64 z14, i64 z15]) [], .an (V.agg [i64 z16, i64 z17]) [], .an (V.agg [i64 z18, i64 z19]) [], .a, .an (V.agg [vb b62, V.hs 0 0 k63]) [Ob.cells true true 2 l64], .a]) (notIn []) rfl rfl (by kernel_rfl) (And.intro h0 (And.intro h1 (And.intro h2 (And.intro h3 (And.intro h4 True.intro)))))
/-! ## 33 -/
def F33 (z79 : Int) (z80 : Int) (z81 : Int) : Int :=
  if z79 < z80 then
   z80
  else
   if z79 > z81 then
    z81
   else
    z79
theorem F33_ok (m : Nat) (z79 : Int) (z80 : Int) (z81 : Int) (z84 : Int) (h : F33 z79 z80 z81 = z84) : call Try.prog X O0 18446744073709551616 (m + 1) 33 ([i64 z79, i64 z80, i64 z81]) ([]) = some (i64 z84, []) := by
  unfold F33 at h
  rcases ite_eq h with ⟨h0, h⟩ | ⟨h0, h⟩
  · skip
    subst h
    exact call_pathL (gs := [.t]) (notIn []) rfl rfl (by kernel_rfl) (And.intro (decide_eq_true h0) True.intro)
  · skip
    rcases ite_eq h with ⟨h1, h⟩ | ⟨h1, h⟩
    · skip
      subst h
      exact call_pathL (gs := [.f, .t]) (notIn []) rfl rfl (by kernel_rfl) (And.intro (decide_eq_false h0) (And.intro (decide_eq_true h1) True.intro))
    · skip
      subst h
      exact call_pathL (gs := [.f, .f]) (notIn []) rfl rfl (by kernel_rfl) (And.intro (decide_eq_false h0) (And.intro (decide_eq_false h1) True.intro))
/-! ## 32 -/
def F32 (z77 : Int) : Int :=
  bnd (F33 (z77) (-1099511627776) (1099511627776)) fun z85 =>
  z85
theorem F32_ok (m : Nat) (z77 : Int) (z87 : Int) (h : F32 z77 = z87) : call Try.prog X O0 18446744073709551616 (m + 2) 32 ([i64 z77]) ([]) = some (i64 z87, []) := by
  unfold F32 at h
  obtain ⟨z85, h0, h⟩ := bnd_eq h
  subst h
  exact call_pathL (gs := [.an (i64 z85) []]) (notIn []) rfl rfl (by kernel_rfl) (And.intro (F33_ok (m + 0) (z77) (-1099511627776) (1099511627776) z85 h0) True.intro)
/-! ## 96 -/
inductive A96 where
  | a0 (z96 : Int) (z97 : Int)
@[reducible] def A96.out : A96 → V × Store
  | .a0 z96 z97 => (V.tup [V.int IntKind.u64 z96, V.int IntKind.u64 z97], [])
def F96 (z93 : Int) (z94 : Int) : Option A96 :=
  some (A96.a0 (IntKind.wrap IntKind.u64 (IntKind.wrap IntKind.u64 (IntKind.wrap IntKind.u64 (Int.fdiv z93 4294967296 * Int.fdiv z94 4294967296) + Int.fdiv (IntKind.wrap IntKind.u64 (IntKind.wrap IntKind.u64 (Int.fdiv z93 4294967296 * IntKind.wrap IntKind.u64 (↑(BitVec.toNat (BitVec.ofInt (IntKind.bits IntKind.u64) z94 &&& BitVec.ofInt (IntKind.bits IntKind.u64) 4294967295)) : Int)) + Int.fdiv (IntKind.wrap IntKind.u64 (IntKind.wrap IntKind.u64 (↑(BitVec.toNat (BitVec.ofInt (IntKind.bits IntKind.u64) z93 &&& BitVec.ofInt (IntKind.bits IntKind.u64) 4294967295)) : Int) * IntKind.wrap IntKind.u64 (↑(BitVec.toNat (BitVec.ofInt (IntKind.bits IntKind.u64) z94 &&& BitVec.ofInt (IntKind.bits IntKind.u64) 4294967295)) : Int))) 4294967296)) 4294967296) + Int.fdiv (IntKind.wrap IntKind.u64 (IntKind.wrap IntKind.u64 (↑(BitVec.toNat (BitVec.ofInt (IntKind.bits IntKind.u64) (IntKind.wrap IntKind.u64 (IntKind.wrap IntKind.u64 (Int.fdiv z93 4294967296 * IntKind.wrap IntKind.u64 (↑(BitVec.toNat (BitVec.ofInt (IntKind.bits IntKind.u64) z94 &&& BitVec.ofInt (IntKind.bits IntKind.u64) 4294967295)) : Int)) + Int.fdiv (IntKind.wrap IntKind.u64 (IntKind.wrap IntKind.u64 (↑(BitVec.toNat (BitVec.ofInt (IntKind.bits IntKind.u64) z93 &&& BitVec.ofInt (IntKind.bits IntKind.u64) 4294967295)) : Int) * IntKind.wrap IntKind.u64 (↑(BitVec.toNat (BitVec.ofInt (IntKind.bits IntKind.u64) z94 &&& BitVec.ofInt (IntKind.bits IntKind.u64) 4294967295)) : Int))) 4294967296)) &&& BitVec.ofInt (IntKind.bits IntKind.u64) 4294967295)) : Int) + IntKind.wrap IntKind.u64 (IntKind.wrap IntKind.u64 (↑(BitVec.toNat (BitVec.ofInt (IntKind.bits IntKind.u64) z93 &&& BitVec.ofInt (IntKind.bits IntKind.u64) 4294967295)) : Int) * Int.fdiv z94 4294967296))) 4294967296)) (IntKind.wrap IntKind.u64 (z93 * z94)))
theorem F96_ok (m : Nat) (z93 : Int) (z94 : Int) (r : A96) (h : F96 z93 z94 = some r) : call Try.prog X O0 18446744073709551616 (m + 1) 96 ([V.int IntKind.u64 z93, V.int IntKind.u64 z94]) ([]) = some r.out := by
  unfold F96 at h
  cases h
  exact call_pathL (gs := [.a, .a, .a, .a, .a]) (notIn []) rfl rfl (by kernel_rfl) True.intro
/-! ## 69 -/
inductive A69 where
  | a0 (z100 : Int) (z101 : Int)
@[reducible] def A69.out : A69 → V × Store
  | .a0 z100 z101 => (V.tup [V.int IntKind.u64 z100, V.int IntKind.u64 z101], [])
def F69 (z90 : Int) (z91 : Int) : Option A69 :=
  (F96 (IntKind.wrap IntKind.u64 z90) (IntKind.wrap IntKind.u64 z91)).bind fun r => match r with
  | .a0 z98 z99 =>
   if z90 < 0 then
    if z91 < 0 then
     some (A69.a0 (IntKind.wrap IntKind.u64 (IntKind.wrap IntKind.u64 (z98 - IntKind.wrap IntKind.u64 z91) - IntKind.wrap IntKind.u64 z90)) (z99))
    else
     some (A69.a0 (IntKind.wrap IntKind.u64 (z98 - IntKind.wrap IntKind.u64 z91)) (z99))
   else
    if z91 < 0 then
     some (A69.a0 (IntKind.wrap IntKind.u64 (z98 - IntKind.wrap IntKind.u64 z90)) (z99))
    else
     some (A69.a0 (z98) (z99))
theorem F69_ok (m : Nat) (z90 : Int) (z91 : Int) (r : A69) (h : F69 z90 z91 = some r) : call Try.prog X O0 18446744073709551616 (m + 2) 69 ([i64 z90, i64 z91]) ([]) = some r.out := by
  unfold F69 at h
  obtain ⟨r0, h0, h⟩ := Option.bind_eq_some_iff.mp h
  have h0 := F96_ok (m + 0) (IntKind.wrap IntKind.u64 z90) (IntKind.wrap IntKind.u64 z91) r0 h0
  cases r0 with
  | a0 z98 z99 =>
    rcases ite_eq h with ⟨h1, h⟩ | ⟨h1, h⟩
    · skip
      rcases ite_eq h with ⟨h2, h⟩ | ⟨h2, h⟩
      · skip
        cases h
        exact call_pathL (gs := [.an (V.tup [V.int IntKind.u64 z98, V.int IntKind.u64 z99]) [], .t, .t]) (notIn []) rfl rfl (by kernel_rfl) (And.intro h0 (And.intro (decide_eq_true h1) (And.intro (decide_eq_true h2) True.intro)))
      · skip
        cases h
        exact call_pathL (gs := [.an (V.tup [V.int IntKind.u64 z98, V.int IntKind.u64 z99]) [], .t, .f]) (notIn []) rfl rfl (by kernel_rfl) (And.intro h0 (And.intro (decide_eq_true h1) (And.intro (decide_eq_false h2) True.intro)))
    · skip
      rcases ite_eq h with ⟨h2, h⟩ | ⟨h2, h⟩
      · skip
        cases h
        exact call_pathL (gs := [.an (V.tup [V.int IntKind.u64 z98, V.int IntKind.u64 z99]) [], .f, .t]) (notIn []) rfl rfl (by kernel_rfl) (And.intro h0 (And.intro (decide_eq_false h1) (And.intro (decide_eq_true h2) True.intro)))
      · skip
        cases h
        exact call_pathL (gs := [.an (V.tup [V.int IntKind.u64 z98, V.int IntKind.u64 z99]) [], .f, .f]) (notIn []) rfl rfl (by kernel_rfl) (And.intro h0 (And.intro (decide_eq_false h1) (And.intro (decide_eq_false h2) True.intro)))
/-! ## 68 -/
def F68 (z104 : Int) (z105 : Int) : Int :=
  if Int.fdiv (w64 z104) 65536 < -1 then
   -9223372036854775808
  else
   if (Int.fdiv (w64 z104) 65536 == -1) = true then
    if (Int.fdiv (IntKind.wrap IntKind.u64 (↑(BitVec.toNat (BitVec.ofInt (IntKind.bits IntKind.u64) (IntKind.wrap IntKind.u64 (z104 * 2 ^ min (Int.toNat 48) (IntKind.bits IntKind.u64))) ||| BitVec.ofInt (IntKind.bits IntKind.u64) (Int.fdiv z105 (2 ^ min (Int.toNat 16) (IntKind.bits IntKind.u64))))) : Int)) 9223372036854775808 == 0) = true then
     -9223372036854775808
    else
     if Int.fdiv (w64 z104) 65536 > 0 then
      9223372036854775807
     else
      if (Int.fdiv (w64 z104) 65536 == 0) = true then
       if (Int.fdiv (IntKind.wrap IntKind.u64 (↑(BitVec.toNat (BitVec.ofInt (IntKind.bits IntKind.u64) (IntKind.wrap IntKind.u64 (z104 * 2 ^ min (Int.toNat 48) (IntKind.bits IntKind.u64))) ||| BitVec.ofInt (IntKind.bits IntKind.u64) (Int.fdiv z105 (2 ^ min (Int.toNat 16) (IntKind.bits IntKind.u64))))) : Int)) 9223372036854775808 != 0) = true then
        9223372036854775807
       else
        w64 (IntKind.wrap IntKind.u64 (↑(BitVec.toNat (BitVec.ofInt (IntKind.bits IntKind.u64) (IntKind.wrap IntKind.u64 (z104 * 2 ^ min (Int.toNat 48) (IntKind.bits IntKind.u64))) ||| BitVec.ofInt (IntKind.bits IntKind.u64) (Int.fdiv z105 (2 ^ min (Int.toNat 16) (IntKind.bits IntKind.u64))))) : Int))
      else
       w64 (IntKind.wrap IntKind.u64 (↑(BitVec.toNat (BitVec.ofInt (IntKind.bits IntKind.u64) (IntKind.wrap IntKind.u64 (z104 * 2 ^ min (Int.toNat 48) (IntKind.bits IntKind.u64))) ||| BitVec.ofInt (IntKind.bits IntKind.u64) (Int.fdiv z105 (2 ^ min (Int.toNat 16) (IntKind.bits IntKind.u64))))) : Int))
   else
    if Int.fdiv (w64 z104) 65536 > 0 then
     9223372036854775807
    else
     if (Int.fdiv (w64 z104) 65536 == 0) = true then
      if (Int.fdiv (IntKind.wrap IntKind.u64 (↑(BitVec.toNat (BitVec.ofInt (IntKind.bits IntKind.u64) (IntKind.wrap IntKind.u64 (z104 * 2 ^ min (Int.toNat 48) (IntKind.bits IntKind.u64))) ||| BitVec.ofInt (IntKind.bits IntKind.u64) (Int.fdiv z105 (2 ^ min (Int.toNat 16) (IntKind.bits IntKind.u64))))) : Int)) 9223372036854775808 != 0) = true then
       9223372036854775807
      else
       w64 (IntKind.wrap IntKind.u64 (↑(BitVec.toNat (BitVec.ofInt (IntKind.bits IntKind.u64) (IntKind.wrap IntKind.u64 (z104 * 2 ^ min (Int.toNat 48) (IntKind.bits IntKind.u64))) ||| BitVec.ofInt (IntKind.bits IntKind.u64) (Int.fdiv z105 (2 ^ min (Int.toNat 16) (IntKind.bits IntKind.u64))))) : Int))
     else
      w64 (IntKind.wrap IntKind.u64 (↑(BitVec.toNat (BitVec.ofInt (IntKind.bits IntKind.u64) (IntKind.wrap IntKind.u64 (z104 * 2 ^ min (Int.toNat 48) (IntKind.bits IntKind.u64))) ||| BitVec.ofInt (IntKind.bits IntKind.u64) (Int.fdiv z105 (2 ^ min (Int.toNat 16) (IntKind.bits IntKind.u64))))) : Int))
theorem F68_ok (m : Nat) (z104 : Int) (z105 : Int) (z108 : Int) (h : F68 z104 z105 = z108) : call Try.prog X O0 18446744073709551616 (m + 1) 68 ([V.int IntKind.u64 z104, V.int IntKind.u64 z105]) ([]) = some (i64 z108, []) := by
  unfold F68 at h
  rcases ite_eq h with ⟨h0, h⟩ | ⟨h0, h⟩
  · skip
    subst h
    exact call_pathL (gs := [.a, .a, .a, .t, .t, .t, .t, .t, .a]) (notIn []) rfl rfl (by kernel_rfl) (And.intro (decide_eq_true h0) (And.intro (decide_eq_true h0) (And.intro (decide_eq_true h0) (And.intro (decide_eq_true h0) (And.intro (decide_eq_true h0) True.intro)))))
  · skip
    rcases ite_eq h with ⟨h1, h⟩ | ⟨h1, h⟩
    · skip
      rcases ite_eq h with ⟨h2, h⟩ | ⟨h2, h⟩
      · skip
        subst h
        exact call_pathL (gs := [.a, .a, .a, .f, .f, .f, .t, .t, .a, .t, .f, .t, .f, .t]) (notIn []) rfl rfl (by kernel_rfl) (And.intro (decide_eq_false h0) (And.intro (decide_eq_false h0) (And.intro (decide_eq_false h0) (And.intro h1 (And.intro h1 (And.intro h1 (And.intro (decide_eq_false h0) (And.intro h1 (And.intro (decide_eq_false h0) (And.intro h2 True.intro))))))))))
      · skip
        rcases ite_eq h with ⟨h3, h⟩ | ⟨h3, h⟩
        · skip
          subst h
          exact call_pathL (gs := [.a, .a, .a, .f, .f, .f, .t, .t, .a, .t, .f, .t, .f, .f, .t, .t, .t, .t, .t, .a]) (notIn []) rfl rfl (by kernel_rfl) (And.intro (decide_eq_false h0) (And.intro (decide_eq_false h0) (And.intro (decide_eq_false h0) (And.intro h1 (And.intro h1 (And.intro h1 (And.intro (decide_eq_false h0) (And.intro h1 (And.intro (decide_eq_false h0) (And.intro (Bool.eq_false_iff.mpr h2) (And.intro (decide_eq_true h3) (And.intro (decide_eq_true h3) (And.intro (decide_eq_true h3) (And.intro (decide_eq_true h3) (And.intro (decide_eq_true h3) True.intro)))))))))))))))
        · skip
          rcases ite_eq h with ⟨h4, h⟩ | ⟨h4, h⟩
          · skip
            rcases ite_eq h with ⟨h5, h⟩ | ⟨h5, h⟩
            · skip
              subst h
              exact call_pathL (gs := [.a, .a, .a, .f, .f, .f, .t, .t, .a, .t, .f, .t, .f, .f, .f, .f, .f, .t, .t, .a, .t, .f, .t, .f, .t]) (notIn []) rfl rfl (by kernel_rfl) (And.intro (decide_eq_false h0) (And.intro (decide_eq_false h0) (And.intro (decide_eq_false h0) (And.intro h1 (And.intro h1 (And.intro h1 (And.intro (decide_eq_false h0) (And.intro h1 (And.intro (decide_eq_false h0) (And.intro (Bool.eq_false_iff.mpr h2) (And.intro (decide_eq_false h3) (And.intro (decide_eq_false h3) (And.intro (decide_eq_false h3) (And.intro h4 (And.intro h4 (And.intro h4 (And.intro (decide_eq_false h3) (And.intro h4 (And.intro (decide_eq_false h3) (And.intro h5 True.intro))))))))))))))))))))
            · skip
              subst h
              exact call_pathL (gs := [.a, .a, .a, .f, .f, .f, .t, .t, .a, .t, .f, .t, .f, .f, .f, .f, .f, .t, .t, .a, .t, .f, .t, .f, .f]) (notIn []) rfl rfl (by kernel_rfl) (And.intro (decide_eq_false h0) (And.intro (decide_eq_false h0) (And.intro (decide_eq_false h0) (And.intro h1 (And.intro h1 (And.intro h1 (And.intro (decide_eq_false h0) (And.intro h1 (And.intro (decide_eq_false h0) (And.intro (Bool.eq_false_iff.mpr h2) (And.intro (decide_eq_false h3) (And.intro (decide_eq_false h3) (And.intro (decide_eq_false h3) (And.intro h4 (And.intro h4 (And.intro h4 (And.intro (decide_eq_false h3) (And.intro h4 (And.intro (decide_eq_false h3) (And.intro (Bool.eq_false_iff.mpr h5) True.intro))))))))))))))))))))
          · skip
            subst h
            exact call_pathL (gs := [.a, .a, .a, .f, .f, .f, .t, .t, .a, .t, .f, .t, .f, .f, .f, .f, .f, .f, .f, .f, .f, .f, .f, .a]) (notIn []) rfl rfl (by kernel_rfl) (And.intro (decide_eq_false h0) (And.intro (decide_eq_false h0) (And.intro (decide_eq_false h0) (And.intro h1 (And.intro h1 (And.intro h1 (And.intro (decide_eq_false h0) (And.intro h1 (And.intro (decide_eq_false h0) (And.intro (Bool.eq_false_iff.mpr h2) (And.intro (decide_eq_false h3) (And.intro (decide_eq_false h3) (And.intro (decide_eq_false h3) (And.intro (Bool.eq_false_iff.mpr h4) (And.intro (Bool.eq_false_iff.mpr h4) (And.intro (Bool.eq_false_iff.mpr h4) (And.intro (decide_eq_false h3) (And.intro (Bool.eq_false_iff.mpr h4) (And.intro (decide_eq_false h3) True.intro)))))))))))))))))))
    · skip
      rcases ite_eq h with ⟨h2, h⟩ | ⟨h2, h⟩
      · skip
        subst h
        exact call_pathL (gs := [.a, .a, .a, .f, .f, .f, .f, .f, .f, .f, .f, .f, .a, .t, .t, .t, .t, .t, .a]) (notIn []) rfl rfl (by kernel_rfl) (And.intro (decide_eq_false h0) (And.intro (decide_eq_false h0) (And.intro (decide_eq_false h0) (And.intro (Bool.eq_false_iff.mpr h1) (And.intro (Bool.eq_false_iff.mpr h1) (And.intro (Bool.eq_false_iff.mpr h1) (And.intro (decide_eq_false h0) (And.intro (Bool.eq_false_iff.mpr h1) (And.intro (decide_eq_false h0) (And.intro (decide_eq_true h2) (And.intro (decide_eq_true h2) (And.intro (decide_eq_true h2) (And.intro (decide_eq_true h2) (And.intro (decide_eq_true h2) True.intro))))))))))))))
      · skip
        rcases ite_eq h with ⟨h3, h⟩ | ⟨h3, h⟩
        · skip
          rcases ite_eq h with ⟨h4, h⟩ | ⟨h4, h⟩
          · skip
            subst h
            exact call_pathL (gs := [.a, .a, .a, .f, .f, .f, .f, .f, .f, .f, .f, .f, .a, .f, .f, .f, .t, .t, .a, .t, .f, .t, .f, .t]) (notIn []) rfl rfl (by kernel_rfl) (And.intro (decide_eq_false h0) (And.intro (decide_eq_false h0) (And.intro (decide_eq_false h0) (And.intro (Bool.eq_false_iff.mpr h1) (And.intro (Bool.eq_false_iff.mpr h1) (And.intro (Bool.eq_false_iff.mpr h1) (And.intro (decide_eq_false h0) (And.intro (Bool.eq_false_iff.mpr h1) (And.intro (decide_eq_false h0) (And.intro (decide_eq_false h2) (And.intro (decide_eq_false h2) (And.intro (decide_eq_false h2) (And.intro h3 (And.intro h3 (And.intro h3 (And.intro (decide_eq_false h2) (And.intro h3 (And.intro (decide_eq_false h2) (And.intro h4 True.intro)))))))))))))))))))
          · skip
            subst h
            exact call_pathL (gs := [.a, .a, .a, .f, .f, .f, .f, .f, .f, .f, .f, .f, .a, .f, .f, .f, .t, .t, .a, .t, .f, .t, .f, .f]) (notIn []) rfl rfl (by kernel_rfl) (And.intro (decide_eq_false h0) (And.intro (decide_eq_false h0) (And.intro (decide_eq_false h0) (And.intro (Bool.eq_false_iff.mpr h1) (And.intro (Bool.eq_false_iff.mpr h1) (And.intro (Bool.eq_false_iff.mpr h1) (And.intro (decide_eq_false h0) (And.intro (Bool.eq_false_iff.mpr h1) (And.intro (decide_eq_false h0) (And.intro (decide_eq_false h2) (And.intro (decide_eq_false h2) (And.intro (decide_eq_false h2) (And.intro h3 (And.intro h3 (And.intro h3 (And.intro (decide_eq_false h2) (And.intro h3 (And.intro (decide_eq_false h2) (And.intro (Bool.eq_false_iff.mpr h4) True.intro)))))))))))))))))))
        · skip
          subst h
          exact call_pathL (gs := [.a, .a, .a, .f, .f, .f, .f, .f, .f, .f, .f, .f, .a, .f, .f, .f, .f, .f, .f, .f, .f, .f, .a]) (notIn []) rfl rfl (by kernel_rfl) (And.intro (decide_eq_false h0) (And.intro (decide_eq_false h0) (And.intro (decide_eq_false h0) (And.intro (Bool.eq_false_iff.mpr h1) (And.intro (Bool.eq_false_iff.mpr h1) (And.intro (Bool.eq_false_iff.mpr h1) (And.intro (decide_eq_false h0) (And.intro (Bool.eq_false_iff.mpr h1) (And.intro (decide_eq_false h0) (And.intro (decide_eq_false h2) (And.intro (decide_eq_false h2) (And.intro (decide_eq_false h2) (And.intro (Bool.eq_false_iff.mpr h3) (And.intro (Bool.eq_false_iff.mpr h3) (And.intro (Bool.eq_false_iff.mpr h3) (And.intro (decide_eq_false h2) (And.intro (Bool.eq_false_iff.mpr h3) (And.intro (decide_eq_false h2) True.intro))))))))))))))))))
/-! ## 39 -/
inductive A39 where
  | a0 (z111 : Int)
@[reducible] def A39.out : A39 → V × Store
  | .a0 z111 => (i64 z111, [])
def F39 (z74 : Int) (z75 : Int) : Option A39 :=
  bnd (F32 (z74)) fun z88 =>
  bnd (F32 (z75)) fun z89 =>
  (F69 (z88) (z89)).bind fun r => match r with
  | .a0 z102 z103 =>
   bnd (F68 (z102) (z103)) fun z109 =>
   bnd (F32 (z109)) fun z110 =>
   some (A39.a0 (z110))
theorem F39_ok (m : Nat) (z74 : Int) (z75 : Int) (r : A39) (h : F39 z74 z75 = some r) : call Try.prog X O0 18446744073709551616 (m + 3) 39 ([i64 z74, i64 z75]) ([]) = some r.out := by
  unfold F39 at h
  obtain ⟨z88, h0, h⟩ := bnd_eq h
  obtain ⟨z89, h1, h⟩ := bnd_eq h
  obtain ⟨r2, h2, h⟩ := Option.bind_eq_some_iff.mp h
  have h2 := F69_ok (m + 0) (z88) (z89) r2 h2
  cases r2 with
  | a0 z102 z103 =>
    obtain ⟨z109, h3, h⟩ := bnd_eq h
    obtain ⟨z110, h4, h⟩ := bnd_eq h
    cases h
    exact call_pathL (gs := [.an (i64 z88) [], .an (i64 z89) [], .an (V.tup [V.int IntKind.u64 z102, V.int IntKind.u64 z103]) [], .an (i64 z109) [], .an (i64 z110) []]) (notIn []) rfl rfl (by kernel_rfl) (And.intro (F32_ok (m + 0) (z74) z88 h0) (And.intro (F32_ok (m + 0) (z75) z89 h1) (And.intro h2 (And.intro (F68_ok (m + 1) (z102) (z103) z109 h3) (And.intro (F32_ok (m + 0) (z109) z110 h4) True.intro)))))
/-! ## 19 -/
inductive A19 where
  | a0 (b140 : Bool) (k141 : Nat) (l142 : List (List V))
@[reducible] def A19.out : A19 → V × Store
  | .a0 b140 k141 l142 => (V.agg [vb b140, V.hs 0 0 k141], [Ob.cells true true 2 l142])
def F19 (z71 : Int) (z72 : Int) : Option A19 :=
  (F39 (Int.fdiv z71 2) (36195)).bind fun r => match r with
  | .a0 z112 =>
   (F39 (Int.fdiv z72 2) (36195)).bind fun r => match r with
   | .a0 z113 =>
    (F38 (Int.fdiv z71 2) (0)).bind fun r => match r with
    | .a0 z114 z115 =>
     (F38 (Int.fdiv z71 2) (z113)).bind fun r => match r with
     | .a0 z116 z117 =>
      (F38 (z112) (Int.fdiv z72 2)).bind fun r => match r with
      | .a0 z118 z119 =>
       (F38 (0) (Int.fdiv z72 2)).bind fun r => match r with
       | .a0 z120 z121 =>
        (F38 (w64 (0 - z112)) (Int.fdiv z72 2)).bind fun r => match r with
        | .a0 z122 z123 =>
         (F38 (w64 (0 - Int.fdiv z71 2)) (z113)).bind fun r => match r with
         | .a0 z124 z125 =>
          (F38 (w64 (0 - Int.fdiv z71 2)) (0)).bind fun r => match r with
          | .a0 z126 z127 =>
           (F38 (w64 (0 - Int.fdiv z71 2)) (w64 (0 - z113))).bind fun r => match r with
           | .a0 z128 z129 =>
            (F38 (w64 (0 - z112)) (w64 (0 - Int.fdiv z72 2))).bind fun r => match r with
            | .a0 z130 z131 =>
             (F38 (0) (w64 (0 - Int.fdiv z72 2))).bind fun r => match r with
             | .a0 z132 z133 =>
              (F38 (z112) (w64 (0 - Int.fdiv z72 2))).bind fun r => match r with
              | .a0 z134 z135 =>
               (F38 (Int.fdiv z71 2) (w64 (0 - z113))).bind fun r => match r with
               | .a0 z136 z137 =>
                (F38 (Int.fdiv z71 2) (0)).bind fun r => match r with
                | .a0 z138 z139 =>
                 some (A19.a0 (true) (13) ([[i64 z114, i64 z115], [i64 z116, i64 z117], [i64 z118, i64 z119], [i64 z120, i64 z121], [i64 z122, i64 z123], [i64 z124, i64 z125], [i64 z126, i64 z127], [i64 z128, i64 z129], [i64 z130, i64 z131], [i64 z132, i64 z133], [i64 z134, i64 z135], [i64 z136, i64 z137], [i64 z138, i64 z139]]))
theorem F19_ok (m : Nat) (z71 : Int) (z72 : Int) (r : A19) (h : F19 z71 z72 = some r) : call Try.prog X O0 18446744073709551616 (m + 4) 19 ([i64 z71, i64 z72]) ([]) = some r.out := by
  unfold F19 at h
  obtain ⟨r0, h0, h⟩ := Option.bind_eq_some_iff.mp h
  have h0 := F39_ok (m + 0) (Int.fdiv z71 2) (36195) r0 h0
  cases r0 with
  | a0 z112 =>
    obtain ⟨r1, h1, h⟩ := Option.bind_eq_some_iff.mp h
    have h1 := F39_ok (m + 0) (Int.fdiv z72 2) (36195) r1 h1
    cases r1 with
    | a0 z113 =>
      obtain ⟨r2, h2, h⟩ := Option.bind_eq_some_iff.mp h
      have h2 := F38_ok (m + 2) (Int.fdiv z71 2) (0) r2 h2
      cases r2 with
      | a0 z114 z115 =>
        obtain ⟨r3, h3, h⟩ := Option.bind_eq_some_iff.mp h
        have h3 := F38_ok (m + 2) (Int.fdiv z71 2) (z113) r3 h3
        cases r3 with
        | a0 z116 z117 =>
          obtain ⟨r4, h4, h⟩ := Option.bind_eq_some_iff.mp h
          have h4 := F38_ok (m + 2) (z112) (Int.fdiv z72 2) r4 h4
          cases r4 with
          | a0 z118 z119 =>
            obtain ⟨r5, h5, h⟩ := Option.bind_eq_some_iff.mp h
            have h5 := F38_ok (m + 2) (0) (Int.fdiv z72 2) r5 h5
            cases r5 with
            | a0 z120 z121 =>
              obtain ⟨r6, h6, h⟩ := Option.bind_eq_some_iff.mp h
              have h6 := F38_ok (m + 2) (w64 (0 - z112)) (Int.fdiv z72 2) r6 h6
              cases r6 with
              | a0 z122 z123 =>
                obtain ⟨r7, h7, h⟩ := Option.bind_eq_some_iff.mp h
                have h7 := F38_ok (m + 2) (w64 (0 - Int.fdiv z71 2)) (z113) r7 h7
                cases r7 with
                | a0 z124 z125 =>
                  obtain ⟨r8, h8, h⟩ := Option.bind_eq_some_iff.mp h
                  have h8 := F38_ok (m + 2) (w64 (0 - Int.fdiv z71 2)) (0) r8 h8
                  cases r8 with
                  | a0 z126 z127 =>
                    obtain ⟨r9, h9, h⟩ := Option.bind_eq_some_iff.mp h
                    have h9 := F38_ok (m + 2) (w64 (0 - Int.fdiv z71 2)) (w64 (0 - z113)) r9 h9
                    cases r9 with
                    | a0 z128 z129 =>
                      obtain ⟨r10, h10, h⟩ := Option.bind_eq_some_iff.mp h
                      have h10 := F38_ok (m + 2) (w64 (0 - z112)) (w64 (0 - Int.fdiv z72 2)) r10 h10
                      cases r10 with
                      | a0 z130 z131 =>
                        obtain ⟨r11, h11, h⟩ := Option.bind_eq_some_iff.mp h
                        have h11 := F38_ok (m + 2) (0) (w64 (0 - Int.fdiv z72 2)) r11 h11
                        cases r11 with
                        | a0 z132 z133 =>
                          obtain ⟨r12, h12, h⟩ := Option.bind_eq_some_iff.mp h
                          have h12 := F38_ok (m + 2) (z112) (w64 (0 - Int.fdiv z72 2)) r12 h12
                          cases r12 with
                          | a0 z134 z135 =>
                            obtain ⟨r13, h13, h⟩ := Option.bind_eq_some_iff.mp h
                            have h13 := F38_ok (m + 2) (Int.fdiv z71 2) (w64 (0 - z113)) r13 h13
                            cases r13 with
                            | a0 z136 z137 =>
                              obtain ⟨r14, h14, h⟩ := Option.bind_eq_some_iff.mp h
                              have h14 := F38_ok (m + 2) (Int.fdiv z71 2) (0) r14 h14
                              cases r14 with
                              | a0 z138 z139 =>
                                cases h
                                exact call_pathL (gs := [.a, .a, .an (i64 z112) [], .an (i64 z113) [], .an (V.agg [i64 z114, i64 z115]) [], .an (V.agg [i64 z116, i64 z117]) [], .an (V.agg [i64 z118, i64 z119]) [], .an (V.agg [i64 z120, i64 z121]) [], .an (V.agg [i64 z122, i64 z123]) [], .an (V.agg [i64 z124, i64 z125]) [], .an (V.agg [i64 z126, i64 z127]) [], .an (V.agg [i64 z128, i64 z129]) [], .an (V.agg [i64 z130, i64 z131]) [], .an (V.agg [i64 z132, i64 z133]) [], .an (V.agg [i64 z134, i64 z135]) [], .an (V.agg [i64 z136, i64 z137]) [], .an (V.agg [i64 z138, i64 z139]) [], .a]) (notIn []) rfl rfl (by kernel_rfl) (And.intro h0 (And.intro h1 (And.intro h2 (And.intro h3 (And.intro h4 (And.intro h5 (And.intro h6 (And.intro h7 (And.intro h8 (And.intro h9 (And.intro h10 (And.intro h11 (And.intro h12 (And.intro h13 (And.intro h14 True.intro)))))))))))))))
/-! ## 70 -/
def F70 (z164 : Int) : Int :=
  if Int.tmod z164 23592960 < 0 then
   w64 (Int.tmod z164 23592960 + 23592960)
  else
   Int.tmod z164 23592960
theorem F70_ok (m : Nat) (z164 : Int) (z167 : Int) (h : F70 z164 = z167) : call Try.prog X O0 18446744073709551616 (m + 1) 70 ([i64 z164]) ([]) = some (i64 z167, []) := by
  unfold F70 at h
  rcases ite_eq h with ⟨h0, h⟩ | ⟨h0, h⟩
  · skip
    subst h
    exact call_pathL (gs := [.a, .t]) (notIn []) rfl rfl (by kernel_rfl) (And.intro (decide_eq_true h0) True.intro)
  · skip
    subst h
    exact call_pathL (gs := [.a, .f]) (notIn []) rfl rfl (by kernel_rfl) (And.intro (decide_eq_false h0) True.intro)
/-! ## 41 -/
inductive A41 where
  | a0 (z172 : Int)
@[reducible] def A41.out : A41 → V × Store
  | .a0 z172 => (i64 z172, [])
def F41a (z169 : Int) : Option A41 :=
  bnd (F70 (z169)) fun z171 =>
  if z171 ≥ 11796480 then
   none -- call 41
  else
   if w64 (2654208000 - w64 (Int.tdiv (w64 (z171 * w64 (11796480 - z171))) 65536)) = 0 then
    none -- none
   else
    some (A41.a0 (w64 (Int.tdiv (w64 (w64 (4 * w64 (Int.tdiv (w64 (z171 * w64 (11796480 - z171))) 65536)) * 65536)) (w64 (2654208000 - w64 (Int.tdiv (w64 (z171 * w64 (11796480 - z171))) 65536))))))
theorem F41a_ok (m : Nat) (z169 : Int) (r : A41) (h : F41a z169 = some r) : call Try.prog X O0 18446744073709551616 (m + 2) 41 ([i64 z169]) ([]) = some r.out := by
  unfold F41a at h
  obtain ⟨z171, h0, h⟩ := bnd_eq h
  rcases ite_eq h with ⟨h1, h⟩ | ⟨h1, h⟩
  · skip
    cases h
  · skip
    rcases ite_eq h with ⟨h2, h⟩ | ⟨h2, h⟩
    · skip
      cases h
    · skip
      cases h
      exact call_pathL (gs := [.an (i64 z171) [], .f, .a, .f]) (notIn []) rfl rfl (by kernel_rfl) (And.intro (F70_ok (m + 0) (z169) z171 h0) (And.intro (decide_eq_false h1) (And.intro (decide_eq_false h2) True.intro)))
def F41 (z169 : Int) : Option A41 :=
  bnd (F70 (z169)) fun z171 =>
  if z171 ≥ 11796480 then
   (F41a (w64 (z171 - 11796480))).bind fun r => match r with
   | .a0 z172 =>
    some (A41.a0 (w64 (0 - z172)))
  else
   F41a z169
theorem F41_ok (m : Nat) (z169 : Int) (r : A41) (h : F41 z169 = some r) : call Try.prog X O0 18446744073709551616 (m + 3) 41 ([i64 z169]) ([]) = some r.out := by
  unfold F41 at h
  obtain ⟨z171, h0, h⟩ := bnd_eq h
  rcases ite_eq h with ⟨h1, h⟩ | ⟨h1, h⟩
  · obtain ⟨r1, h2, h⟩ := Option.bind_eq_some_iff.mp h
    have h2 := F41a_ok m (w64 (z171 - 11796480)) r1 h2
    cases r1 with
    | a0 z172 =>
      cases h
      exact call_pathL (gs := [.an (i64 z171) [], .t, .an (i64 z172) []]) (notIn []) rfl rfl (by kernel_rfl) (And.intro (F70_ok (m + 1) (z169) z171 h0) (And.intro (decide_eq_true h1) (And.intro h2 True.intro)))
  · exact F41a_ok (m + 1) z169 r h
/-! ## 40 -/
inductive A40 where
  | a0 (z174 : Int)
@[reducible] def A40.out : A40 → V × Store
  | .a0 z174 => (i64 z174, [])
def F40 (z162 : Int) : Option A40 :=
  bnd (F70 (z162)) fun z168 =>
  (F41 (w64 (z168 + 5898240))).bind fun r => match r with
  | .a0 z173 =>
   some (A40.a0 (z173))
theorem F40_ok (m : Nat) (z162 : Int) (r : A40) (h : F40 z162 = some r) : call Try.prog X O0 18446744073709551616 (m + 4) 40 ([i64 z162]) ([]) = some r.out := by
  unfold F40 at h
  obtain ⟨z168, h0, h⟩ := bnd_eq h
  obtain ⟨r1, h1, h⟩ := Option.bind_eq_some_iff.mp h
  have h1 := F41_ok (m + 0) (w64 (z168 + 5898240)) r1 h1
  cases r1 with
  | a0 z173 =>
    cases h
    exact call_pathL (gs := [.an (i64 z168) [], .an (i64 z173) []]) (notIn []) rfl rfl (by kernel_rfl) (And.intro (F70_ok (m + 2) (z162) z168 h0) (And.intro h1 True.intro))
/-! ## 20 -/
noncomputable abbrev B20 : Code := (Try.f20.body).getD .skip
inductive R20_0 where
  | e0 (k219 : Nat) (l223 : List (List V))
@[reducible] def s20_0_0 (z216 : Int) (z217 : Int) (z218 : Int) (k219 : Nat) (z220 : Int) (z221 : Int) (b222 : Bool) (l223 : List (List V)) : S := { T := i64 z216 :: i64 z217 :: i64 z218 :: U :: U :: U :: V.ptr 0 0 0 :: V.hs 1 0 k219 :: un 7 (i64 z220 :: i64 z221 :: vb b222 :: un 26 []), σ := [Ob.cells true false 2 [[vb false, V.hs 2 0 0]], Ob.cells true true 2 l223, Ob.cells true true 2 []] }
def R20_0.St : R20_0 → VX × S → Prop
  | .e0 k219 l223, p => ∃ z216 : Int, ∃ z217 : Int, ∃ z218 : Int, ∃ z220 : Int, ∃ z221 : Int, ∃ b222 : Bool, p = (VX.exit 0, s20_0_0 z216 z217 z218 k219 z220 z221 b222 l223)
def L20_0 : Nat → Int → Int → Int → Nat → Int → Int → List (List V) → Option R20_0
  | 0, _, _, _, _, _, _, _ => none
  | n + 1, z181, z182, z183, k184, z185, z186, l187 =>
    if z186 < z185 then
     if z181 = 0 then
      none -- none
     else
      if (Int.tmod z186 2 == 1) = true then
       (F40 (w64 (w64 (Int.tdiv (w64 (z186 * 11796480)) z181) - 5898240))).bind fun r => match r with
       | .a0 z204 =>
        (F39 (z183) (z204)).bind fun r => match r with
        | .a0 z205 =>
         (F41 (w64 (w64 (Int.tdiv (w64 (z186 * 11796480)) z181) - 5898240))).bind fun r => match r with
         | .a0 z206 =>
          (F39 (z183) (z206)).bind fun r => match r with
          | .a0 z207 =>
           (F38 (z205) (z207)).bind fun r => match r with
           | .a0 z208 z209 =>
            if 0 + k184 ≤ List.length l187 ∧ (k184 + 1) * 16 ≤ 140737488355328 ∧ k184 + 1 ≤ 140737488355328 then
             L20_0 n (z181) (z182) (z183) (k184 + 1) (z185) (w64 (z186 + 1)) (List.take k184 l187 ++ [[i64 z208, i64 z209]])
            else
             none -- none
      else
       (F40 (w64 (w64 (Int.tdiv (w64 (z186 * 11796480)) z181) - 5898240))).bind fun r => match r with
       | .a0 z210 =>
        (F39 (z182) (z210)).bind fun r => match r with
        | .a0 z211 =>
         (F41 (w64 (w64 (Int.tdiv (w64 (z186 * 11796480)) z181) - 5898240))).bind fun r => match r with
         | .a0 z212 =>
          (F39 (z182) (z212)).bind fun r => match r with
          | .a0 z213 =>
           (F38 (z211) (z213)).bind fun r => match r with
           | .a0 z214 z215 =>
            if 0 + k184 ≤ List.length l187 ∧ (k184 + 1) * 16 ≤ 140737488355328 ∧ k184 + 1 ≤ 140737488355328 then
             L20_0 n (z181) (z182) (z183) (k184 + 1) (z185) (w64 (z186 + 1)) (List.take k184 l187 ++ [[i64 z214, i64 z215]])
            else
             none -- none
    else
     some (R20_0.e0 (k184) (l187))
theorem L20_0_ok (m : Nat) : ∀ (n : Nat) (z181 : Int) (z182 : Int) (z183 : Int) (k184 : Nat) (z185 : Int) (z186 : Int) (l187 : List (List V)) (r : R20_0), L20_0 n z181 z182 z183 k184 z185 z186 l187 = some r → ∃ st, loopFrom Try.prog X (genO X (call Try.prog X O0 18446744073709551616 (m + 4))) 20 (0) 18446744073709551616 B20 0 n ({ T := i64 z181 :: i64 z182 :: i64 z183 :: U :: U :: U :: V.ptr 0 0 0 :: V.hs 1 0 k184 :: un 7 (i64 z185 :: i64 z186 :: un 27 []), σ := [Ob.cells true false 2 [[vb false, V.hs 2 0 0]], Ob.cells true true 2 l187, Ob.cells true true 2 []] }) = some st ∧ r.St st
  | 0, _, _, _, _, _, _, _, r, h => by cases h
  | n + 1, z181, z182, z183, k184, z185, z186, l187, r, h => by
    rw [L20_0] at h
    rcases ite_eq h with ⟨h0, h⟩ | ⟨h0, h⟩
    · skip
      rcases ite_eq h with ⟨h1, h⟩ | ⟨h1, h⟩
      · skip
        cases h
      · skip
        rcases ite_eq h with ⟨h2, h⟩ | ⟨h2, h⟩
        · skip
          obtain ⟨r3, h3, h⟩ := Option.bind_eq_some_iff.mp h
          have h3 := F40_ok (m + 0) (w64 (w64 (Int.tdiv (w64 (z186 * 11796480)) z181) - 5898240)) r3 h3
          cases r3 with
          | a0 z204 =>
            obtain ⟨r4, h4, h⟩ := Option.bind_eq_some_iff.mp h
            have h4 := F39_ok (m + 1) (z183) (z204) r4 h4
            cases r4 with
            | a0 z205 =>
              obtain ⟨r5, h5, h⟩ := Option.bind_eq_some_iff.mp h
              have h5 := F41_ok (m + 1) (w64 (w64 (Int.tdiv (w64 (z186 * 11796480)) z181) - 5898240)) r5 h5
              cases r5 with
              | a0 z206 =>
                obtain ⟨r6, h6, h⟩ := Option.bind_eq_some_iff.mp h
                have h6 := F39_ok (m + 1) (z183) (z206) r6 h6
                cases r6 with
                | a0 z207 =>
                  obtain ⟨r7, h7, h⟩ := Option.bind_eq_some_iff.mp h
                  have h7 := F38_ok (m + 3) (z205) (z207) r7 h7
                  cases r7 with
                  | a0 z208 z209 =>
                    rcases ite_eq h with ⟨h8, h⟩ | ⟨h8, h⟩
                    · skip
                      obtain ⟨st, hs, hr⟩ := L20_0_ok m n (z181) (z182) (z183) (k184 + 1) (z185) (w64 (z186 + 1)) (List.take k184 l187 ++ [[i64 z208, i64 z209]]) r h
                      exact ⟨st, (round_on (gs := [.t, .f, .a, .t, .an (i64 z204) [], .an (i64 z205) [], .an (i64 z206) [], .an (i64 z207) [], .an (V.agg [i64 z208, i64 z209]) [], .a, .t]) (notIn []) (by kernel_rfl) (And.intro (decide_eq_true h0) (And.intro (decide_eq_false h1) (And.intro h2 (And.intro h3 (And.intro h4 (And.intro h5 (And.intro h6 (And.intro h7 (And.intro (decide_eq_true h8) True.intro))))))))) n).trans hs, hr⟩
                    · skip
                      cases h
        · skip
          obtain ⟨r3, h3, h⟩ := Option.bind_eq_some_iff.mp h
          have h3 := F40_ok (m + 0) (w64 (w64 (Int.tdiv (w64 (z186 * 11796480)) z181) - 5898240)) r3 h3
          cases r3 with
          | a0 z210 =>
            obtain ⟨r4, h4, h⟩ := Option.bind_eq_some_iff.mp h
            have h4 := F39_ok (m + 1) (z182) (z210) r4 h4
            cases r4 with
            | a0 z211 =>
              obtain ⟨r5, h5, h⟩ := Option.bind_eq_some_iff.mp h
              have h5 := F41_ok (m + 1) (w64 (w64 (Int.tdiv (w64 (z186 * 11796480)) z181) - 5898240)) r5 h5
              cases r5 with
              | a0 z212 =>
                obtain ⟨r6, h6, h⟩ := Option.bind_eq_some_iff.mp h
                have h6 := F39_ok (m + 1) (z182) (z212) r6 h6
                cases r6 with
                | a0 z213 =>
                  obtain ⟨r7, h7, h⟩ := Option.bind_eq_some_iff.mp h
                  have h7 := F38_ok (m + 3) (z211) (z213) r7 h7
                  cases r7 with
                  | a0 z214 z215 =>
                    rcases ite_eq h with ⟨h8, h⟩ | ⟨h8, h⟩
                    · skip
                      obtain ⟨st, hs, hr⟩ := L20_0_ok m n (z181) (z182) (z183) (k184 + 1) (z185) (w64 (z186 + 1)) (List.take k184 l187 ++ [[i64 z214, i64 z215]]) r h
                      exact ⟨st, (round_on (gs := [.t, .f, .a, .f, .an (i64 z210) [], .an (i64 z211) [], .an (i64 z212) [], .an (i64 z213) [], .an (V.agg [i64 z214, i64 z215]) [], .a, .t]) (notIn []) (by kernel_rfl) (And.intro (decide_eq_true h0) (And.intro (decide_eq_false h1) (And.intro (Bool.eq_false_iff.mpr h2) (And.intro h3 (And.intro h4 (And.intro h5 (And.intro h6 (And.intro h7 (And.intro (decide_eq_true h8) True.intro))))))))) n).trans hs, hr⟩
                    · skip
                      cases h
    · skip
      cases h
      exact ⟨_, round_out (gs := [.f]) (notIn []) (by kernel_rfl) rfl (And.intro (decide_eq_false h0) True.intro) n, z181, z182, z183, z185, z186, decide (z186 < z185), rfl⟩
inductive A20 where
  | a0 (b235 : Bool) (k236 : Nat) (l237 : List (List V))
@[reducible] def A20.out : A20 → V × Store
  | .a0 b235 k236 l237 => (V.agg [vb b235, V.hs 0 0 k236], [Ob.cells true true 2 l237])
def F20 (z154 : Int) (z155 : Int) (z156 : Int) : Option A20 :=
  (L20_0 18446744073709551616 (if (if 16 < z154 then 16 else z154) > 2 then if 16 < z154 then 16 else z154 else 2) (z155) (z156) (0) (w64 (2 * if (if 16 < z154 then 16 else z154) > 2 then if 16 < z154 then 16 else z154 else 2)) (0) ([])).bind fun r => match r with
  | .e0 k227 l231 =>
   if 0 + k227 ≤ List.length l231 then
    (F37 (List.take k227 l231)).bind fun r => match r with
    | .a0 b232 k233 l234 =>
     some (A20.a0 (b232) (k233) (l234))
   else
    none -- none
theorem F20_ok (m : Nat) (z154 : Int) (z155 : Int) (z156 : Int) (r : A20) (h : F20 z154 z155 z156 = some r) : call Try.prog X O0 18446744073709551616 (m + 5) 20 ([i64 z154, i64 z155, i64 z156]) ([]) = some r.out := by
  unfold F20 at h
  obtain ⟨r0, h0, h⟩ := Option.bind_eq_some_iff.mp h
  obtain ⟨st0, h0, hr0⟩ := L20_0_ok m 18446744073709551616 (if (if 16 < z154 then 16 else z154) > 2 then if 16 < z154 then 16 else z154 else 2) (z155) (z156) (0) (w64 (2 * if (if 16 < z154 then 16 else z154) > 2 then if 16 < z154 then 16 else z154 else 2)) (0) ([]) r0 h0
  have h0 : loopRun Try.prog X (genO X (call Try.prog X O0 18446744073709551616 (m + 4))) 20 (0) 18446744073709551616 B20 0 ({ T := i64 (if (if 16 < z154 then 16 else z154) > 2 then if 16 < z154 then 16 else z154 else 2) :: i64 z155 :: i64 z156 :: U :: U :: U :: V.ptr 0 0 0 :: V.nilS :: U :: U :: U :: i64 z154 :: i64 (if 16 < z154 then 16 else z154) :: i64 (if (if 16 < z154 then 16 else z154) > 2 then if 16 < z154 then 16 else z154 else 2) :: i64 (if (if 16 < z154 then 16 else z154) > 2 then if 16 < z154 then 16 else z154 else 2) :: i64 (w64 (2 * if (if 16 < z154 then 16 else z154) > 2 then if 16 < z154 then 16 else z154 else 2)) :: i64 0 :: un 27 [], σ := [Ob.cells true false 2 [[vb false, V.nilS]]] }) = some st0 := by
    rw [loopRun_from, show pre X 20 (0) 0 ({ T := i64 (if (if 16 < z154 then 16 else z154) > 2 then if 16 < z154 then 16 else z154 else 2) :: i64 z155 :: i64 z156 :: U :: U :: U :: V.ptr 0 0 0 :: V.nilS :: U :: U :: U :: i64 z154 :: i64 (if 16 < z154 then 16 else z154) :: i64 (if (if 16 < z154 then 16 else z154) > 2 then if 16 < z154 then 16 else z154 else 2) :: i64 (if (if 16 < z154 then 16 else z154) > 2 then if 16 < z154 then 16 else z154 else 2) :: i64 (w64 (2 * if (if 16 < z154 then 16 else z154) > 2 then if 16 < z154 then 16 else z154 else 2)) :: i64 0 :: un 27 [], σ := [Ob.cells true false 2 [[vb false, V.nilS]]] }) = { T := i64 (if (if 16 < z154 then 16 else z154) > 2 then if 16 < z154 then 16 else z154 else 2) :: i64 z155 :: i64 z156 :: U :: U :: U :: V.ptr 0 0 0 :: V.hs 1 0 0 :: un 7 (i64 (w64 (2 * if (if 16 < z154 then 16 else z154) > 2 then if 16 < z154 then 16 else z154 else 2)) :: i64 0 :: un 27 []), σ := [Ob.cells true false 2 [[vb false, V.hs 2 0 0]], Ob.cells true true 2 [], Ob.cells true true 2 []] } by kernel_rfl]
    exact h0
  cases r0 with
  | e0 k227 l231 =>
    obtain ⟨z224, z225, z226, z228, z229, b230, rfl⟩ := hr0
    rcases ite_eq h with ⟨h1, h⟩ | ⟨h1, h⟩
    · skip
      obtain ⟨r2, h2, h⟩ := Option.bind_eq_some_iff.mp h
      have h2 := F37_ok (m + 3) (List.take k227 l231) r2 h2
      cases r2 with
      | a0 b232 k233 l234 =>
        cases h
        exact call_pathL (gs := [.lp (VX.exit 0) (s20_0_0 z224 z225 z226 k227 z228 z229 b230 l231), .t, .an (V.agg [vb b232, V.hs 0 0 k233]) [Ob.cells true true 2 l234], .a]) (notIn []) rfl rfl (by kernel_rfl) (And.intro h0 (And.intro (decide_eq_true h1) (And.intro h2 True.intro)))
    · skip
      cases h
/-! ## 95 -/
def F95 (z461 : Int) (z462 : Int) (z463 : Int) : Bool :=
  if z461 ≥ z462 then
   decide (z461 ≤ z463)
  else
   false
theorem F95_ok (m : Nat) (z461 : Int) (z462 : Int) (z463 : Int) (b466 : Bool) (h : F95 z461 z462 z463 = b466) : call Try.prog X O0 18446744073709551616 (m + 1) 95 ([i64 z461, i64 z462, i64 z463]) ([]) = some (vb b466, []) := by
  unfold F95 at h
  rcases ite_eq h with ⟨h0, h⟩ | ⟨h0, h⟩
  · skip
    subst h
    exact call_pathL (gs := [.t, .t, .t, .t]) (notIn []) rfl rfl (by kernel_rfl) (And.intro (decide_eq_true h0) (And.intro (decide_eq_true h0) (And.intro (decide_eq_true h0) (And.intro (decide_eq_true h0) True.intro))))
  · skip
    subst h
    exact call_pathL (gs := [.f, .f, .f, .f]) (notIn []) rfl rfl (by kernel_rfl) (And.intro (decide_eq_false h0) (And.intro (decide_eq_false h0) (And.intro (decide_eq_false h0) (And.intro (decide_eq_false h0) True.intro))))
/-! ## 67 -/
def F67 (z456 : Int) (z457 : Int) (z458 : Int) (z459 : Int) : Bool :=
  bnd (F95 (z456) (0) (65536)) fun b467 =>
  if (b467) = true then
   bnd (F95 (z458) (0) (65536)) fun b468 =>
   if (b468) = true then
    bnd (F95 (z457) (-131072) (196608)) fun b469 =>
    if (b469) = true then
     bnd (F95 (z459) (-131072) (196608)) fun b470 =>
     b470
    else
     false
   else
    false
  else
   false
theorem F67_ok (m : Nat) (z456 : Int) (z457 : Int) (z458 : Int) (z459 : Int) (b472 : Bool) (h : F67 z456 z457 z458 z459 = b472) : call Try.prog X O0 18446744073709551616 (m + 2) 67 ([V.agg [i64 z456, i64 z457, i64 z458, i64 z459]]) ([]) = some (vb b472, []) := by
  unfold F67 at h
  obtain ⟨b467, h0, h⟩ := bnd_eq h
  rcases ite_eq h with ⟨h1, h⟩ | ⟨h1, h⟩
  · skip
    obtain ⟨b468, h2, h⟩ := bnd_eq h
    rcases ite_eq h with ⟨h3, h⟩ | ⟨h3, h⟩
    · skip
      obtain ⟨b469, h4, h⟩ := bnd_eq h
      rcases ite_eq h with ⟨h5, h⟩ | ⟨h5, h⟩
      · skip
        obtain ⟨b470, h6, h⟩ := bnd_eq h
        subst h
        exact call_pathL (gs := [.a, .an (vb b467) [], .t, .t, .t, .a, .t, .an (vb b468) [], .t, .t, .t, .t, .a, .t, .an (vb b469) [], .t, .t, .t, .t, .a, .t, .an (vb b470) [], .t]) (notIn []) rfl rfl (by kernel_rfl) (And.intro (F95_ok (m + 0) (z456) (0) (65536) b467 h0) (And.intro h1 (And.intro h1 (And.intro h1 (And.intro h1 (And.intro (F95_ok (m + 0) (z458) (0) (65536) b468 h2) (And.intro h1 (And.intro h3 (And.intro h3 (And.intro h3 (And.intro h3 (And.intro (F95_ok (m + 0) (z457) (-131072) (196608) b469 h4) (And.intro h3 (And.intro h5 (And.intro h5 (And.intro h5 (And.intro h5 (And.intro (F95_ok (m + 0) (z459) (-131072) (196608) b470 h6) (And.intro h5 True.intro)))))))))))))))))))
      · skip
        subst h
        exact call_pathL (gs := [.a, .an (vb b467) [], .t, .t, .t, .a, .t, .an (vb b468) [], .t, .t, .t, .t, .a, .t, .an (vb b469) [], .t, .f, .f, .f, .f, .f]) (notIn []) rfl rfl (by kernel_rfl) (And.intro (F95_ok (m + 0) (z456) (0) (65536) b467 h0) (And.intro h1 (And.intro h1 (And.intro h1 (And.intro h1 (And.intro (F95_ok (m + 0) (z458) (0) (65536) b468 h2) (And.intro h1 (And.intro h3 (And.intro h3 (And.intro h3 (And.intro h3 (And.intro (F95_ok (m + 0) (z457) (-131072) (196608) b469 h4) (And.intro h3 (And.intro (Bool.eq_false_iff.mpr h5) (And.intro (Bool.eq_false_iff.mpr h5) (And.intro (Bool.eq_false_iff.mpr h5) (And.intro (Bool.eq_false_iff.mpr h5) (And.intro (Bool.eq_false_iff.mpr h5) True.intro))))))))))))))))))
    · skip
      subst h
      exact call_pathL (gs := [.a, .an (vb b467) [], .t, .t, .t, .a, .t, .an (vb b468) [], .t, .f, .f, .f, .f, .f, .a, .a, .a, .a, .a]) (notIn []) rfl rfl (by kernel_rfl) (And.intro (F95_ok (m + 0) (z456) (0) (65536) b467 h0) (And.intro h1 (And.intro h1 (And.intro h1 (And.intro h1 (And.intro (F95_ok (m + 0) (z458) (0) (65536) b468 h2) (And.intro h1 (And.intro (Bool.eq_false_iff.mpr h3) (And.intro (Bool.eq_false_iff.mpr h3) (And.intro (Bool.eq_false_iff.mpr h3) (And.intro (Bool.eq_false_iff.mpr h3) (And.intro (Bool.eq_false_iff.mpr h3) True.intro))))))))))))
  · skip
    subst h
    exact call_pathL (gs := [.a, .an (vb b467) [], .f, .f, .f, .f, .f, .a, .a, .a, .a, .a, .a, .a, .a, .a, .a]) (notIn []) rfl rfl (by kernel_rfl) (And.intro (F95_ok (m + 0) (z456) (0) (65536) b467 h0) (And.intro (Bool.eq_false_iff.mpr h1) (And.intro (Bool.eq_false_iff.mpr h1) (And.intro (Bool.eq_false_iff.mpr h1) (And.intro (Bool.eq_false_iff.mpr h1) (And.intro (Bool.eq_false_iff.mpr h1) True.intro))))))
/-! ## 36 -/
def F36 (z446 : Int) (z447 : Int) (z448 : Int) (z449 : Int) (z450 : Int) (z451 : Int) (z452 : Int) (z453 : Int) : Bool :=
  if z448 < -1073741824 then
   false
  else
   if z448 > 1073741824 then
    false
   else
    if z446 > 0 then
     if z448 ≤ z447 then
      false
     else
      if (z449 == 2) = true then
       bnd (F67 (z450) (z451) (z452) (z453)) fun b473 =>
       b473
      else
       if (z449 == 0) = true then
        z450 == 0 && (z451 == 0 && (z452 == 0 && (z453 == 0 && true)))
       else
        if (z449 == 1) = true then
         z450 == 0 && (z451 == 0 && (z452 == 0 && (z453 == 0 && true)))
        else
         false
    else
     if (z449 == 2) = true then
      bnd (F67 (z450) (z451) (z452) (z453)) fun b474 =>
      b474
     else
      if (z449 == 0) = true then
       z450 == 0 && (z451 == 0 && (z452 == 0 && (z453 == 0 && true)))
      else
       if (z449 == 1) = true then
        z450 == 0 && (z451 == 0 && (z452 == 0 && (z453 == 0 && true)))
       else
        false
theorem F36_ok (m : Nat) (z446 : Int) (z447 : Int) (z448 : Int) (z449 : Int) (z450 : Int) (z451 : Int) (z452 : Int) (z453 : Int) (b475 : Bool) (h : F36 z446 z447 z448 z449 z450 z451 z452 z453 = b475) : call Try.prog X O0 18446744073709551616 (m + 3) 36 ([i64 z446, i64 z447, i64 z448, i64 z449, V.agg [i64 z450, i64 z451, i64 z452, i64 z453]]) ([]) = some (vb b475, []) := by
  unfold F36 at h
  rcases ite_eq h with ⟨h0, h⟩ | ⟨h0, h⟩
  · skip
    subst h
    exact call_pathL (gs := [.t, .t, .t, .a, .a, .a, .a, .a, .a]) (notIn []) rfl rfl (by kernel_rfl) (And.intro (decide_eq_true h0) (And.intro (decide_eq_true h0) (And.intro (decide_eq_true h0) True.intro)))
  · skip
    rcases ite_eq h with ⟨h1, h⟩ | ⟨h1, h⟩
    · skip
      subst h
      exact call_pathL (gs := [.f, .f, .f, .t, .t, .t, .t, .t, .a]) (notIn []) rfl rfl (by kernel_rfl) (And.intro (decide_eq_false h0) (And.intro (decide_eq_false h0) (And.intro (decide_eq_false h0) (And.intro (decide_eq_true h1) (And.intro (decide_eq_true h1) (And.intro (decide_eq_true h1) (And.intro (decide_eq_true h1) (And.intro (decide_eq_true h1) True.intro))))))))
    · skip
      rcases ite_eq h with ⟨h2, h⟩ | ⟨h2, h⟩
      · skip
        rcases ite_eq h with ⟨h3, h⟩ | ⟨h3, h⟩
        · skip
          subst h
          exact call_pathL (gs := [.f, .f, .f, .f, .f, .f, .t, .t, .t, .f, .t, .f, .t]) (notIn []) rfl rfl (by kernel_rfl) (And.intro (decide_eq_false h0) (And.intro (decide_eq_false h0) (And.intro (decide_eq_false h0) (And.intro (decide_eq_false h1) (And.intro (decide_eq_false h1) (And.intro (decide_eq_false h1) (And.intro (decide_eq_true h2) (And.intro (decide_eq_true h2) (And.intro (decide_eq_true h2) (And.intro (decide_eq_false h1) (And.intro (decide_eq_true h2) (And.intro (decide_eq_false h1) (And.intro (decide_eq_true h3) True.intro)))))))))))))
        · skip
          rcases ite_eq h with ⟨h4, h⟩ | ⟨h4, h⟩
          · skip
            obtain ⟨b473, h5, h⟩ := bnd_eq h
            subst h
            exact call_pathL (gs := [.f, .f, .f, .f, .f, .f, .t, .t, .t, .f, .t, .f, .f, .t, .a, .an (vb b473) []]) (notIn []) rfl rfl (by kernel_rfl) (And.intro (decide_eq_false h0) (And.intro (decide_eq_false h0) (And.intro (decide_eq_false h0) (And.intro (decide_eq_false h1) (And.intro (decide_eq_false h1) (And.intro (decide_eq_false h1) (And.intro (decide_eq_true h2) (And.intro (decide_eq_true h2) (And.intro (decide_eq_true h2) (And.intro (decide_eq_false h1) (And.intro (decide_eq_true h2) (And.intro (decide_eq_false h1) (And.intro (decide_eq_false h3) (And.intro h4 (And.intro (F67_ok (m + 0) (z450) (z451) (z452) (z453) b473 h5) True.intro)))))))))))))))
          · skip
            rcases ite_eq h with ⟨h5, h⟩ | ⟨h5, h⟩
            · skip
              subst h
              exact call_pathL (gs := [.f, .f, .f, .f, .f, .f, .t, .t, .t, .f, .t, .f, .f, .f, .t, .t, .t, .a, .a, .a, .a, .a]) (notIn []) rfl rfl (by kernel_rfl) (And.intro (decide_eq_false h0) (And.intro (decide_eq_false h0) (And.intro (decide_eq_false h0) (And.intro (decide_eq_false h1) (And.intro (decide_eq_false h1) (And.intro (decide_eq_false h1) (And.intro (decide_eq_true h2) (And.intro (decide_eq_true h2) (And.intro (decide_eq_true h2) (And.intro (decide_eq_false h1) (And.intro (decide_eq_true h2) (And.intro (decide_eq_false h1) (And.intro (decide_eq_false h3) (And.intro (Bool.eq_false_iff.mpr h4) (And.intro h5 (And.intro h5 (And.intro h5 True.intro)))))))))))))))))
            · skip
              rcases ite_eq h with ⟨h6, h⟩ | ⟨h6, h⟩
              · skip
                subst h
                exact call_pathL (gs := [.f, .f, .f, .f, .f, .f, .t, .t, .t, .f, .t, .f, .f, .f, .f, .f, .f, .t, .a, .t, .t, .t]) (notIn []) rfl rfl (by kernel_rfl) (And.intro (decide_eq_false h0) (And.intro (decide_eq_false h0) (And.intro (decide_eq_false h0) (And.intro (decide_eq_false h1) (And.intro (decide_eq_false h1) (And.intro (decide_eq_false h1) (And.intro (decide_eq_true h2) (And.intro (decide_eq_true h2) (And.intro (decide_eq_true h2) (And.intro (decide_eq_false h1) (And.intro (decide_eq_true h2) (And.intro (decide_eq_false h1) (And.intro (decide_eq_false h3) (And.intro (Bool.eq_false_iff.mpr h4) (And.intro (Bool.eq_false_iff.mpr h5) (And.intro (Bool.eq_false_iff.mpr h5) (And.intro (Bool.eq_false_iff.mpr h5) (And.intro h6 (And.intro h6 (And.intro h6 (And.intro h6 True.intro)))))))))))))))))))))
              · skip
                subst h
                exact call_pathL (gs := [.f, .f, .f, .f, .f, .f, .t, .t, .t, .f, .t, .f, .f, .f, .f, .f, .f, .f, .f, .f, .f]) (notIn []) rfl rfl (by kernel_rfl) (And.intro (decide_eq_false h0) (And.intro (decide_eq_false h0) (And.intro (decide_eq_false h0) (And.intro (decide_eq_false h1) (And.intro (decide_eq_false h1) (And.intro (decide_eq_false h1) (And.intro (decide_eq_true h2) (And.intro (decide_eq_true h2) (And.intro (decide_eq_true h2) (And.intro (decide_eq_false h1) (And.intro (decide_eq_true h2) (And.intro (decide_eq_false h1) (And.intro (decide_eq_false h3) (And.intro (Bool.eq_false_iff.mpr h4) (And.intro (Bool.eq_false_iff.mpr h5) (And.intro (Bool.eq_false_iff.mpr h5) (And.intro (Bool.eq_false_iff.mpr h5) (And.intro (Bool.eq_false_iff.mpr h6) (And.intro (Bool.eq_false_iff.mpr h6) (And.intro (Bool.eq_false_iff.mpr h6) (And.intro (Bool.eq_false_iff.mpr h6) True.intro)))))))))))))))))))))
      · skip
        rcases ite_eq h with ⟨h3, h⟩ | ⟨h3, h⟩
        · skip
          obtain ⟨b474, h4, h⟩ := bnd_eq h
          subst h
          exact call_pathL (gs := [.f, .f, .f, .f, .f, .f, .f, .f, .f, .f, .f, .f, .a, .t, .a, .an (vb b474) []]) (notIn []) rfl rfl (by kernel_rfl) (And.intro (decide_eq_false h0) (And.intro (decide_eq_false h0) (And.intro (decide_eq_false h0) (And.intro (decide_eq_false h1) (And.intro (decide_eq_false h1) (And.intro (decide_eq_false h1) (And.intro (decide_eq_false h2) (And.intro (decide_eq_false h2) (And.intro (decide_eq_false h2) (And.intro (decide_eq_false h1) (And.intro (decide_eq_false h2) (And.intro (decide_eq_false h1) (And.intro h3 (And.intro (F67_ok (m + 0) (z450) (z451) (z452) (z453) b474 h4) True.intro))))))))))))))
        · skip
          rcases ite_eq h with ⟨h4, h⟩ | ⟨h4, h⟩
          · skip
            subst h
            exact call_pathL (gs := [.f, .f, .f, .f, .f, .f, .f, .f, .f, .f, .f, .f, .a, .f, .t, .t, .t, .a, .a, .a, .a, .a]) (notIn []) rfl rfl (by kernel_rfl) (And.intro (decide_eq_false h0) (And.intro (decide_eq_false h0) (And.intro (decide_eq_false h0) (And.intro (decide_eq_false h1) (And.intro (decide_eq_false h1) (And.intro (decide_eq_false h1) (And.intro (decide_eq_false h2) (And.intro (decide_eq_false h2) (And.intro (decide_eq_false h2) (And.intro (decide_eq_false h1) (And.intro (decide_eq_false h2) (And.intro (decide_eq_false h1) (And.intro (Bool.eq_false_iff.mpr h3) (And.intro h4 (And.intro h4 (And.intro h4 True.intro))))))))))))))))
          · skip
            rcases ite_eq h with ⟨h5, h⟩ | ⟨h5, h⟩
            · skip
              subst h
              exact call_pathL (gs := [.f, .f, .f, .f, .f, .f, .f, .f, .f, .f, .f, .f, .a, .f, .f, .f, .f, .t, .a, .t, .t, .t]) (notIn []) rfl rfl (by kernel_rfl) (And.intro (decide_eq_false h0) (And.intro (decide_eq_false h0) (And.intro (decide_eq_false h0) (And.intro (decide_eq_false h1) (And.intro (decide_eq_false h1) (And.intro (decide_eq_false h1) (And.intro (decide_eq_false h2) (And.intro (decide_eq_false h2) (And.intro (decide_eq_false h2) (And.intro (decide_eq_false h1) (And.intro (decide_eq_false h2) (And.intro (decide_eq_false h1) (And.intro (Bool.eq_false_iff.mpr h3) (And.intro (Bool.eq_false_iff.mpr h4) (And.intro (Bool.eq_false_iff.mpr h4) (And.intro (Bool.eq_false_iff.mpr h4) (And.intro h5 (And.intro h5 (And.intro h5 (And.intro h5 True.intro))))))))))))))))))))
            · skip
              subst h
              exact call_pathL (gs := [.f, .f, .f, .f, .f, .f, .f, .f, .f, .f, .f, .f, .a, .f, .f, .f, .f, .f, .f, .f, .f]) (notIn []) rfl rfl (by kernel_rfl) (And.intro (decide_eq_false h0) (And.intro (decide_eq_false h0) (And.intro (decide_eq_false h0) (And.intro (decide_eq_false h1) (And.intro (decide_eq_false h1) (And.intro (decide_eq_false h1) (And.intro (decide_eq_false h2) (And.intro (decide_eq_false h2) (And.intro (decide_eq_false h2) (And.intro (decide_eq_false h1) (And.intro (decide_eq_false h2) (And.intro (decide_eq_false h1) (And.intro (Bool.eq_false_iff.mpr h3) (And.intro (Bool.eq_false_iff.mpr h4) (And.intro (Bool.eq_false_iff.mpr h4) (And.intro (Bool.eq_false_iff.mpr h4) (And.intro (Bool.eq_false_iff.mpr h5) (And.intro (Bool.eq_false_iff.mpr h5) (And.intro (Bool.eq_false_iff.mpr h5) (And.intro (Bool.eq_false_iff.mpr h5) True.intro))))))))))))))))))))
/-! ## 103 -/
def F103 (b490 : Bool) (l491 : List (List V)) : Bool :=
  (↑(List.length l491) : Int) == 0
theorem F103_ok (m : Nat) (b490 : Bool) (l491 : List (List V)) (b494 : Bool) (h : F103 b490 l491 = b494) : call Try.prog X O0 18446744073709551616 (m + 1) 103 ([V.agg [vb b490, V.list 2 l491]]) ([]) = some (vb b494, []) := by
  unfold F103 at h
  subst h
  exact call_pathL (gs := [.a]) (notIn []) rfl rfl (by kernel_rfl) True.intro
/-! ## 117 -/
def F117 (z524 : Int) : Bool :=
  if z524 ≥ -67108864 then
   decide (z524 ≤ 67108864)
  else
   false
theorem F117_ok (m : Nat) (z524 : Int) (b527 : Bool) (h : F117 z524 = b527) : call Try.prog X O0 18446744073709551616 (m + 1) 117 ([i64 z524]) ([]) = some (vb b527, []) := by
  unfold F117 at h
  rcases ite_eq h with ⟨h0, h⟩ | ⟨h0, h⟩
  · skip
    subst h
    exact call_pathL (gs := [.t, .t, .t]) (notIn []) rfl rfl (by kernel_rfl) (And.intro (decide_eq_true h0) (And.intro (decide_eq_true h0) (And.intro (decide_eq_true h0) True.intro)))
  · skip
    subst h
    exact call_pathL (gs := [.f, .f, .f]) (notIn []) rfl rfl (by kernel_rfl) (And.intro (decide_eq_false h0) (And.intro (decide_eq_false h0) (And.intro (decide_eq_false h0) True.intro)))
/-! ## 116 -/
def F116 (z521 : Int) (z522 : Int) : Bool :=
  bnd (F117 (z521)) fun b528 =>
  if (!b528) = true then
   true
  else
   bnd (F117 (z522)) fun b530 =>
   !b530
theorem F116_ok (m : Nat) (z521 : Int) (z522 : Int) (b531 : Bool) (h : F116 z521 z522 = b531) : call Try.prog X O0 18446744073709551616 (m + 2) 116 ([V.agg [i64 z521, i64 z522]]) ([]) = some (vb b531, []) := by
  unfold F116 at h
  obtain ⟨b528, h0, h⟩ := bnd_eq h
  rcases ite_eq h with ⟨h1, h⟩ | ⟨h1, h⟩
  · skip
    subst h
    exact call_pathL (gs := [.a, .an (vb b528) [], .t, .t, .t, .t, .t]) (notIn []) rfl rfl (by kernel_rfl) (And.intro (F117_ok (m + 0) (z521) b528 h0) (And.intro h1 (And.intro h1 (And.intro h1 (And.intro h1 (And.intro h1 True.intro))))))
  · skip
    obtain ⟨b530, h2, h⟩ := bnd_eq h
    subst h
    exact call_pathL (gs := [.a, .an (vb b528) [], .f, .f, .a, .f, .an (vb b530) [], .f, .f]) (notIn []) rfl rfl (by kernel_rfl) (And.intro (F117_ok (m + 0) (z521) b528 h0) (And.intro (Bool.eq_false_iff.mpr h1) (And.intro (Bool.eq_false_iff.mpr h1) (And.intro (Bool.eq_false_iff.mpr h1) (And.intro (F117_ok (m + 0) (z522) b530 h2) (And.intro (Bool.eq_false_iff.mpr h1) (And.intro (Bool.eq_false_iff.mpr h1) True.intro)))))))
/-! ## 120 -/
noncomputable abbrev B120 : Code := (Try.f120.body).getD .skip
inductive R120_0 where
  | e0 (z558 : Int)
  | e1
@[reducible] def s120_0_0 (l557 : List (List V)) (z558 : Int) (z559 : Int) (b560 : Bool) (z561 : Int) (z562 : Int) (b563 : Bool) : S := { T := [V.list 2 l557, V.fn 116 [], U, U, i64 z558, i64 z558, U, i64 z559, i64 z558, vb b560, i64 z558, V.fn 116 [], V.list 2 l557, i64 z558, V.pp [i64 z561, i64 z562], V.agg [i64 z561, i64 z562], vb b563, i64 z558, U], σ := [] }
@[reducible] def s120_0_1 (l564 : List (List V)) (z565 : Int) (z566 : Int) (b567 : Bool) : S := { T := V.list 2 l564 :: V.fn 116 [] :: un 5 (i64 z565 :: i64 z566 :: vb b567 :: un 9 []), σ := [] }
def R120_0.St : R120_0 → VX × S → Prop
  | .e0 z558, p => ∃ l557 : List (List V), ∃ z559 : Int, ∃ b560 : Bool, ∃ z561 : Int, ∃ z562 : Int, ∃ b563 : Bool, p = (VX.ret, s120_0_0 l557 z558 z559 b560 z561 z562 b563)
  | .e1, p => ∃ l564 : List (List V), ∃ z565 : Int, ∃ z566 : Int, ∃ b567 : Bool, p = (VX.exit 0, s120_0_1 l564 z565 z566 b567)
def L120_0 : Nat → List (List V) → Int → Int → Option R120_0
  | 0, _, _, _ => none
  | n + 1, l539, z540, z541 =>
    if z541 < z540 then
     if 0 ≤ z541 then
      ((l539[Int.toNat z541]?).bind W44.dec).bind fun e555 =>
      bnd (F116 (e555.c0) (e555.c1)) fun b556 =>
      if (b556) = true then
       some (R120_0.e0 (z541))
      else
       L120_0 n (l539) (z540) (w64 (z541 + 1))
     else
      none -- none
    else
     some (R120_0.e1)
theorem L120_0_ok (m : Nat) : ∀ (n : Nat) (l539 : List (List V)) (z540 : Int) (z541 : Int) (r : R120_0), L120_0 n l539 z540 z541 = some r → ∃ st, loopFrom Try.prog X (genO X (call Try.prog X O0 18446744073709551616 (m + 2))) 120 (0) 18446744073709551616 B120 0 n ({ T := V.list 2 l539 :: V.fn 116 [] :: un 5 (i64 z540 :: i64 z541 :: un 10 []), σ := [] }) = some st ∧ r.St st
  | 0, _, _, _, r, h => by cases h
  | n + 1, l539, z540, z541, r, h => by
    rw [L120_0] at h
    rcases ite_eq h with ⟨h0, h⟩ | ⟨h0, h⟩
    · skip
      rcases ite_eq h with ⟨h1, h⟩ | ⟨h1, h⟩
      · skip
        obtain ⟨e555, h2, h⟩ := Option.bind_eq_some_iff.mp h
        obtain ⟨b556, h3, h⟩ := bnd_eq h
        rcases ite_eq h with ⟨h4, h⟩ | ⟨h4, h⟩
        · skip
          cases h
          exact ⟨_, round_out (gs := [.t, .t, .el (W44.cells e555), .an (vb b556) [], .t]) (notIn []) (by kernel_rfl) rfl (And.intro (decide_eq_true h0) (And.intro (decide_eq_true h1) (And.intro (W44.dec_ok h2) (And.intro (F116_ok (m + 0) (e555.c0) (e555.c1) b556 h3) (And.intro h4 True.intro))))) n, l539, z540, decide (z541 < z540), e555.c0, e555.c1, b556, rfl⟩
        · skip
          obtain ⟨st, hs, hr⟩ := L120_0_ok m n (l539) (z540) (w64 (z541 + 1)) r h
          exact ⟨st, (round_on (gs := [.t, .t, .el (W44.cells e555), .an (vb b556) [], .f]) (notIn []) (by kernel_rfl) (And.intro (decide_eq_true h0) (And.intro (decide_eq_true h1) (And.intro (W44.dec_ok h2) (And.intro (F116_ok (m + 0) (e555.c0) (e555.c1) b556 h3) (And.intro (Bool.eq_false_iff.mpr h4) True.intro))))) n).trans hs, hr⟩
      · skip
        cases h
    · skip
      cases h
      exact ⟨_, round_out (gs := [.f]) (notIn []) (by kernel_rfl) rfl (And.intro (decide_eq_false h0) True.intro) n, l539, z540, z541, decide (z541 < z540), rfl⟩
inductive A120 where
  | a0 (z575 : Int)
@[reducible] def A120.out : A120 → V × Store
  | .a0 z575 => (i64 z575, [])
def F120 (l516 : List (List V)) : Option A120 :=
  (L120_0 18446744073709551616 (l516) ((↑(List.length l516) : Int)) (0)).bind fun r => match r with
  | .e0 z569 =>
   some (A120.a0 (z569))
  | .e1 =>
   some (A120.a0 (-1))
theorem F120_ok (m : Nat) (l516 : List (List V)) (r : A120) (h : F120 l516 = some r) : call Try.prog X O0 18446744073709551616 (m + 3) 120 ([V.list 2 l516, V.fn 116 []]) ([]) = some r.out := by
  unfold F120 at h
  obtain ⟨r0, h0, h⟩ := Option.bind_eq_some_iff.mp h
  obtain ⟨st0, h0, hr0⟩ := L120_0_ok m 18446744073709551616 (l516) ((↑(List.length l516) : Int)) (0) r0 h0
  have h0 : loopRun Try.prog X (genO X (call Try.prog X O0 18446744073709551616 (m + 2))) 120 (0) 18446744073709551616 B120 0 ({ T := V.list 2 l516 :: V.fn 116 [] :: U :: U :: i64 0 :: U :: V.list 2 l516 :: i64 (↑(List.length l516) : Int) :: i64 0 :: un 10 [], σ := [] }) = some st0 := by
    rw [loopRun_from, show pre X 120 (0) 0 ({ T := V.list 2 l516 :: V.fn 116 [] :: U :: U :: i64 0 :: U :: V.list 2 l516 :: i64 (↑(List.length l516) : Int) :: i64 0 :: un 10 [], σ := [] }) = { T := V.list 2 l516 :: V.fn 116 [] :: un 5 (i64 (↑(List.length l516) : Int) :: i64 0 :: un 10 []), σ := [] } by kernel_rfl]
    exact h0
  cases r0 with
  | e0 z569 =>
    obtain ⟨l568, z570, b571, z572, z573, b574, rfl⟩ := hr0
    cases h
    exact call_pathL (gs := [.lp (VX.ret) (s120_0_0 l568 z569 z570 b571 z572 z573 b574)]) (notIn []) rfl rfl (by kernel_rfl) (And.intro h0 True.intro)
  | e1 =>
    obtain ⟨l576, z577, z578, b579, rfl⟩ := hr0
    cases h
    exact call_pathL (gs := [.lp (VX.exit 0) (s120_0_1 l576 z577 z578 b579)]) (notIn []) rfl rfl (by kernel_rfl) (And.intro h0 True.intro)
/-! ## 115 -/
inductive A115 where
  | a0 (b581 : Bool)
@[reducible] def A115.out : A115 → V × Store
  | .a0 b581 => (vb b581, [])
def F115 (l514 : List (List V)) : Option A115 :=
  (F120 (l514)).bind fun r => match r with
  | .a0 z580 =>
   some (A115.a0 (decide (z580 ≥ 0)))
theorem F115_ok (m : Nat) (l514 : List (List V)) (r : A115) (h : F115 l514 = some r) : call Try.prog X O0 18446744073709551616 (m + 4) 115 ([V.list 2 l514, V.fn 116 []]) ([]) = some r.out := by
  unfold F115 at h
  obtain ⟨r0, h0, h⟩ := Option.bind_eq_some_iff.mp h
  have h0 := F120_ok (m + 0) (l514) r0 h0
  cases r0 with
  | a0 z580 =>
    cases h
    exact call_pathL (gs := [.an (i64 z580) []]) (notIn []) rfl rfl (by kernel_rfl) (And.intro h0 True.intro)
/-! ## 104 -/
inductive A104 where
  | a0 (b513 : Bool)
@[reducible] def A104.out : A104 → V × Store
  | .a0 b513 => (vb b513, [])
def F104 (b510 : Bool) (l511 : List (List V)) : Option A104 :=
  if ((↑(List.length l511) : Int) == 0) = true then
   some (A104.a0 (!b510))
  else
   if (↑(List.length l511) : Int) ≥ 4 then
    if (↑(List.length l511) : Int) ≤ 97 then
     if (Int.tmod (↑(List.length l511) : Int) 3 == 1) = true then
      (F115 (l511)).bind fun r => match r with
      | .a0 b582 =>
       some (A104.a0 (!b582))
     else
      some (A104.a0 (false))
    else
     some (A104.a0 (false))
   else
    some (A104.a0 (false))
theorem F104_ok (m : Nat) (b510 : Bool) (l511 : List (List V)) (r : A104) (h : F104 b510 l511 = some r) : call Try.prog X O0 18446744073709551616 (m + 5) 104 ([V.agg [vb b510, V.list 2 l511]]) ([]) = some r.out := by
  unfold F104 at h
  rcases ite_eq h with ⟨h0, h⟩ | ⟨h0, h⟩
  · skip
    cases h
    exact call_pathL (gs := [.a, .t, .a]) (notIn []) rfl rfl (by kernel_rfl) (And.intro h0 True.intro)
  · skip
    rcases ite_eq h with ⟨h1, h⟩ | ⟨h1, h⟩
    · skip
      rcases ite_eq h with ⟨h2, h⟩ | ⟨h2, h⟩
      · skip
        rcases ite_eq h with ⟨h3, h⟩ | ⟨h3, h⟩
        · skip
          obtain ⟨r4, h4, h⟩ := Option.bind_eq_some_iff.mp h
          have h4 := F115_ok (m + 0) (l511) r4 h4
          cases r4 with
          | a0 b582 =>
            cases h
            exact call_pathL (gs := [.a, .f, .t, .t, .t, .t, .t, .a, .t, .t, .t, .t, .a, .t, .an (vb b582) [], .t, .t]) (notIn []) rfl rfl (by kernel_rfl) (And.intro (Bool.eq_false_iff.mpr h0) (And.intro (decide_eq_true h1) (And.intro (decide_eq_true h1) (And.intro (decide_eq_true h1) (And.intro (decide_eq_true h2) (And.intro (decide_eq_true h2) (And.intro (decide_eq_true h2) (And.intro (decide_eq_true h2) (And.intro h3 (And.intro h3 (And.intro h3 (And.intro h4 (And.intro h3 (And.intro h3 True.intro))))))))))))))
        · skip
          cases h
          exact call_pathL (gs := [.a, .f, .t, .t, .t, .t, .t, .a, .t, .t, .f, .f, .f, .f, .f]) (notIn []) rfl rfl (by kernel_rfl) (And.intro (Bool.eq_false_iff.mpr h0) (And.intro (decide_eq_true h1) (And.intro (decide_eq_true h1) (And.intro (decide_eq_true h1) (And.intro (decide_eq_true h2) (And.intro (decide_eq_true h2) (And.intro (decide_eq_true h2) (And.intro (decide_eq_true h2) (And.intro (Bool.eq_false_iff.mpr h3) (And.intro (Bool.eq_false_iff.mpr h3) (And.intro (Bool.eq_false_iff.mpr h3) (And.intro (Bool.eq_false_iff.mpr h3) (And.intro (Bool.eq_false_iff.mpr h3) True.intro)))))))))))))
      · skip
        cases h
        exact call_pathL (gs := [.a, .f, .t, .t, .t, .f, .f, .f, .f, .a, .a, .a, .a, .a]) (notIn []) rfl rfl (by kernel_rfl) (And.intro (Bool.eq_false_iff.mpr h0) (And.intro (decide_eq_true h1) (And.intro (decide_eq_true h1) (And.intro (decide_eq_true h1) (And.intro (decide_eq_false h2) (And.intro (decide_eq_false h2) (And.intro (decide_eq_false h2) (And.intro (decide_eq_false h2) True.intro))))))))
    · skip
      cases h
      exact call_pathL (gs := [.a, .f, .f, .f, .f, .a, .a, .a, .a, .a, .a, .a, .a, .a]) (notIn []) rfl rfl (by kernel_rfl) (And.intro (Bool.eq_false_iff.mpr h0) (And.intro (decide_eq_false h1) (And.intro (decide_eq_false h1) (And.intro (decide_eq_false h1) True.intro))))
/-! ## 102 -/
def F102 (b600 : Bool) (l601 : List (List V)) (b602 : Bool) (l603 : List (List V)) : Bool :=
  if ((↑(List.length l601) : Int) == (↑(List.length l603) : Int)) = true then
   b600 == b602
  else
   false
theorem F102_ok (m : Nat) (b600 : Bool) (l601 : List (List V)) (b602 : Bool) (l603 : List (List V)) (b606 : Bool) (h : F102 b600 l601 b602 l603 = b606) : call Try.prog X O0 18446744073709551616 (m + 1) 102 ([V.agg [vb b600, V.list 2 l601], V.agg [vb b602, V.list 2 l603]]) ([]) = some (vb b606, []) := by
  unfold F102 at h
  rcases ite_eq h with ⟨h0, h⟩ | ⟨h0, h⟩
  · skip
    subst h
    exact call_pathL (gs := [.a, .a, .t, .t, .a, .t, .t, .a, .t, .t]) (notIn []) rfl rfl (by kernel_rfl) (And.intro h0 (And.intro h0 (And.intro h0 (And.intro h0 (And.intro h0 (And.intro h0 True.intro))))))
  · skip
    subst h
    exact call_pathL (gs := [.a, .a, .f, .f, .f, .f, .f, .f]) (notIn []) rfl rfl (by kernel_rfl) (And.intro (Bool.eq_false_iff.mpr h0) (And.intro (Bool.eq_false_iff.mpr h0) (And.intro (Bool.eq_false_iff.mpr h0) (And.intro (Bool.eq_false_iff.mpr h0) (And.intro (Bool.eq_false_iff.mpr h0) (And.intro (Bool.eq_false_iff.mpr h0) True.intro))))))
/-! ## 80 -/
noncomputable abbrev B80 : Code := (Try.f80.body).getD .skip
inductive R80_0 where
  | e0
  | e1
  | e2
  | e3
  | e4 (l781 : List (List V))
@[reducible] def s80_0_0 (l700 : List (List V)) (z701 : Int) (z702 : Int) (z703 : Int) (b704 : Bool) (z705 : Int) (b706 : Bool) (l707 : List (List V)) (z708 : Int) (z709 : Int) (z710 : Int) (z711 : Int) (z712 : Int) (b713 : Bool) (b714 : Bool) : S := { T := V.list 8 l700 :: U :: vb false :: i64 z701 :: i64 z702 :: V.ptr 0 0 0 :: V.list 8 l700 :: i64 z703 :: i64 z702 :: vb b704 :: i64 z702 :: V.pp [i64 z705, vb b706, V.list 2 l707, i64 z708, i64 z709, i64 z710, i64 z711, i64 z712] :: V.agg [i64 z705, vb b706, V.list 2 l707, i64 z708, i64 z709, i64 z710, i64 z711, i64 z712] :: i64 z702 :: i64 z701 :: V.ptr 0 0 0 :: i64 z705 :: V.ptr 0 0 3 :: i64 z708 :: V.ptr 0 0 4 :: V.agg [i64 z709, i64 z710, i64 z711, i64 z712] :: vb b713 :: vb b714 :: vb b714 :: E :: E :: E :: vb true :: vb true :: E :: E :: E :: E :: vb true :: vb true :: E :: E :: E :: E :: E :: E :: E :: E :: vb true :: un 6 [], σ := [Ob.cells true false 8 [[i64 z705, vb b706, V.list 2 l707, i64 z708, i64 z709, i64 z710, i64 z711, i64 z712]]] }
@[reducible] def s80_0_1 (l716 : List (List V)) (z717 : Int) (z718 : Int) (z719 : Int) (b720 : Bool) (z721 : Int) (b722 : Bool) (l723 : List (List V)) (z724 : Int) (z725 : Int) (z726 : Int) (z727 : Int) (z728 : Int) (b729 : Bool) (b730 : Bool) (b731 : Bool) : S := { T := V.list 8 l716 :: U :: vb false :: i64 z717 :: i64 z718 :: V.ptr 0 0 0 :: V.list 8 l716 :: i64 z719 :: i64 z718 :: vb b720 :: i64 z718 :: V.pp [i64 z721, vb b722, V.list 2 l723, i64 z724, i64 z725, i64 z726, i64 z727, i64 z728] :: V.agg [i64 z721, vb b722, V.list 2 l723, i64 z724, i64 z725, i64 z726, i64 z727, i64 z728] :: i64 z718 :: i64 z717 :: V.ptr 0 0 0 :: i64 z721 :: V.ptr 0 0 3 :: i64 z724 :: V.ptr 0 0 4 :: V.agg [i64 z725, i64 z726, i64 z727, i64 z728] :: vb b729 :: vb b730 :: vb b730 :: V.ptr 0 0 1 :: V.agg [vb b722, V.list 2 l723] :: vb b731 :: vb b731 :: vb b731 :: E :: E :: E :: E :: vb true :: vb true :: E :: E :: E :: E :: E :: E :: E :: E :: vb true :: un 6 [], σ := [Ob.cells true false 8 [[i64 z721, vb b722, V.list 2 l723, i64 z724, i64 z725, i64 z726, i64 z727, i64 z728]]] }
@[reducible] def s80_0_2 (l733 : List (List V)) (z734 : Int) (z735 : Int) (z736 : Int) (b737 : Bool) (z738 : Int) (b739 : Bool) (l740 : List (List V)) (z741 : Int) (z742 : Int) (z743 : Int) (z744 : Int) (z745 : Int) (b746 : Bool) (b747 : Bool) (b748 : Bool) (b749 : Bool) (b750 : Bool) : S := { T := V.list 8 l733 :: U :: vb false :: i64 z734 :: i64 z735 :: V.ptr 0 0 0 :: V.list 8 l733 :: i64 z736 :: i64 z735 :: vb b737 :: i64 z735 :: V.pp [i64 z738, vb b739, V.list 2 l740, i64 z741, i64 z742, i64 z743, i64 z744, i64 z745] :: V.agg [i64 z738, vb b739, V.list 2 l740, i64 z741, i64 z742, i64 z743, i64 z744, i64 z745] :: i64 z735 :: i64 z734 :: V.ptr 0 0 0 :: i64 z738 :: V.ptr 0 0 3 :: i64 z741 :: V.ptr 0 0 4 :: V.agg [i64 z742, i64 z743, i64 z744, i64 z745] :: vb b746 :: vb b747 :: vb b747 :: V.ptr 0 0 1 :: V.agg [vb b739, V.list 2 l740] :: vb b748 :: vb b748 :: vb b748 :: V.ptr 0 0 1 :: V.agg [vb b739, V.list 2 l740] :: vb b749 :: vb b750 :: vb b750 :: vb b750 :: E :: E :: E :: E :: E :: E :: E :: E :: vb true :: un 6 [], σ := [Ob.cells true false 8 [[i64 z738, vb b739, V.list 2 l740, i64 z741, i64 z742, i64 z743, i64 z744, i64 z745]]] }
@[reducible] def s80_0_3 (l753 : List (List V)) (z754 : Int) (z755 : Int) (z756 : Int) (b757 : Bool) (z758 : Int) (b759 : Bool) (l760 : List (List V)) (z761 : Int) (z762 : Int) (z763 : Int) (z764 : Int) (z765 : Int) (b766 : Bool) (b767 : Bool) (b768 : Bool) (b769 : Bool) (b770 : Bool) (z771 : Int) (b772 : Bool) (l773 : List (List V)) (z774 : Int) (z775 : Int) (z776 : Int) (z777 : Int) (z778 : Int) (b779 : Bool) (b780 : Bool) : S := { T := V.list 8 l753 :: U :: vb false :: i64 z754 :: i64 z755 :: V.ptr 0 0 0 :: V.list 8 l753 :: i64 z756 :: i64 z755 :: vb b757 :: i64 z755 :: V.pp [i64 z758, vb b759, V.list 2 l760, i64 z761, i64 z762, i64 z763, i64 z764, i64 z765] :: V.agg [i64 z758, vb b759, V.list 2 l760, i64 z761, i64 z762, i64 z763, i64 z764, i64 z765] :: i64 z755 :: i64 z754 :: V.ptr 0 0 0 :: i64 z758 :: V.ptr 0 0 3 :: i64 z761 :: V.ptr 0 0 4 :: V.agg [i64 z762, i64 z763, i64 z764, i64 z765] :: vb b766 :: vb b767 :: vb b767 :: V.ptr 0 0 1 :: V.agg [vb b759, V.list 2 l760] :: vb b768 :: vb b768 :: vb b768 :: V.ptr 0 0 1 :: V.agg [vb b759, V.list 2 l760] :: vb b769 :: vb b770 :: vb b770 :: vb b770 :: V.ptr 0 0 1 :: V.agg [vb b759, V.list 2 l760] :: V.list 8 l753 :: V.pp [i64 z771, vb b772, V.list 2 l773, i64 z774, i64 z775, i64 z776, i64 z777, i64 z778] :: V.pp [vb b772, V.list 2 l773, i64 z774, i64 z775, i64 z776, i64 z777, i64 z778] :: V.agg [vb b772, V.list 2 l773] :: vb b779 :: vb b780 :: vb b780 :: un 6 [], σ := [Ob.cells true false 8 [[i64 z758, vb b759, V.list 2 l760, i64 z761, i64 z762, i64 z763, i64 z764, i64 z765]]] }
@[reducible] def s80_0_4 (l781 : List (List V)) (z782 : Int) (z783 : Int) (z784 : Int) (b785 : Bool) : S := { T := V.list 8 l781 :: U :: U :: i64 z782 :: U :: U :: V.list 8 l781 :: i64 z783 :: i64 z784 :: vb b785 :: un 40 [], σ := [] }
def R80_0.St : R80_0 → VX × S → Prop
  | .e0, p => ∃ l700 : List (List V), ∃ z701 : Int, ∃ z702 : Int, ∃ z703 : Int, ∃ b704 : Bool, ∃ z705 : Int, ∃ b706 : Bool, ∃ l707 : List (List V), ∃ z708 : Int, ∃ z709 : Int, ∃ z710 : Int, ∃ z711 : Int, ∃ z712 : Int, ∃ b713 : Bool, ∃ b714 : Bool, p = (VX.ret, s80_0_0 l700 z701 z702 z703 b704 z705 b706 l707 z708 z709 z710 z711 z712 b713 b714)
  | .e1, p => ∃ l716 : List (List V), ∃ z717 : Int, ∃ z718 : Int, ∃ z719 : Int, ∃ b720 : Bool, ∃ z721 : Int, ∃ b722 : Bool, ∃ l723 : List (List V), ∃ z724 : Int, ∃ z725 : Int, ∃ z726 : Int, ∃ z727 : Int, ∃ z728 : Int, ∃ b729 : Bool, ∃ b730 : Bool, ∃ b731 : Bool, p = (VX.ret, s80_0_1 l716 z717 z718 z719 b720 z721 b722 l723 z724 z725 z726 z727 z728 b729 b730 b731)
  | .e2, p => ∃ l733 : List (List V), ∃ z734 : Int, ∃ z735 : Int, ∃ z736 : Int, ∃ b737 : Bool, ∃ z738 : Int, ∃ b739 : Bool, ∃ l740 : List (List V), ∃ z741 : Int, ∃ z742 : Int, ∃ z743 : Int, ∃ z744 : Int, ∃ z745 : Int, ∃ b746 : Bool, ∃ b747 : Bool, ∃ b748 : Bool, ∃ b749 : Bool, ∃ b750 : Bool, p = (VX.ret, s80_0_2 l733 z734 z735 z736 b737 z738 b739 l740 z741 z742 z743 z744 z745 b746 b747 b748 b749 b750)
  | .e3, p => ∃ l753 : List (List V), ∃ z754 : Int, ∃ z755 : Int, ∃ z756 : Int, ∃ b757 : Bool, ∃ z758 : Int, ∃ b759 : Bool, ∃ l760 : List (List V), ∃ z761 : Int, ∃ z762 : Int, ∃ z763 : Int, ∃ z764 : Int, ∃ z765 : Int, ∃ b766 : Bool, ∃ b767 : Bool, ∃ b768 : Bool, ∃ b769 : Bool, ∃ b770 : Bool, ∃ z771 : Int, ∃ b772 : Bool, ∃ l773 : List (List V), ∃ z774 : Int, ∃ z775 : Int, ∃ z776 : Int, ∃ z777 : Int, ∃ z778 : Int, ∃ b779 : Bool, ∃ b780 : Bool, p = (VX.ret, s80_0_3 l753 z754 z755 z756 b757 z758 b759 l760 z761 z762 z763 z764 z765 b766 b767 b768 b769 b770 z771 b772 l773 z774 z775 z776 z777 z778 b779 b780)
  | .e4 l781, p => ∃ z782 : Int, ∃ z783 : Int, ∃ z784 : Int, ∃ b785 : Bool, p = (VX.exit 0, s80_0_4 l781 z782 z783 z784 b785)
def L80_0 : Nat → List (List V) → Int → Int → Int → Option R80_0
  | 0, _, _, _, _ => none
  | n + 1, l626, z627, z628, z629 =>
    if z629 < z628 then
     if 0 ≤ z629 then
      ((l626[Int.toNat z629]?).bind W70.dec).bind fun e698 =>
      bnd (F36 (z629) (z627) (e698.c0) (e698.c3) (e698.c4) (e698.c5) (e698.c6) (e698.c7)) fun b699 =>
      if (!b699) = true then
       some (R80_0.e0)
      else
       bnd (F103 (e698.c1) (e698.3)) fun b715 =>
       if (b715) = true then
        some (R80_0.e1)
       else
        (F104 (e698.c1) (e698.3)).bind fun r => match r with
        | .a0 b732 =>
         if (!b732) = true then
          some (R80_0.e2)
         else
          ((l626[(0 : Nat)]?).bind W70.dec).bind fun e751 =>
          bnd (F102 (e698.c1) (e698.3) (e751.c1) (e751.3)) fun b752 =>
          if (!b752) = true then
           some (R80_0.e3)
          else
           L80_0 n (l626) (e698.c0) (z628) (w64 (z629 + 1))
     else
      none -- none
    else
     some (R80_0.e4 (l626))
theorem L80_0_ok (m : Nat) : ∀ (n : Nat) (l626 : List (List V)) (z627 : Int) (z628 : Int) (z629 : Int) (r : R80_0), L80_0 n l626 z627 z628 z629 = some r → ∃ st, loopFrom Try.prog X (genO X (call Try.prog X O0 18446744073709551616 (m + 5))) 80 (0) 18446744073709551616 B80 0 n ({ T := V.list 8 l626 :: U :: U :: i64 z627 :: U :: U :: V.list 8 l626 :: i64 z628 :: i64 z629 :: un 41 [], σ := [] }) = some st ∧ r.St st
  | 0, _, _, _, _, r, h => by cases h
  | n + 1, l626, z627, z628, z629, r, h => by
    rw [L80_0] at h
    rcases ite_eq h with ⟨h0, h⟩ | ⟨h0, h⟩
    · skip
      rcases ite_eq h with ⟨h1, h⟩ | ⟨h1, h⟩
      · skip
        obtain ⟨e698, h2, h⟩ := Option.bind_eq_some_iff.mp h
        obtain ⟨b699, h3, h⟩ := bnd_eq h
        rcases ite_eq h with ⟨h4, h⟩ | ⟨h4, h⟩
        · skip
          cases h
          exact ⟨_, round_out (gs := [.t, .t, .el (W70.cells e698), .a, .a, .a, .a, .an (vb b699) [], .t, .t, .t, .t, .a, .a, .a, .a, .a, .a, .a, .a, .a, .a, .a, .a, .a, .a, .ft [⟨0, [], []⟩, ⟨1, [], []⟩, ⟨2, [0], []⟩, ⟨3, [0], []⟩, ⟨4, [0], []⟩, ⟨5, [0], []⟩, ⟨6, [0], []⟩, ⟨7, [0], []⟩, ⟨8, [], []⟩, ⟨9, [], []⟩, ⟨10, [], []⟩, ⟨11, [], []⟩, ⟨12, [], []⟩, ⟨13, [], []⟩, ⟨14, [], []⟩, ⟨15, [], []⟩, ⟨16, [], []⟩, ⟨17, [], []⟩, ⟨18, [], []⟩, ⟨19, [], []⟩, ⟨20, [], []⟩, ⟨21, [], []⟩, ⟨22, [], []⟩, ⟨23, [], []⟩, ⟨24, [], []⟩, ⟨25, [], []⟩, ⟨26, [], []⟩, ⟨27, [], []⟩, ⟨28, [], []⟩, ⟨29, [], []⟩, ⟨30, [], []⟩], .a]) (notIn []) (by kernel_rfl) rfl (And.intro (decide_eq_true h0) (And.intro (decide_eq_true h1) (And.intro (W70.dec_ok h2) (And.intro (F36_ok (m + 2) (z629) (z627) (e698.c0) (e698.c3) (e698.c4) (e698.c5) (e698.c6) (e698.c7) b699 h3) (And.intro h4 (And.intro h4 (And.intro h4 (And.intro h4 (And.intro (Eq.refl ([⟨0, [], []⟩, ⟨1, [], []⟩, ⟨2, [0], []⟩, ⟨3, [0], []⟩, ⟨4, [0], []⟩, ⟨5, [0], []⟩, ⟨6, [0], []⟩, ⟨7, [0], []⟩, ⟨8, [], []⟩, ⟨9, [], []⟩, ⟨10, [], []⟩, ⟨11, [], []⟩, ⟨12, [], []⟩, ⟨13, [], []⟩, ⟨14, [], []⟩, ⟨15, [], []⟩, ⟨16, [], []⟩, ⟨17, [], []⟩, ⟨18, [], []⟩, ⟨19, [], []⟩, ⟨20, [], []⟩, ⟨21, [], []⟩, ⟨22, [], []⟩, ⟨23, [], []⟩, ⟨24, [], []⟩, ⟨25, [], []⟩, ⟨26, [], []⟩, ⟨27, [], []⟩, ⟨28, [], []⟩, ⟨29, [], []⟩, ⟨30, [], []⟩] : List Foot)) True.intro))))))))) n, l626, z627, z629, z628, decide (z629 < z628), e698.c0, e698.c1, e698.3, e698.c3, e698.c4, e698.c5, e698.c6, e698.c7, b699, !b699, rfl⟩
        · skip
          obtain ⟨b715, h5, h⟩ := bnd_eq h
          rcases ite_eq h with ⟨h6, h⟩ | ⟨h6, h⟩
          · skip
            cases h
            exact ⟨_, round_out (gs := [.t, .t, .el (W70.cells e698), .a, .a, .a, .a, .an (vb b699) [], .f, .f, .a, .f, .an (vb b715) [], .f, .t, .t, .t, .t, .t, .a, .a, .a, .a, .a, .a, .a, .a, .a, .ft [⟨0, [], []⟩, ⟨1, [], []⟩, ⟨2, [0], []⟩, ⟨3, [0], []⟩, ⟨4, [0], []⟩, ⟨5, [0], []⟩, ⟨6, [0], []⟩, ⟨7, [0], []⟩, ⟨8, [], []⟩, ⟨9, [], []⟩, ⟨10, [], []⟩, ⟨11, [0], []⟩, ⟨12, [0], []⟩, ⟨13, [], []⟩, ⟨14, [], []⟩, ⟨15, [], []⟩, ⟨16, [], []⟩, ⟨17, [], []⟩, ⟨18, [], []⟩, ⟨19, [], []⟩, ⟨20, [], []⟩, ⟨21, [], []⟩, ⟨22, [], []⟩, ⟨23, [], []⟩, ⟨24, [], []⟩, ⟨25, [], []⟩, ⟨26, [], []⟩, ⟨27, [], []⟩, ⟨28, [], []⟩, ⟨29, [], []⟩, ⟨30, [], []⟩], .a]) (notIn []) (by kernel_rfl) rfl (And.intro (decide_eq_true h0) (And.intro (decide_eq_true h1) (And.intro (W70.dec_ok h2) (And.intro (F36_ok (m + 2) (z629) (z627) (e698.c0) (e698.c3) (e698.c4) (e698.c5) (e698.c6) (e698.c7) b699 h3) (And.intro (Bool.eq_false_iff.mpr h4) (And.intro (Bool.eq_false_iff.mpr h4) (And.intro (Bool.eq_false_iff.mpr h4) (And.intro (F103_ok (m + 4) (e698.c1) (e698.3) b715 h5) (And.intro (Bool.eq_false_iff.mpr h4) (And.intro h6 (And.intro h6 (And.intro h6 (And.intro h6 (And.intro h6 (And.intro (Eq.refl ([⟨0, [], []⟩, ⟨1, [], []⟩, ⟨2, [0], []⟩, ⟨3, [0], []⟩, ⟨4, [0], []⟩, ⟨5, [0], []⟩, ⟨6, [0], []⟩, ⟨7, [0], []⟩, ⟨8, [], []⟩, ⟨9, [], []⟩, ⟨10, [], []⟩, ⟨11, [0], []⟩, ⟨12, [0], []⟩, ⟨13, [], []⟩, ⟨14, [], []⟩, ⟨15, [], []⟩, ⟨16, [], []⟩, ⟨17, [], []⟩, ⟨18, [], []⟩, ⟨19, [], []⟩, ⟨20, [], []⟩, ⟨21, [], []⟩, ⟨22, [], []⟩, ⟨23, [], []⟩, ⟨24, [], []⟩, ⟨25, [], []⟩, ⟨26, [], []⟩, ⟨27, [], []⟩, ⟨28, [], []⟩, ⟨29, [], []⟩, ⟨30, [], []⟩] : List Foot)) True.intro))))))))))))))) n, l626, z627, z629, z628, decide (z629 < z628), e698.c0, e698.c1, e698.3, e698.c3, e698.c4, e698.c5, e698.c6, e698.c7, b699, !b699, b715, rfl⟩
          · skip
            obtain ⟨r7, h7, h⟩ := Option.bind_eq_some_iff.mp h
            have h7 := F104_ok (m + 0) (e698.c1) (e698.3) r7 h7
            cases r7 with
            | a0 b732 =>
              rcases ite_eq h with ⟨h8, h⟩ | ⟨h8, h⟩
              · skip
                cases h
                exact ⟨_, round_out (gs := [.t, .t, .el (W70.cells e698), .a, .a, .a, .a, .an (vb b699) [], .f, .f, .a, .f, .an (vb b715) [], .f, .f, .f, .a, .f, .an (vb b732) [], .f, .f, .t, .t, .t, .t, .t, .t, .t, .t, .t, .ft [⟨0, [], []⟩, ⟨1, [], []⟩, ⟨2, [0], []⟩, ⟨3, [0], []⟩, ⟨4, [0], []⟩, ⟨5, [0], []⟩, ⟨6, [0], []⟩, ⟨7, [0], []⟩, ⟨8, [], []⟩, ⟨9, [], []⟩, ⟨10, [], []⟩, ⟨11, [0], []⟩, ⟨12, [0], []⟩, ⟨13, [], []⟩, ⟨14, [], []⟩, ⟨15, [], []⟩, ⟨16, [0], []⟩, ⟨17, [0], []⟩, ⟨18, [], []⟩, ⟨19, [], []⟩, ⟨20, [], []⟩, ⟨21, [], []⟩, ⟨22, [], []⟩, ⟨23, [], []⟩, ⟨24, [], []⟩, ⟨25, [], []⟩, ⟨26, [], []⟩, ⟨27, [], []⟩, ⟨28, [], []⟩, ⟨29, [], []⟩, ⟨30, [], []⟩], .a]) (notIn []) (by kernel_rfl) rfl (And.intro (decide_eq_true h0) (And.intro (decide_eq_true h1) (And.intro (W70.dec_ok h2) (And.intro (F36_ok (m + 2) (z629) (z627) (e698.c0) (e698.c3) (e698.c4) (e698.c5) (e698.c6) (e698.c7) b699 h3) (And.intro (Bool.eq_false_iff.mpr h4) (And.intro (Bool.eq_false_iff.mpr h4) (And.intro (Bool.eq_false_iff.mpr h4) (And.intro (F103_ok (m + 4) (e698.c1) (e698.3) b715 h5) (And.intro (Bool.eq_false_iff.mpr h4) (And.intro (Bool.eq_false_iff.mpr h6) (And.intro (Bool.eq_false_iff.mpr h6) (And.intro (Bool.eq_false_iff.mpr h6) (And.intro h7 (And.intro (Bool.eq_false_iff.mpr h6) (And.intro (Bool.eq_false_iff.mpr h6) (And.intro h8 (And.intro h8 (And.intro h8 (And.intro h8 (And.intro h8 (And.intro h8 (And.intro h8 (And.intro h8 (And.intro h8 (And.intro (Eq.refl ([⟨0, [], []⟩, ⟨1, [], []⟩, ⟨2, [0], []⟩, ⟨3, [0], []⟩, ⟨4, [0], []⟩, ⟨5, [0], []⟩, ⟨6, [0], []⟩, ⟨7, [0], []⟩, ⟨8, [], []⟩, ⟨9, [], []⟩, ⟨10, [], []⟩, ⟨11, [0], []⟩, ⟨12, [0], []⟩, ⟨13, [], []⟩, ⟨14, [], []⟩, ⟨15, [], []⟩, ⟨16, [0], []⟩, ⟨17, [0], []⟩, ⟨18, [], []⟩, ⟨19, [], []⟩, ⟨20, [], []⟩, ⟨21, [], []⟩, ⟨22, [], []⟩, ⟨23, [], []⟩, ⟨24, [], []⟩, ⟨25, [], []⟩, ⟨26, [], []⟩, ⟨27, [], []⟩, ⟨28, [], []⟩, ⟨29, [], []⟩, ⟨30, [], []⟩] : List Foot)) True.intro))))))))))))))))))))))))) n, l626, z627, z629, z628, decide (z629 < z628), e698.c0, e698.c1, e698.3, e698.c3, e698.c4, e698.c5, e698.c6, e698.c7, b699, !b699, b715, b732, !b732, rfl⟩
              · skip
                obtain ⟨e751, h9, h⟩ := Option.bind_eq_some_iff.mp h
                obtain ⟨b752, h10, h⟩ := bnd_eq h
                rcases ite_eq h with ⟨h11, h⟩ | ⟨h11, h⟩
                · skip
                  cases h
                  exact ⟨_, round_out (gs := [.t, .t, .el (W70.cells e698), .a, .a, .a, .a, .an (vb b699) [], .f, .f, .a, .f, .an (vb b715) [], .f, .f, .f, .a, .f, .an (vb b732) [], .f, .f, .f, .f, .a, .f, .f, .a, .el (W70.cells e751), .f, .f, .f, .an (vb b752) [], .f, .f, .ft [⟨0, [], []⟩, ⟨1, [], []⟩, ⟨2, [0], []⟩, ⟨3, [0], []⟩, ⟨4, [0], []⟩, ⟨5, [0], []⟩, ⟨6, [0], []⟩, ⟨7, [0], []⟩, ⟨8, [], []⟩, ⟨9, [], []⟩, ⟨10, [], []⟩, ⟨11, [0], []⟩, ⟨12, [0], []⟩, ⟨13, [], []⟩, ⟨14, [], []⟩, ⟨15, [], []⟩, ⟨16, [0], []⟩, ⟨17, [0], []⟩, ⟨18, [], []⟩, ⟨19, [], []⟩, ⟨20, [], []⟩, ⟨21, [], []⟩, ⟨22, [0], []⟩, ⟨23, [0], []⟩, ⟨24, [], []⟩, ⟨25, [], []⟩, ⟨26, [], []⟩, ⟨27, [], []⟩, ⟨28, [], []⟩, ⟨29, [], []⟩, ⟨30, [], []⟩], .t]) (notIn []) (by kernel_rfl) rfl (And.intro (decide_eq_true h0) (And.intro (decide_eq_true h1) (And.intro (W70.dec_ok h2) (And.intro (F36_ok (m + 2) (z629) (z627) (e698.c0) (e698.c3) (e698.c4) (e698.c5) (e698.c6) (e698.c7) b699 h3) (And.intro (Bool.eq_false_iff.mpr h4) (And.intro (Bool.eq_false_iff.mpr h4) (And.intro (Bool.eq_false_iff.mpr h4) (And.intro (F103_ok (m + 4) (e698.c1) (e698.3) b715 h5) (And.intro (Bool.eq_false_iff.mpr h4) (And.intro (Bool.eq_false_iff.mpr h6) (And.intro (Bool.eq_false_iff.mpr h6) (And.intro (Bool.eq_false_iff.mpr h6) (And.intro h7 (And.intro (Bool.eq_false_iff.mpr h6) (And.intro (Bool.eq_false_iff.mpr h6) (And.intro (Bool.eq_false_iff.mpr h8) (And.intro (Bool.eq_false_iff.mpr h8) (And.intro (Bool.eq_false_iff.mpr h8) (And.intro (Bool.eq_false_iff.mpr h8) (And.intro (W70.dec_ok h9) (And.intro (Bool.eq_false_iff.mpr h8) (And.intro (Bool.eq_false_iff.mpr h8) (And.intro (Bool.eq_false_iff.mpr h8) (And.intro (F102_ok (m + 4) (e698.c1) (e698.3) (e751.c1) (e751.3) b752 h10) (And.intro (Bool.eq_false_iff.mpr h8) (And.intro (Bool.eq_false_iff.mpr h8) (And.intro (Eq.refl ([⟨0, [], []⟩, ⟨1, [], []⟩, ⟨2, [0], []⟩, ⟨3, [0], []⟩, ⟨4, [0], []⟩, ⟨5, [0], []⟩, ⟨6, [0], []⟩, ⟨7, [0], []⟩, ⟨8, [], []⟩, ⟨9, [], []⟩, ⟨10, [], []⟩, ⟨11, [0], []⟩, ⟨12, [0], []⟩, ⟨13, [], []⟩, ⟨14, [], []⟩, ⟨15, [], []⟩, ⟨16, [0], []⟩, ⟨17, [0], []⟩, ⟨18, [], []⟩, ⟨19, [], []⟩, ⟨20, [], []⟩, ⟨21, [], []⟩, ⟨22, [0], []⟩, ⟨23, [0], []⟩, ⟨24, [], []⟩, ⟨25, [], []⟩, ⟨26, [], []⟩, ⟨27, [], []⟩, ⟨28, [], []⟩, ⟨29, [], []⟩, ⟨30, [], []⟩] : List Foot)) (And.intro h11 True.intro)))))))))))))))))))))))))))) n, l626, z627, z629, z628, decide (z629 < z628), e698.c0, e698.c1, e698.3, e698.c3, e698.c4, e698.c5, e698.c6, e698.c7, b699, !b699, b715, b732, !b732, e751.c0, e751.c1, e751.3, e751.c3, e751.c4, e751.c5, e751.c6, e751.c7, b752, !b752, rfl⟩
                · skip
                  obtain ⟨st, hs, hr⟩ := L80_0_ok m n (l626) (e698.c0) (z628) (w64 (z629 + 1)) r h
                  exact ⟨st, (round_on (gs := [.t, .t, .el (W70.cells e698), .a, .a, .a, .a, .an (vb b699) [], .f, .f, .a, .f, .an (vb b715) [], .f, .f, .f, .a, .f, .an (vb b732) [], .f, .f, .f, .f, .a, .f, .f, .a, .el (W70.cells e751), .f, .f, .f, .an (vb b752) [], .f, .f, .ft [⟨0, [], []⟩, ⟨1, [], []⟩, ⟨2, [0], []⟩, ⟨3, [0], []⟩, ⟨4, [0], []⟩, ⟨5, [0], []⟩, ⟨6, [0], []⟩, ⟨7, [0], []⟩, ⟨8, [], []⟩, ⟨9, [], []⟩, ⟨10, [], []⟩, ⟨11, [0], []⟩, ⟨12, [0], []⟩, ⟨13, [], []⟩, ⟨14, [], []⟩, ⟨15, [], []⟩, ⟨16, [0], []⟩, ⟨17, [0], []⟩, ⟨18, [], []⟩, ⟨19, [], []⟩, ⟨20, [], []⟩, ⟨21, [], []⟩, ⟨22, [0], []⟩, ⟨23, [0], []⟩, ⟨24, [], []⟩, ⟨25, [], []⟩, ⟨26, [], []⟩, ⟨27, [], []⟩, ⟨28, [], []⟩, ⟨29, [], []⟩, ⟨30, [], []⟩], .f, .a]) (notIn []) (by kernel_rfl) (And.intro (decide_eq_true h0) (And.intro (decide_eq_true h1) (And.intro (W70.dec_ok h2) (And.intro (F36_ok (m + 2) (z629) (z627) (e698.c0) (e698.c3) (e698.c4) (e698.c5) (e698.c6) (e698.c7) b699 h3) (And.intro (Bool.eq_false_iff.mpr h4) (And.intro (Bool.eq_false_iff.mpr h4) (And.intro (Bool.eq_false_iff.mpr h4) (And.intro (F103_ok (m + 4) (e698.c1) (e698.3) b715 h5) (And.intro (Bool.eq_false_iff.mpr h4) (And.intro (Bool.eq_false_iff.mpr h6) (And.intro (Bool.eq_false_iff.mpr h6) (And.intro (Bool.eq_false_iff.mpr h6) (And.intro h7 (And.intro (Bool.eq_false_iff.mpr h6) (And.intro (Bool.eq_false_iff.mpr h6) (And.intro (Bool.eq_false_iff.mpr h8) (And.intro (Bool.eq_false_iff.mpr h8) (And.intro (Bool.eq_false_iff.mpr h8) (And.intro (Bool.eq_false_iff.mpr h8) (And.intro (W70.dec_ok h9) (And.intro (Bool.eq_false_iff.mpr h8) (And.intro (Bool.eq_false_iff.mpr h8) (And.intro (Bool.eq_false_iff.mpr h8) (And.intro (F102_ok (m + 4) (e698.c1) (e698.3) (e751.c1) (e751.3) b752 h10) (And.intro (Bool.eq_false_iff.mpr h8) (And.intro (Bool.eq_false_iff.mpr h8) (And.intro (Eq.refl ([⟨0, [], []⟩, ⟨1, [], []⟩, ⟨2, [0], []⟩, ⟨3, [0], []⟩, ⟨4, [0], []⟩, ⟨5, [0], []⟩, ⟨6, [0], []⟩, ⟨7, [0], []⟩, ⟨8, [], []⟩, ⟨9, [], []⟩, ⟨10, [], []⟩, ⟨11, [0], []⟩, ⟨12, [0], []⟩, ⟨13, [], []⟩, ⟨14, [], []⟩, ⟨15, [], []⟩, ⟨16, [0], []⟩, ⟨17, [0], []⟩, ⟨18, [], []⟩, ⟨19, [], []⟩, ⟨20, [], []⟩, ⟨21, [], []⟩, ⟨22, [0], []⟩, ⟨23, [0], []⟩, ⟨24, [], []⟩, ⟨25, [], []⟩, ⟨26, [], []⟩, ⟨27, [], []⟩, ⟨28, [], []⟩, ⟨29, [], []⟩, ⟨30, [], []⟩] : List Foot)) (And.intro (Bool.eq_false_iff.mpr h11) True.intro)))))))))))))))))))))))))))) n).trans hs, hr⟩
      · skip
        cases h
    · skip
      cases h
      exact ⟨_, round_out (gs := [.f]) (notIn []) (by kernel_rfl) rfl (And.intro (decide_eq_false h0) True.intro) n, z627, z628, z629, decide (z629 < z628), rfl⟩
inductive A80 where
  | a0 (b801 : Bool)
@[reducible] def A80.out : A80 → V × Store
  | .a0 b801 => (vb b801, [])
def F80 (l441 : List (List V)) : Option A80 :=
  (L80_0 18446744073709551616 (l441) (0) ((↑(List.length l441) : Int)) (0)).bind fun r => match r with
  | .e0 =>
   some (A80.a0 (false))
  | .e1 =>
   some (A80.a0 (false))
  | .e2 =>
   some (A80.a0 (false))
  | .e3 =>
   some (A80.a0 (false))
  | .e4 l864 =>
   some (A80.a0 (decide ((↑(List.length l864) : Int) ≤ 32)))
theorem F80_ok (m : Nat) (l441 : List (List V)) (r : A80) (h : F80 l441 = some r) : call Try.prog X O0 18446744073709551616 (m + 6) 80 ([V.list 8 l441]) ([]) = some r.out := by
  unfold F80 at h
  obtain ⟨r0, h0, h⟩ := Option.bind_eq_some_iff.mp h
  obtain ⟨st0, h0, hr0⟩ := L80_0_ok m 18446744073709551616 (l441) (0) ((↑(List.length l441) : Int)) (0) r0 h0
  have h0 : loopRun Try.prog X (genO X (call Try.prog X O0 18446744073709551616 (m + 5))) 80 (0) 18446744073709551616 B80 0 ({ T := V.list 8 l441 :: U :: vb false :: i64 0 :: U :: U :: V.list 8 l441 :: i64 (↑(List.length l441) : Int) :: i64 0 :: un 41 [], σ := [] }) = some st0 := by
    rw [loopRun_from, show pre X 80 (0) 0 ({ T := V.list 8 l441 :: U :: vb false :: i64 0 :: U :: U :: V.list 8 l441 :: i64 (↑(List.length l441) : Int) :: i64 0 :: un 41 [], σ := [] }) = { T := V.list 8 l441 :: U :: U :: i64 0 :: U :: U :: V.list 8 l441 :: i64 (↑(List.length l441) : Int) :: i64 0 :: un 41 [], σ := [] } by kernel_rfl]
    exact h0
  cases r0 with
  | e0 =>
    obtain ⟨l786, z787, z788, z789, b790, z791, b792, l793, z794, z795, z796, z797, z798, b799, b800, rfl⟩ := hr0
    cases h
    exact call_pathL (gs := [.lp (VX.ret) (s80_0_0 l786 z787 z788 z789 b790 z791 b792 l793 z794 z795 z796 z797 z798 b799 b800)]) (notIn []) rfl rfl (by kernel_rfl) (And.intro h0 True.intro)
  | e1 =>
    obtain ⟨l802, z803, z804, z805, b806, z807, b808, l809, z810, z811, z812, z813, z814, b815, b816, b817, rfl⟩ := hr0
    cases h
    exact call_pathL (gs := [.lp (VX.ret) (s80_0_1 l802 z803 z804 z805 b806 z807 b808 l809 z810 z811 z812 z813 z814 b815 b816 b817)]) (notIn []) rfl rfl (by kernel_rfl) (And.intro h0 True.intro)
  | e2 =>
    obtain ⟨l818, z819, z820, z821, b822, z823, b824, l825, z826, z827, z828, z829, z830, b831, b832, b833, b834, b835, rfl⟩ := hr0
    cases h
    exact call_pathL (gs := [.lp (VX.ret) (s80_0_2 l818 z819 z820 z821 b822 z823 b824 l825 z826 z827 z828 z829 z830 b831 b832 b833 b834 b835)]) (notIn []) rfl rfl (by kernel_rfl) (And.intro h0 True.intro)
  | e3 =>
    obtain ⟨l836, z837, z838, z839, b840, z841, b842, l843, z844, z845, z846, z847, z848, b849, b850, b851, b852, b853, z854, b855, l856, z857, z858, z859, z860, z861, b862, b863, rfl⟩ := hr0
    cases h
    exact call_pathL (gs := [.lp (VX.ret) (s80_0_3 l836 z837 z838 z839 b840 z841 b842 l843 z844 z845 z846 z847 z848 b849 b850 b851 b852 b853 z854 b855 l856 z857 z858 z859 z860 z861 b862 b863)]) (notIn []) rfl rfl (by kernel_rfl) (And.intro h0 True.intro)
  | e4 l864 =>
    obtain ⟨z865, z866, z867, b868, rfl⟩ := hr0
    cases h
    exact call_pathL (gs := [.lp (VX.exit 0) (s80_0_4 l864 z865 z866 z867 b868)]) (notIn []) rfl rfl (by kernel_rfl) (And.intro h0 True.intro)
end Go.Proofs.Ytcomanfboibhiaa.H
