/- What the functions compute, and that they do so over the machine of plain values (printed by this session's program wip/vm/Walk.lean). No condition beyond those stated. -/
import Derived.Test.YtcomanfboibhiaaWk
import Derived.Test.YtcomanfboibhiaaRowsR4
set_option linter.unusedVariables false
set_option linter.unusedSimpArgs false
namespace Go.Proofs.Ytcomanfboibhiaa.H
open Go Go.VM
set_option maxRecDepth 100000
/-! ## 14 -/
noncomputable abbrev B14 : Code := (Try.f14.body).getD .skip
inductive R14_0 where
  | e0
  | e1 (k40 : Nat) (l46 : List (List V))
  | e2 (k48 : Nat) (l53 : List (List V))
@[reducible] def s14_0_0 (l35 : List (List V)) (z36 : Int) (b37 : Bool) : S := { T := V.list 10 l35 :: U :: U :: V.nilS :: i64 (-5) :: i64 0 :: U :: i64 0 :: V.list 10 l35 :: i64 z36 :: vb b37 :: vb b37 :: E :: E :: vb false :: un 44 [], σ := [] }
@[reducible] def s14_0_1 (l39 : List (List V)) (k40 : Nat) (z41 : Int) (z42 : Int) (z43 : Int) (b44 : Bool) (b45 : Bool) (l46 : List (List V)) : S := { T := V.list 10 l39 :: U :: U :: V.hs 0 0 k40 :: i64 z41 :: i64 z42 :: U :: i64 z42 :: V.list 10 l39 :: i64 z43 :: vb b44 :: vb b44 :: i64 z42 :: vb b45 :: vb b45 :: un 44 [], σ := [Ob.cells true true 10 l46] }
@[reducible] def s14_0_2 (l47 : List (List V)) (k48 : Nat) (z49 : Int) (z50 : Int) (z51 : Int) (b52 : Bool) (l53 : List (List V)) : S := { T := V.list 10 l47 :: U :: U :: V.hs 0 0 k48 :: i64 z49 :: i64 z50 :: U :: i64 z50 :: V.list 10 l47 :: i64 z51 :: vb b52 :: vb b52 :: E :: E :: vb false :: un 44 [], σ := [Ob.cells true true 10 l53] }
def R14_0.St : R14_0 → VX × S → Prop
  | .e0, p => ∃ l35 : List (List V), ∃ z36 : Int, ∃ b37 : Bool, p = (VX.exit 0, s14_0_0 l35 z36 b37)
  | .e1 k40 l46, p => ∃ l39 : List (List V), ∃ z41 : Int, ∃ z42 : Int, ∃ z43 : Int, ∃ b44 : Bool, ∃ b45 : Bool, p = (VX.exit 0, s14_0_1 l39 k40 z41 z42 z43 b44 b45 l46)
  | .e2 k48 l53, p => ∃ l47 : List (List V), ∃ z49 : Int, ∃ z50 : Int, ∃ z51 : Int, ∃ b52 : Bool, p = (VX.exit 0, s14_0_2 l47 k48 z49 z50 z51 b52 l53)
def L14_0s1 : Nat → List (List V) → Nat → Int → Int → List (List V) → Option R14_0
  | 0, _, _, _, _, _ => none
  | n + 1, l14, k15, z16, z17, l18 =>
    if z17 < (↑(List.length l14) : Int) then
     if z17 < 40 then
      if 0 ≤ z17 then
       ((l14[Int.toNat z17]?).bind W33.dec).bind fun e38 =>
       if (Int.tmod (w64 e38.c1) 3 != 2) = true then
        if 0 + k15 ≤ List.length l18 ∧ (k15 + 1) * 56 ≤ 140737488355328 ∧ k15 + 1 ≤ 140737488355328 then
         L14_0s1 n (l14) (k15 + 1) (w64 (w64 (z16 + 1) + w64 (↑(BitVec.toNat (BitVec.ofInt (IntKind.bits IntKind.i64) e38.c0 &&& BitVec.ofInt (IntKind.bits IntKind.i64) 7)) : Int))) (w64 (z17 + 1)) (List.take k15 l18 ++ [[i64 (w64 (w64 (z16 + 1) + w64 (↑(BitVec.toNat (BitVec.ofInt (IntKind.bits IntKind.i64) e38.c0 &&& BitVec.ofInt (IntKind.bits IntKind.i64) 7)) : Int))), u8 e38.c1, u8 e38.c2, u8 e38.c3, u8 e38.c4, i64 (Int.tmod (w64 e38.c1) 3), i64 0, i64 0, i64 0, i64 0]])
        else
         none -- none
       else
        if 0 + k15 ≤ List.length l18 ∧ (k15 + 1) * 56 ≤ 140737488355328 ∧ k15 + 1 ≤ 140737488355328 then
         L14_0s1 n (l14) (k15 + 1) (w64 (w64 (z16 + 1) + w64 (↑(BitVec.toNat (BitVec.ofInt (IntKind.bits IntKind.i64) e38.c0 &&& BitVec.ofInt (IntKind.bits IntKind.i64) 7)) : Int))) (w64 (z17 + 1)) (List.take k15 l18 ++ [[i64 (w64 (w64 (z16 + 1) + w64 (↑(BitVec.toNat (BitVec.ofInt (IntKind.bits IntKind.i64) e38.c0 &&& BitVec.ofInt (IntKind.bits IntKind.i64) 7)) : Int))), u8 e38.c1, u8 e38.c2, u8 e38.c3, u8 e38.c4, i64 (Int.tmod (w64 e38.c1) 3), i64 (w64 (↑(BitVec.toNat (BitVec.ofInt (IntKind.bits IntKind.i64) e38.c6 &&& BitVec.ofInt (IntKind.bits IntKind.i64) 65535)) : Int)), i64 (Int.tmod e38.c7 65536), i64 (w64 (↑(BitVec.toNat (BitVec.ofInt (IntKind.bits IntKind.i64) e38.c8 &&& BitVec.ofInt (IntKind.bits IntKind.i64) 65535)) : Int)), i64 131072]])
        else
         none -- none
      else
       none -- none
     else
      some (R14_0.e1 (k15) (l18))
    else
     some (R14_0.e2 (k15) (l18))
theorem L14_0s1_ok (m : Nat) : ∀ (n : Nat) (l14 : List (List V)) (k15 : Nat) (z16 : Int) (z17 : Int) (l18 : List (List V)) (r : R14_0), L14_0s1 n l14 k15 z16 z17 l18 = some r → ∃ st, loopFrom Try.prog X (call Try.prog X O0 100000 (m + 0)) 14 (0) 100000 B14 0 n ({ T := V.list 10 l14 :: U :: U :: V.hs 0 0 k15 :: i64 z16 :: i64 z17 :: un 53 [], σ := [Ob.cells true true 10 l18] }) = some st ∧ r.St st
  | 0, _, _, _, _, _, r, h => by cases h
  | n + 1, l14, k15, z16, z17, l18, r, h => by
    rw [L14_0s1] at h
    rcases ite_eq h with ⟨h0, h⟩ | ⟨h0, h⟩
    · skip
      rcases ite_eq h with ⟨h1, h⟩ | ⟨h1, h⟩
      · skip
        rcases ite_eq h with ⟨h2, h⟩ | ⟨h2, h⟩
        · skip
          obtain ⟨e38, h3, h⟩ := Option.bind_eq_some_iff.mp h
          rcases ite_eq h with ⟨h4, h⟩ | ⟨h4, h⟩
          · skip
            rcases ite_eq h with ⟨h5, h⟩ | ⟨h5, h⟩
            · skip
              obtain ⟨st, hs, hr⟩ := L14_0s1_ok m n (l14) (k15 + 1) (w64 (w64 (z16 + 1) + w64 (↑(BitVec.toNat (BitVec.ofInt (IntKind.bits IntKind.i64) e38.c0 &&& BitVec.ofInt (IntKind.bits IntKind.i64) 7)) : Int))) (w64 (z17 + 1)) (List.take k15 l18 ++ [[i64 (w64 (w64 (z16 + 1) + w64 (↑(BitVec.toNat (BitVec.ofInt (IntKind.bits IntKind.i64) e38.c0 &&& BitVec.ofInt (IntKind.bits IntKind.i64) 7)) : Int))), u8 e38.c1, u8 e38.c2, u8 e38.c3, u8 e38.c4, i64 (Int.tmod (w64 e38.c1) 3), i64 0, i64 0, i64 0, i64 0]]) r h
              exact ⟨st, (round_on (gs := [.t, .t, .t, .t, .t, .el (W33.cells e38), .a, .a, .a, .a, .a, .a, .a, .t, .a, .a, .a, .t]) (notIn []) (by kernel_rfl) (And.intro (decide_eq_true h0) (And.intro (decide_eq_true h0) (And.intro (decide_eq_true h0) (And.intro (decide_eq_true h1) (And.intro (decide_eq_true h2) (And.intro (W33.dec_ok h3) (And.intro h4 (And.intro (decide_eq_true h5) True.intro)))))))) n).trans hs, hr⟩
            · skip
              cases h
          · skip
            rcases ite_eq h with ⟨h5, h⟩ | ⟨h5, h⟩
            · skip
              obtain ⟨st, hs, hr⟩ := L14_0s1_ok m n (l14) (k15 + 1) (w64 (w64 (z16 + 1) + w64 (↑(BitVec.toNat (BitVec.ofInt (IntKind.bits IntKind.i64) e38.c0 &&& BitVec.ofInt (IntKind.bits IntKind.i64) 7)) : Int))) (w64 (z17 + 1)) (List.take k15 l18 ++ [[i64 (w64 (w64 (z16 + 1) + w64 (↑(BitVec.toNat (BitVec.ofInt (IntKind.bits IntKind.i64) e38.c0 &&& BitVec.ofInt (IntKind.bits IntKind.i64) 7)) : Int))), u8 e38.c1, u8 e38.c2, u8 e38.c3, u8 e38.c4, i64 (Int.tmod (w64 e38.c1) 3), i64 (w64 (↑(BitVec.toNat (BitVec.ofInt (IntKind.bits IntKind.i64) e38.c6 &&& BitVec.ofInt (IntKind.bits IntKind.i64) 65535)) : Int)), i64 (Int.tmod e38.c7 65536), i64 (w64 (↑(BitVec.toNat (BitVec.ofInt (IntKind.bits IntKind.i64) e38.c8 &&& BitVec.ofInt (IntKind.bits IntKind.i64) 65535)) : Int)), i64 131072]]) r h
              exact ⟨st, (round_on (gs := [.t, .t, .t, .t, .t, .el (W33.cells e38), .a, .a, .a, .a, .a, .a, .a, .f, .a, .a, .a, .a, .a, .a, .a, .t]) (notIn []) (by kernel_rfl) (And.intro (decide_eq_true h0) (And.intro (decide_eq_true h0) (And.intro (decide_eq_true h0) (And.intro (decide_eq_true h1) (And.intro (decide_eq_true h2) (And.intro (W33.dec_ok h3) (And.intro (Bool.eq_false_iff.mpr h4) (And.intro (decide_eq_true h5) True.intro)))))))) n).trans hs, hr⟩
            · skip
              cases h
        · skip
          cases h
      · skip
        cases h
        exact ⟨_, round_out (gs := [.t, .t, .t, .f]) (notIn []) (by kernel_rfl) rfl (And.intro (decide_eq_true h0) (And.intro (decide_eq_true h0) (And.intro (decide_eq_true h0) (And.intro (decide_eq_false h1) True.intro)))) n, l14, z16, z17, (↑(List.length l14) : Int), decide (z17 < (↑(List.length l14) : Int)), decide (z17 < 40), rfl⟩
    · skip
      cases h
      exact ⟨_, round_out (gs := [.f, .f, .f, .a]) (notIn []) (by kernel_rfl) rfl (And.intro (decide_eq_false h0) (And.intro (decide_eq_false h0) (And.intro (decide_eq_false h0) True.intro))) n, l14, z16, z17, (↑(List.length l14) : Int), decide (z17 < (↑(List.length l14) : Int)), rfl⟩
def L14_0 : Nat → List (List V) → Option R14_0
  | 0, _ => none
  | n + 1, l5 =>
    if 0 < (↑(List.length l5) : Int) then
     ((l5[(0 : Nat)]?).bind W33.dec).bind fun e34 =>
     if (Int.tmod (w64 e34.c1) 3 != 2) = true then
      L14_0s1 n (l5) (1) (w64 (-4 + w64 (↑(BitVec.toNat (BitVec.ofInt (IntKind.bits IntKind.i64) e34.c0 &&& BitVec.ofInt (IntKind.bits IntKind.i64) 7)) : Int))) (1) ([[i64 (w64 (-4 + w64 (↑(BitVec.toNat (BitVec.ofInt (IntKind.bits IntKind.i64) e34.c0 &&& BitVec.ofInt (IntKind.bits IntKind.i64) 7)) : Int))), u8 e34.c1, u8 e34.c2, u8 e34.c3, u8 e34.c4, i64 (Int.tmod (w64 e34.c1) 3), i64 0, i64 0, i64 0, i64 0]])
     else
      L14_0s1 n (l5) (1) (w64 (-4 + w64 (↑(BitVec.toNat (BitVec.ofInt (IntKind.bits IntKind.i64) e34.c0 &&& BitVec.ofInt (IntKind.bits IntKind.i64) 7)) : Int))) (1) ([[i64 (w64 (-4 + w64 (↑(BitVec.toNat (BitVec.ofInt (IntKind.bits IntKind.i64) e34.c0 &&& BitVec.ofInt (IntKind.bits IntKind.i64) 7)) : Int))), u8 e34.c1, u8 e34.c2, u8 e34.c3, u8 e34.c4, i64 (Int.tmod (w64 e34.c1) 3), i64 (w64 (↑(BitVec.toNat (BitVec.ofInt (IntKind.bits IntKind.i64) e34.c6 &&& BitVec.ofInt (IntKind.bits IntKind.i64) 65535)) : Int)), i64 (Int.tmod e34.c7 65536), i64 (w64 (↑(BitVec.toNat (BitVec.ofInt (IntKind.bits IntKind.i64) e34.c8 &&& BitVec.ofInt (IntKind.bits IntKind.i64) 65535)) : Int)), i64 131072]])
    else
     some (R14_0.e0)
theorem L14_0_ok (m : Nat) : ∀ (n : Nat) (l5 : List (List V)) (r : R14_0), L14_0 n l5 = some r → ∃ st, loopFrom Try.prog X (call Try.prog X O0 100000 (m + 0)) 14 (0) 100000 B14 0 n ({ T := V.list 10 l5 :: U :: U :: V.nilS :: i64 (-5) :: i64 0 :: un 53 [], σ := [] }) = some st ∧ r.St st
  | 0, _, r, h => by cases h
  | n + 1, l5, r, h => by
    rw [L14_0] at h
    rcases ite_eq h with ⟨h0, h⟩ | ⟨h0, h⟩
    · skip
      obtain ⟨e34, h1, h⟩ := Option.bind_eq_some_iff.mp h
      rcases ite_eq h with ⟨h2, h⟩ | ⟨h2, h⟩
      · skip
        obtain ⟨st, hs, hr⟩ := L14_0s1_ok m n (l5) (1) (w64 (-4 + w64 (↑(BitVec.toNat (BitVec.ofInt (IntKind.bits IntKind.i64) e34.c0 &&& BitVec.ofInt (IntKind.bits IntKind.i64) 7)) : Int))) (1) ([[i64 (w64 (-4 + w64 (↑(BitVec.toNat (BitVec.ofInt (IntKind.bits IntKind.i64) e34.c0 &&& BitVec.ofInt (IntKind.bits IntKind.i64) 7)) : Int))), u8 e34.c1, u8 e34.c2, u8 e34.c3, u8 e34.c4, i64 (Int.tmod (w64 e34.c1) 3), i64 0, i64 0, i64 0, i64 0]]) r h
        exact ⟨st, (round_on (gs := [.t, .t, .t, .a, .a, .el (W33.cells e34), .a, .a, .a, .a, .a, .a, .a, .t, .a, .a, .a, .a]) (notIn []) (by kernel_rfl) (And.intro (decide_eq_true h0) (And.intro (decide_eq_true h0) (And.intro (decide_eq_true h0) (And.intro (W33.dec_ok h1) (And.intro h2 True.intro))))) n).trans hs, hr⟩
      · skip
        obtain ⟨st, hs, hr⟩ := L14_0s1_ok m n (l5) (1) (w64 (-4 + w64 (↑(BitVec.toNat (BitVec.ofInt (IntKind.bits IntKind.i64) e34.c0 &&& BitVec.ofInt (IntKind.bits IntKind.i64) 7)) : Int))) (1) ([[i64 (w64 (-4 + w64 (↑(BitVec.toNat (BitVec.ofInt (IntKind.bits IntKind.i64) e34.c0 &&& BitVec.ofInt (IntKind.bits IntKind.i64) 7)) : Int))), u8 e34.c1, u8 e34.c2, u8 e34.c3, u8 e34.c4, i64 (Int.tmod (w64 e34.c1) 3), i64 (w64 (↑(BitVec.toNat (BitVec.ofInt (IntKind.bits IntKind.i64) e34.c6 &&& BitVec.ofInt (IntKind.bits IntKind.i64) 65535)) : Int)), i64 (Int.tmod e34.c7 65536), i64 (w64 (↑(BitVec.toNat (BitVec.ofInt (IntKind.bits IntKind.i64) e34.c8 &&& BitVec.ofInt (IntKind.bits IntKind.i64) 65535)) : Int)), i64 131072]]) r h
        exact ⟨st, (round_on (gs := [.t, .t, .t, .a, .a, .el (W33.cells e34), .a, .a, .a, .a, .a, .a, .a, .f, .a, .a, .a, .a, .a, .a, .a, .a]) (notIn []) (by kernel_rfl) (And.intro (decide_eq_true h0) (And.intro (decide_eq_true h0) (And.intro (decide_eq_true h0) (And.intro (W33.dec_ok h1) (And.intro (Bool.eq_false_iff.mpr h2) True.intro))))) n).trans hs, hr⟩
    · skip
      cases h
      exact ⟨_, round_out (gs := [.f, .f, .f, .a]) (notIn []) (by kernel_rfl) rfl (And.intro (decide_eq_false h0) (And.intro (decide_eq_false h0) (And.intro (decide_eq_false h0) True.intro))) n, l5, (↑(List.length l5) : Int), decide (0 < (↑(List.length l5) : Int)), rfl⟩
inductive A14 where
  | a0
  | a1 (k65 : Nat) (l66 : List (List V))
@[reducible] def A14.out : A14 → V × Store
  | .a0 => (V.nilS, [])
  | .a1 k65 l66 => (V.hs 0 0 k65, [Ob.cells true true 10 l66])
def F14 (l3 : List (List V)) : Option A14 :=
  (L14_0 100000 (l3)).bind fun r => match r with
  | .e0 =>
   some (A14.a0)
  | .e1 k58 l64 =>
   some (A14.a1 (k58) (l64))
  | .e2 k68 l73 =>
   some (A14.a1 (k68) (l73))
theorem F14_ok (m : Nat) (l3 : List (List V)) (r : A14) (h : F14 l3 = some r) : call Try.prog X O0 100000 (m + 1) 14 ([V.list 10 l3]) ([]) = some r.out := by
  unfold F14 at h
  obtain ⟨r0, h0, h⟩ := Option.bind_eq_some_iff.mp h
  obtain ⟨st0, h0, hr0⟩ := L14_0_ok m 100000 (l3) r0 h0
  have h0 : loopRun Try.prog X (call Try.prog X O0 100000 (m + 0)) 14 (0) 100000 B14 0 ({ T := V.list 10 l3 :: U :: V.nilS :: V.nilS :: i64 (-5) :: i64 0 :: un 53 [], σ := [] }) = some st0 := by
    rw [loopRun_from, show prep (0) (X.keep 14 0) ({ T := V.list 10 l3 :: U :: V.nilS :: V.nilS :: i64 (-5) :: i64 0 :: un 53 [], σ := [] }) = { T := V.list 10 l3 :: U :: U :: V.nilS :: i64 (-5) :: i64 0 :: un 53 [], σ := [] } by kernel_rfl]
    exact h0
  cases r0 with
  | e0 =>
    obtain ⟨l54, z55, b56, rfl⟩ := hr0
    cases h
    exact call_pathL (gs := [.lp (VX.exit 0) (s14_0_0 l54 z55 b56)]) (notIn []) rfl rfl (by kernel_rfl) (And.intro h0 True.intro)
  | e1 k58 l64 =>
    obtain ⟨l57, z59, z60, z61, b62, b63, rfl⟩ := hr0
    cases h
    exact call_pathL (gs := [.lp (VX.exit 0) (s14_0_1 l57 k58 z59 z60 z61 b62 b63 l64)]) (notIn []) rfl rfl (by kernel_rfl) (And.intro h0 True.intro)
  | e2 k68 l73 =>
    obtain ⟨l67, z69, z70, z71, b72, rfl⟩ := hr0
    cases h
    exact call_pathL (gs := [.lp (VX.exit 0) (s14_0_2 l67 k68 z69 z70 z71 b72 l73)]) (notIn []) rfl rfl (by kernel_rfl) (And.intro h0 True.intro)
/-! ## 16 -/
noncomputable abbrev B16 : Code := (Try.f16.body).getD .skip
inductive R16_0 where
  | e0
@[reducible] def s16_0_0 : S := { T := V.nilS :: U :: U :: i64 0 :: U :: U :: V.nilS :: i64 0 :: i64 0 :: vb false :: un 19 [], σ := [] }
def R16_0.St : R16_0 → VX × S → Prop
  | .e0, p => p = (VX.exit 0, s16_0_0)
def L16_0 : Nat → Option R16_0
  | 0 => none
  | n + 1 =>
    some (R16_0.e0)
theorem L16_0_ok (m : Nat) : ∀ (n : Nat) (r : R16_0), L16_0 n = some r → ∃ st, loopFrom Try.prog X (call Try.prog X O0 100000 (m + 0)) 16 (0) 100000 B16 0 n ({ T := V.nilS :: U :: U :: i64 0 :: U :: U :: V.nilS :: i64 0 :: i64 0 :: un 20 [], σ := [] }) = some st ∧ r.St st
  | 0, r, h => by cases h
  | n + 1, r, h => by
    rw [L16_0] at h
    cases h
    exact ⟨_, round_out (gs := [.a]) (notIn []) (by kernel_rfl) rfl True.intro n, rfl⟩
inductive A16 where
  | a0 (b82 : Bool)
@[reducible] def A16.out : A16 → V × Store
  | .a0 b82 => (vb b82, [])
def F16 : Option A16 :=
  (L16_0 100000).bind fun r => match r with
  | .e0 =>
   some (A16.a0 (true))
theorem F16_ok (m : Nat) (r : A16) (h : F16 = some r) : call Try.prog X O0 100000 (m + 1) 16 ([V.nilS]) ([]) = some r.out := by
  unfold F16 at h
  obtain ⟨r0, h0, h⟩ := Option.bind_eq_some_iff.mp h
  obtain ⟨st0, h0, hr0⟩ := L16_0_ok m 100000 r0 h0
  have h0 : loopRun Try.prog X (call Try.prog X O0 100000 (m + 0)) 16 (0) 100000 B16 0 ({ T := V.nilS :: U :: vb false :: i64 0 :: U :: U :: V.nilS :: i64 0 :: i64 0 :: un 20 [], σ := [] }) = some st0 := by
    rw [loopRun_from, show prep (0) (X.keep 16 0) ({ T := V.nilS :: U :: vb false :: i64 0 :: U :: U :: V.nilS :: i64 0 :: i64 0 :: un 20 [], σ := [] }) = { T := V.nilS :: U :: U :: i64 0 :: U :: U :: V.nilS :: i64 0 :: i64 0 :: un 20 [], σ := [] } by kernel_rfl]
    exact h0
  cases r0 with
  | e0 =>
    obtain ⟨rfl⟩ := hr0
    cases h
    exact call_pathL (gs := [.lp (VX.exit 0) (s16_0_0)]) (notIn []) rfl rfl (by kernel_rfl) (And.intro h0 True.intro)
/-! ## 17 -/
def F17 (z84 : Int) (z85 : Int) (z86 : Int) (z87 : Int) : Int :=
  w64 (Int.tdiv (w64 (w64 (w64 (w64 (77 * w64 z84) + w64 (150 * w64 z85)) + w64 (29 * w64 z86)) + 128)) 256)
theorem F17_ok (m : Nat) (z84 : Int) (z85 : Int) (z86 : Int) (z87 : Int) (z90 : Int) (h : F17 z84 z85 z86 z87 = z90) : call Try.prog X O0 100000 (m + 1) 17 ([V.agg [u8 z84, u8 z85, u8 z86, u8 z87]]) ([]) = some (i64 z90, []) := by
  unfold F17 at h
  subst h
  exact call_pathL (gs := [.a, .a, .a, .a]) (notIn []) rfl rfl (by kernel_rfl) True.intro
/-! ## 33 -/
def F33 (z105 : Int) (z106 : Int) (z107 : Int) : Int :=
  if z105 < z106 then
   z106
  else
   if z105 > z107 then
    z107
   else
    z105
theorem F33_ok (m : Nat) (z105 : Int) (z106 : Int) (z107 : Int) (z110 : Int) (h : F33 z105 z106 z107 = z110) : call Try.prog X O0 100000 (m + 1) 33 ([i64 z105, i64 z106, i64 z107]) ([]) = some (i64 z110, []) := by
  unfold F33 at h
  rcases ite_eq h with ⟨h0, h⟩ | ⟨h0, h⟩
  · skip
    subst h
    exact call_pathL (gs := [.t]) (notIn []) rfl rfl (by kernel_rfl) (And.intro (decide_eq_true h0) True.intro)
  · skip
    rcases ite_eq h with ⟨h1, h⟩ | ⟨h1, h⟩
    · skip
      subst h
      exact call_pathL (gs := [.f, .t]) (notIn []) rfl rfl (by kernel_rfl) (And.intro (decide_eq_false h0) (And.intro (decide_eq_true h1) True.intro))
    · skip
      subst h
      exact call_pathL (gs := [.f, .f]) (notIn []) rfl rfl (by kernel_rfl) (And.intro (decide_eq_false h0) (And.intro (decide_eq_false h1) True.intro))
/-! ## 32 -/
def F32 (z103 : Int) : Int :=
  bnd (F33 (z103) (-1099511627776) (1099511627776)) fun z111 =>
  z111
theorem F32_ok (m : Nat) (z103 : Int) (z113 : Int) (h : F32 z103 = z113) : call Try.prog X O0 100000 (m + 2) 32 ([i64 z103]) ([]) = some (i64 z113, []) := by
  unfold F32 at h
  obtain ⟨z111, h0, h⟩ := bnd_eq h
  subst h
  exact call_pathL (gs := [.an (i64 z111) []]) (notIn []) rfl rfl (by kernel_rfl) (And.intro (F33_ok (m + 0) (z103) (-1099511627776) (1099511627776) z111 h0) True.intro)
/-! ## 12 -/
inductive A12 where
  | a0 (z119 : Int) (z120 : Int) (z121 : Int) (z122 : Int)
@[reducible] def A12.out : A12 → V × Store
  | .a0 z119 z120 z121 z122 => (V.agg [u8 z119, u8 z120, u8 z121, u8 z122], [])
def F12 (z93 : Int) (z94 : Int) (z95 : Int) (z96 : Int) (z97 : Int) (z98 : Int) (z99 : Int) (z100 : Int) (z101 : Int) : Option A12 :=
  bnd (F32 (z101)) fun z114 =>
  bnd (F33 (w64 (w64 z93 + Int.fdiv (w64 (w64 (w64 z97 - w64 z93) * z114)) 65536)) (0) (255)) fun z115 =>
  bnd (F33 (w64 (w64 z94 + Int.fdiv (w64 (w64 (w64 z98 - w64 z94) * z114)) 65536)) (0) (255)) fun z116 =>
  bnd (F33 (w64 (w64 z95 + Int.fdiv (w64 (w64 (w64 z99 - w64 z95) * z114)) 65536)) (0) (255)) fun z117 =>
  bnd (F33 (w64 (w64 z96 + Int.fdiv (w64 (w64 (w64 z100 - w64 z96) * z114)) 65536)) (0) (255)) fun z118 =>
  some (A12.a0 (IntKind.wrap IntKind.u8 z115) (IntKind.wrap IntKind.u8 z116) (IntKind.wrap IntKind.u8 z117) (IntKind.wrap IntKind.u8 z118))
theorem F12_ok (m : Nat) (z93 : Int) (z94 : Int) (z95 : Int) (z96 : Int) (z97 : Int) (z98 : Int) (z99 : Int) (z100 : Int) (z101 : Int) (r : A12) (h : F12 z93 z94 z95 z96 z97 z98 z99 z100 z101 = some r) : call Try.prog X O0 100000 (m + 3) 12 ([V.agg [u8 z93, u8 z94, u8 z95, u8 z96], V.agg [u8 z97, u8 z98, u8 z99, u8 z100], i64 z101]) ([]) = some r.out := by
  unfold F12 at h
  obtain ⟨z114, h0, h⟩ := bnd_eq h
  obtain ⟨z115, h1, h⟩ := bnd_eq h
  obtain ⟨z116, h2, h⟩ := bnd_eq h
  obtain ⟨z117, h3, h⟩ := bnd_eq h
  obtain ⟨z118, h4, h⟩ := bnd_eq h
  cases h
  exact call_pathL (gs := [.an (i64 z114) [], .a, .a, .a, .a, .ft [⟨0, [], []⟩, ⟨1, [0], []⟩, ⟨2, [0], []⟩, ⟨3, [], []⟩, ⟨4, [], []⟩, ⟨5, [1], []⟩, ⟨6, [1], []⟩, ⟨7, [], []⟩, ⟨8, [], []⟩, ⟨9, [0], []⟩, ⟨10, [0], []⟩, ⟨11, [], []⟩, ⟨12, [], []⟩, ⟨13, [], []⟩, ⟨14, [], []⟩, ⟨15, [], []⟩, ⟨16, [], []⟩, ⟨17, [], []⟩], .an (i64 z115) [], .a, .a, .a, .a, .a, .ft [⟨0, [], []⟩, ⟨1, [0], []⟩, ⟨2, [0], []⟩, ⟨3, [], []⟩, ⟨4, [], []⟩, ⟨5, [1], []⟩, ⟨6, [1], []⟩, ⟨7, [], []⟩, ⟨8, [], []⟩, ⟨9, [0], []⟩, ⟨10, [0], []⟩, ⟨11, [], []⟩, ⟨12, [], []⟩, ⟨13, [], []⟩, ⟨14, [], []⟩, ⟨15, [], []⟩, ⟨16, [], []⟩, ⟨17, [], []⟩], .an (i64 z116) [], .a, .a, .a, .a, .a, .ft [⟨0, [], []⟩, ⟨1, [0], []⟩, ⟨2, [0], []⟩, ⟨3, [], []⟩, ⟨4, [], []⟩, ⟨5, [1], []⟩, ⟨6, [1], []⟩, ⟨7, [], []⟩, ⟨8, [], []⟩, ⟨9, [0], []⟩, ⟨10, [0], []⟩, ⟨11, [], []⟩, ⟨12, [], []⟩, ⟨13, [], []⟩, ⟨14, [], []⟩, ⟨15, [], []⟩, ⟨16, [], []⟩, ⟨17, [], []⟩], .an (i64 z117) [], .a, .a, .a, .a, .a, .ft [⟨0, [], []⟩, ⟨1, [0], []⟩, ⟨2, [0], []⟩, ⟨3, [], []⟩, ⟨4, [], []⟩, ⟨5, [1], []⟩, ⟨6, [1], []⟩, ⟨7, [], []⟩, ⟨8, [], []⟩, ⟨9, [0], []⟩, ⟨10, [0], []⟩, ⟨11, [], []⟩, ⟨12, [], []⟩, ⟨13, [], []⟩, ⟨14, [], []⟩, ⟨15, [], []⟩, ⟨16, [], []⟩, ⟨17, [], []⟩], .an (i64 z118) [], .a, .a, .a, .a]) (notIn [0]) rfl rfl (by kernel_rfl) (And.intro (F32_ok (m + 0) (z101) z114 h0) (And.intro (Eq.refl ([⟨0, [], []⟩, ⟨1, [0], []⟩, ⟨2, [0], []⟩, ⟨3, [], []⟩, ⟨4, [], []⟩, ⟨5, [1], []⟩, ⟨6, [1], []⟩, ⟨7, [], []⟩, ⟨8, [], []⟩, ⟨9, [0], []⟩, ⟨10, [0], []⟩, ⟨11, [], []⟩, ⟨12, [], []⟩, ⟨13, [], []⟩, ⟨14, [], []⟩, ⟨15, [], []⟩, ⟨16, [], []⟩, ⟨17, [], []⟩] : List Foot)) (And.intro (F33_ok (m + 1) (w64 (w64 z93 + Int.fdiv (w64 (w64 (w64 z97 - w64 z93) * z114)) 65536)) (0) (255) z115 h1) (And.intro (Eq.refl ([⟨0, [], []⟩, ⟨1, [0], []⟩, ⟨2, [0], []⟩, ⟨3, [], []⟩, ⟨4, [], []⟩, ⟨5, [1], []⟩, ⟨6, [1], []⟩, ⟨7, [], []⟩, ⟨8, [], []⟩, ⟨9, [0], []⟩, ⟨10, [0], []⟩, ⟨11, [], []⟩, ⟨12, [], []⟩, ⟨13, [], []⟩, ⟨14, [], []⟩, ⟨15, [], []⟩, ⟨16, [], []⟩, ⟨17, [], []⟩] : List Foot)) (And.intro (F33_ok (m + 1) (w64 (w64 z94 + Int.fdiv (w64 (w64 (w64 z98 - w64 z94) * z114)) 65536)) (0) (255) z116 h2) (And.intro (Eq.refl ([⟨0, [], []⟩, ⟨1, [0], []⟩, ⟨2, [0], []⟩, ⟨3, [], []⟩, ⟨4, [], []⟩, ⟨5, [1], []⟩, ⟨6, [1], []⟩, ⟨7, [], []⟩, ⟨8, [], []⟩, ⟨9, [0], []⟩, ⟨10, [0], []⟩, ⟨11, [], []⟩, ⟨12, [], []⟩, ⟨13, [], []⟩, ⟨14, [], []⟩, ⟨15, [], []⟩, ⟨16, [], []⟩, ⟨17, [], []⟩] : List Foot)) (And.intro (F33_ok (m + 1) (w64 (w64 z95 + Int.fdiv (w64 (w64 (w64 z99 - w64 z95) * z114)) 65536)) (0) (255) z117 h3) (And.intro (Eq.refl ([⟨0, [], []⟩, ⟨1, [0], []⟩, ⟨2, [0], []⟩, ⟨3, [], []⟩, ⟨4, [], []⟩, ⟨5, [1], []⟩, ⟨6, [1], []⟩, ⟨7, [], []⟩, ⟨8, [], []⟩, ⟨9, [0], []⟩, ⟨10, [0], []⟩, ⟨11, [], []⟩, ⟨12, [], []⟩, ⟨13, [], []⟩, ⟨14, [], []⟩, ⟨15, [], []⟩, ⟨16, [], []⟩, ⟨17, [], []⟩] : List Foot)) (And.intro (F33_ok (m + 1) (w64 (w64 z96 + Int.fdiv (w64 (w64 (w64 z100 - w64 z96) * z114)) 65536)) (0) (255) z118 h4) True.intro)))))))))
/-! ## 15 -/
inductive A15 where
  | a0 (z133 : Int) (z134 : Int) (z135 : Int) (z136 : Int)
@[reducible] def A15.out : A15 → V × Store
  | .a0 z133 z134 z135 z136 => (V.agg [u8 z133, u8 z134, u8 z135, u8 z136], [])
def F15 (z127 : Int) (z128 : Int) (z129 : Int) (z130 : Int) (z131 : Int) : Option A15 :=
  some (A15.a0 (z128) (z129) (z130) (z131))
theorem F15_ok (m : Nat) (z127 : Int) (z128 : Int) (z129 : Int) (z130 : Int) (z131 : Int) (r : A15) (h : F15 z127 z128 z129 z130 z131 = some r) : call Try.prog X O0 100000 (m + 1) 15 ([V.nilS, i64 z127, V.agg [u8 z128, u8 z129, u8 z130, u8 z131]]) ([]) = some r.out := by
  unfold F15 at h
  cases h
  exact call_pathL (gs := [.a, .a, .a]) (notIn []) rfl rfl (by kernel_rfl) True.intro
/-! ## 13 -/
inductive A13 where
  | a0 (b142 : Bool)
@[reducible] def A13.out : A13 → V × Store
  | .a0 b142 => (vb b142, [])
def F13 : Option A13 :=
  (F12 (0) (0) (0) (0) (255) (255) (255) (255) (32768)).bind fun r => match r with
  | .a0 z123 z124 z125 z126 =>
   if (z123 == 127 && (z124 == 127 && (z125 == 127 && (z126 == 127 && true)))) = true then
    (F15 (5) (1) (2) (3) (4)).bind fun r => match r with
    | .a0 z137 z138 z139 z140 =>
     if (z137 == 1 && (z138 == 2 && (z139 == 3 && (z140 == 4 && true)))) = true then
      bnd (F17 (255) (255) (255) (255)) fun z141 =>
      some (A13.a0 (z141 == 255))
     else
      some (A13.a0 (false))
   else
    some (A13.a0 (false))
theorem F13_ok (m : Nat) (r : A13) (h : F13 = some r) : call Try.prog X O0 100000 (m + 4) 13 ([]) ([]) = some r.out := by
  unfold F13 at h
  obtain ⟨r0, h0, h⟩ := Option.bind_eq_some_iff.mp h
  have h0 := F12_ok (m + 0) (0) (0) (0) (0) (255) (255) (255) (255) (32768) r0 h0
  cases r0 with
  | a0 z123 z124 z125 z126 =>
    rcases ite_eq h with ⟨h1, h⟩ | ⟨h1, h⟩
    · skip
      obtain ⟨r2, h2, h⟩ := Option.bind_eq_some_iff.mp h
      have h2 := F15_ok (m + 2) (5) (1) (2) (3) (4) r2 h2
      cases r2 with
      | a0 z137 z138 z139 z140 =>
        rcases ite_eq h with ⟨h3, h⟩ | ⟨h3, h⟩
        · skip
          obtain ⟨z141, h4, h⟩ := bnd_eq h
          cases h
          exact call_pathL (gs := [.an (V.agg [u8 z123, u8 z124, u8 z125, u8 z126]) [], .t, .t, .an (V.agg [u8 z137, u8 z138, u8 z139, u8 z140]) [], .t, .t, .t, .t, .t, .an (i64 z141) [], .t, .t]) (notIn []) rfl rfl (by kernel_rfl) (And.intro h0 (And.intro h1 (And.intro h1 (And.intro h2 (And.intro h1 (And.intro h1 (And.intro h1 (And.intro h3 (And.intro h3 (And.intro (F17_ok (m + 2) (255) (255) (255) (255) z141 h4) (And.intro h3 (And.intro h3 True.intro))))))))))))
        · skip
          cases h
          exact call_pathL (gs := [.an (V.agg [u8 z123, u8 z124, u8 z125, u8 z126]) [], .t, .t, .an (V.agg [u8 z137, u8 z138, u8 z139, u8 z140]) [], .t, .t, .t, .f, .f, .f, .f]) (notIn []) rfl rfl (by kernel_rfl) (And.intro h0 (And.intro h1 (And.intro h1 (And.intro h2 (And.intro h1 (And.intro h1 (And.intro h1 (And.intro (Bool.eq_false_iff.mpr h3) (And.intro (Bool.eq_false_iff.mpr h3) (And.intro (Bool.eq_false_iff.mpr h3) (And.intro (Bool.eq_false_iff.mpr h3) True.intro)))))))))))
    · skip
      cases h
      exact call_pathL (gs := [.an (V.agg [u8 z123, u8 z124, u8 z125, u8 z126]) [], .f, .f, .f, .f, .f, .a, .a, .a, .a]) (notIn []) rfl rfl (by kernel_rfl) (And.intro h0 (And.intro (Bool.eq_false_iff.mpr h1) (And.intro (Bool.eq_false_iff.mpr h1) (And.intro (Bool.eq_false_iff.mpr h1) (And.intro (Bool.eq_false_iff.mpr h1) (And.intro (Bool.eq_false_iff.mpr h1) True.intro))))))
/-! ## 35 -/
inductive A35 where
  | a0 (z241 : Int)
@[reducible] def A35.out : A35 → V × Store
  | .a0 z241 => (i64 z241, [])
def F35 (z234 : Int) (z235 : Int) (z236 : Int) : Option A35 :=
  bnd (F32 (z234)) fun z238 =>
  bnd (F32 (z235)) fun z239 =>
  bnd (F32 (z236)) fun z240 =>
  if z240 ≤ z238 then
   some (A35.a0 (0))
  else
   if z240 ≥ z239 then
    some (A35.a0 (65536))
   else
    if w64 (z239 - z238) = 0 then
     none -- none
    else
     some (A35.a0 (w64 (Int.tdiv (w64 (w64 (z240 - z238) * 65536)) (w64 (z239 - z238)))))
theorem F35_ok (m : Nat) (z234 : Int) (z235 : Int) (z236 : Int) (r : A35) (h : F35 z234 z235 z236 = some r) : call Try.prog X O0 100000 (m + 3) 35 ([i64 z234, i64 z235, i64 z236]) ([]) = some r.out := by
  unfold F35 at h
  obtain ⟨z238, h0, h⟩ := bnd_eq h
  obtain ⟨z239, h1, h⟩ := bnd_eq h
  obtain ⟨z240, h2, h⟩ := bnd_eq h
  rcases ite_eq h with ⟨h3, h⟩ | ⟨h3, h⟩
  · skip
    cases h
    exact call_pathL (gs := [.an (i64 z238) [], .an (i64 z239) [], .an (i64 z240) [], .t]) (notIn []) rfl rfl (by kernel_rfl) (And.intro (F32_ok (m + 0) (z234) z238 h0) (And.intro (F32_ok (m + 0) (z235) z239 h1) (And.intro (F32_ok (m + 0) (z236) z240 h2) (And.intro (decide_eq_true h3) True.intro))))
  · skip
    rcases ite_eq h with ⟨h4, h⟩ | ⟨h4, h⟩
    · skip
      cases h
      exact call_pathL (gs := [.an (i64 z238) [], .an (i64 z239) [], .an (i64 z240) [], .f, .t]) (notIn []) rfl rfl (by kernel_rfl) (And.intro (F32_ok (m + 0) (z234) z238 h0) (And.intro (F32_ok (m + 0) (z235) z239 h1) (And.intro (F32_ok (m + 0) (z236) z240 h2) (And.intro (decide_eq_false h3) (And.intro (decide_eq_true h4) True.intro)))))
    · skip
      rcases ite_eq h with ⟨h5, h⟩ | ⟨h5, h⟩
      · skip
        cases h
      · skip
        cases h
        exact call_pathL (gs := [.an (i64 z238) [], .an (i64 z239) [], .an (i64 z240) [], .f, .f, .f]) (notIn []) rfl rfl (by kernel_rfl) (And.intro (F32_ok (m + 0) (z234) z238 h0) (And.intro (F32_ok (m + 0) (z235) z239 h1) (And.intro (F32_ok (m + 0) (z236) z240 h2) (And.intro (decide_eq_false h3) (And.intro (decide_eq_false h4) (And.intro (decide_eq_false h5) True.intro))))))
/-! ## 96 -/
inductive A96 where
  | a0 (z279 : Int) (z280 : Int)
@[reducible] def A96.out : A96 → V × Store
  | .a0 z279 z280 => (V.tup [V.int IntKind.u64 z279, V.int IntKind.u64 z280], [])
def F96 (z276 : Int) (z277 : Int) : Option A96 :=
  some (A96.a0 (IntKind.wrap IntKind.u64 (IntKind.wrap IntKind.u64 (IntKind.wrap IntKind.u64 (Int.fdiv z276 4294967296 * Int.fdiv z277 4294967296) + Int.fdiv (IntKind.wrap IntKind.u64 (IntKind.wrap IntKind.u64 (Int.fdiv z276 4294967296 * IntKind.wrap IntKind.u64 (↑(BitVec.toNat (BitVec.ofInt (IntKind.bits IntKind.u64) z277 &&& BitVec.ofInt (IntKind.bits IntKind.u64) 4294967295)) : Int)) + Int.fdiv (IntKind.wrap IntKind.u64 (IntKind.wrap IntKind.u64 (↑(BitVec.toNat (BitVec.ofInt (IntKind.bits IntKind.u64) z276 &&& BitVec.ofInt (IntKind.bits IntKind.u64) 4294967295)) : Int) * IntKind.wrap IntKind.u64 (↑(BitVec.toNat (BitVec.ofInt (IntKind.bits IntKind.u64) z277 &&& BitVec.ofInt (IntKind.bits IntKind.u64) 4294967295)) : Int))) 4294967296)) 4294967296) + Int.fdiv (IntKind.wrap IntKind.u64 (IntKind.wrap IntKind.u64 (↑(BitVec.toNat (BitVec.ofInt (IntKind.bits IntKind.u64) (IntKind.wrap IntKind.u64 (IntKind.wrap IntKind.u64 (Int.fdiv z276 4294967296 * IntKind.wrap IntKind.u64 (↑(BitVec.toNat (BitVec.ofInt (IntKind.bits IntKind.u64) z277 &&& BitVec.ofInt (IntKind.bits IntKind.u64) 4294967295)) : Int)) + Int.fdiv (IntKind.wrap IntKind.u64 (IntKind.wrap IntKind.u64 (↑(BitVec.toNat (BitVec.ofInt (IntKind.bits IntKind.u64) z276 &&& BitVec.ofInt (IntKind.bits IntKind.u64) 4294967295)) : Int) * IntKind.wrap IntKind.u64 (↑(BitVec.toNat (BitVec.ofInt (IntKind.bits IntKind.u64) z277 &&& BitVec.ofInt (IntKind.bits IntKind.u64) 4294967295)) : Int))) 4294967296)) &&& BitVec.ofInt (IntKind.bits IntKind.u64) 4294967295)) : Int) + IntKind.wrap IntKind.u64 (IntKind.wrap IntKind.u64 (↑(BitVec.toNat (BitVec.ofInt (IntKind.bits IntKind.u64) z276 &&& BitVec.ofInt (IntKind.bits IntKind.u64) 4294967295)) : Int) * Int.fdiv z277 4294967296))) 4294967296)) (IntKind.wrap IntKind.u64 (z276 * z277)))
theorem F96_ok (m : Nat) (z276 : Int) (z277 : Int) (r : A96) (h : F96 z276 z277 = some r) : call Try.prog X O0 100000 (m + 1) 96 ([V.int IntKind.u64 z276, V.int IntKind.u64 z277]) ([]) = some r.out := by
  unfold F96 at h
  cases h
  exact call_pathL (gs := []) (notIn []) rfl rfl (by kernel_rfl) True.intro
/-! ## 69 -/
inductive A69 where
  | a0 (z283 : Int) (z284 : Int)
@[reducible] def A69.out : A69 → V × Store
  | .a0 z283 z284 => (V.tup [V.int IntKind.u64 z283, V.int IntKind.u64 z284], [])
def F69 (z273 : Int) (z274 : Int) : Option A69 :=
  (F96 (IntKind.wrap IntKind.u64 z273) (IntKind.wrap IntKind.u64 z274)).bind fun r => match r with
  | .a0 z281 z282 =>
   if z273 < 0 then
    if z274 < 0 then
     some (A69.a0 (IntKind.wrap IntKind.u64 (IntKind.wrap IntKind.u64 (z281 - IntKind.wrap IntKind.u64 z274) - IntKind.wrap IntKind.u64 z273)) (z282))
    else
     some (A69.a0 (IntKind.wrap IntKind.u64 (z281 - IntKind.wrap IntKind.u64 z274)) (z282))
   else
    if z274 < 0 then
     some (A69.a0 (IntKind.wrap IntKind.u64 (z281 - IntKind.wrap IntKind.u64 z273)) (z282))
    else
     some (A69.a0 (z281) (z282))
theorem F69_ok (m : Nat) (z273 : Int) (z274 : Int) (r : A69) (h : F69 z273 z274 = some r) : call Try.prog X O0 100000 (m + 2) 69 ([i64 z273, i64 z274]) ([]) = some r.out := by
  unfold F69 at h
  obtain ⟨r0, h0, h⟩ := Option.bind_eq_some_iff.mp h
  have h0 := F96_ok (m + 0) (IntKind.wrap IntKind.u64 z273) (IntKind.wrap IntKind.u64 z274) r0 h0
  cases r0 with
  | a0 z281 z282 =>
    rcases ite_eq h with ⟨h1, h⟩ | ⟨h1, h⟩
    · skip
      rcases ite_eq h with ⟨h2, h⟩ | ⟨h2, h⟩
      · skip
        cases h
        exact call_pathL (gs := [.an (V.tup [V.int IntKind.u64 z281, V.int IntKind.u64 z282]) [], .t, .t]) (notIn []) rfl rfl (by kernel_rfl) (And.intro h0 (And.intro (decide_eq_true h1) (And.intro (decide_eq_true h2) True.intro)))
      · skip
        cases h
        exact call_pathL (gs := [.an (V.tup [V.int IntKind.u64 z281, V.int IntKind.u64 z282]) [], .t, .f]) (notIn []) rfl rfl (by kernel_rfl) (And.intro h0 (And.intro (decide_eq_true h1) (And.intro (decide_eq_false h2) True.intro)))
    · skip
      rcases ite_eq h with ⟨h2, h⟩ | ⟨h2, h⟩
      · skip
        cases h
        exact call_pathL (gs := [.an (V.tup [V.int IntKind.u64 z281, V.int IntKind.u64 z282]) [], .f, .t]) (notIn []) rfl rfl (by kernel_rfl) (And.intro h0 (And.intro (decide_eq_false h1) (And.intro (decide_eq_true h2) True.intro)))
      · skip
        cases h
        exact call_pathL (gs := [.an (V.tup [V.int IntKind.u64 z281, V.int IntKind.u64 z282]) [], .f, .f]) (notIn []) rfl rfl (by kernel_rfl) (And.intro h0 (And.intro (decide_eq_false h1) (And.intro (decide_eq_false h2) True.intro)))
/-! ## 68 -/
def F68 (z287 : Int) (z288 : Int) : Int :=
  if Int.fdiv (w64 z287) 65536 < -1 then
   -9223372036854775808
  else
   if (Int.fdiv (w64 z287) 65536 == -1) = true then
    if (Int.fdiv (IntKind.wrap IntKind.u64 (↑(BitVec.toNat (BitVec.ofInt (IntKind.bits IntKind.u64) (IntKind.wrap IntKind.u64 (z287 * 2 ^ min (Int.toNat 48) (IntKind.bits IntKind.u64))) ||| BitVec.ofInt (IntKind.bits IntKind.u64) (Int.fdiv z288 (2 ^ min (Int.toNat 16) (IntKind.bits IntKind.u64))))) : Int)) 9223372036854775808 == 0) = true then
     -9223372036854775808
    else
     if Int.fdiv (w64 z287) 65536 > 0 then
      9223372036854775807
     else
      if (Int.fdiv (w64 z287) 65536 == 0) = true then
       if (Int.fdiv (IntKind.wrap IntKind.u64 (↑(BitVec.toNat (BitVec.ofInt (IntKind.bits IntKind.u64) (IntKind.wrap IntKind.u64 (z287 * 2 ^ min (Int.toNat 48) (IntKind.bits IntKind.u64))) ||| BitVec.ofInt (IntKind.bits IntKind.u64) (Int.fdiv z288 (2 ^ min (Int.toNat 16) (IntKind.bits IntKind.u64))))) : Int)) 9223372036854775808 != 0) = true then
        9223372036854775807
       else
        w64 (IntKind.wrap IntKind.u64 (↑(BitVec.toNat (BitVec.ofInt (IntKind.bits IntKind.u64) (IntKind.wrap IntKind.u64 (z287 * 2 ^ min (Int.toNat 48) (IntKind.bits IntKind.u64))) ||| BitVec.ofInt (IntKind.bits IntKind.u64) (Int.fdiv z288 (2 ^ min (Int.toNat 16) (IntKind.bits IntKind.u64))))) : Int))
      else
       w64 (IntKind.wrap IntKind.u64 (↑(BitVec.toNat (BitVec.ofInt (IntKind.bits IntKind.u64) (IntKind.wrap IntKind.u64 (z287 * 2 ^ min (Int.toNat 48) (IntKind.bits IntKind.u64))) ||| BitVec.ofInt (IntKind.bits IntKind.u64) (Int.fdiv z288 (2 ^ min (Int.toNat 16) (IntKind.bits IntKind.u64))))) : Int))
   else
    if Int.fdiv (w64 z287) 65536 > 0 then
     9223372036854775807
    else
     if (Int.fdiv (w64 z287) 65536 == 0) = true then
      if (Int.fdiv (IntKind.wrap IntKind.u64 (↑(BitVec.toNat (BitVec.ofInt (IntKind.bits IntKind.u64) (IntKind.wrap IntKind.u64 (z287 * 2 ^ min (Int.toNat 48) (IntKind.bits IntKind.u64))) ||| BitVec.ofInt (IntKind.bits IntKind.u64) (Int.fdiv z288 (2 ^ min (Int.toNat 16) (IntKind.bits IntKind.u64))))) : Int)) 9223372036854775808 != 0) = true then
       9223372036854775807
      else
       w64 (IntKind.wrap IntKind.u64 (↑(BitVec.toNat (BitVec.ofInt (IntKind.bits IntKind.u64) (IntKind.wrap IntKind.u64 (z287 * 2 ^ min (Int.toNat 48) (IntKind.bits IntKind.u64))) ||| BitVec.ofInt (IntKind.bits IntKind.u64) (Int.fdiv z288 (2 ^ min (Int.toNat 16) (IntKind.bits IntKind.u64))))) : Int))
     else
      w64 (IntKind.wrap IntKind.u64 (↑(BitVec.toNat (BitVec.ofInt (IntKind.bits IntKind.u64) (IntKind.wrap IntKind.u64 (z287 * 2 ^ min (Int.toNat 48) (IntKind.bits IntKind.u64))) ||| BitVec.ofInt (IntKind.bits IntKind.u64) (Int.fdiv z288 (2 ^ min (Int.toNat 16) (IntKind.bits IntKind.u64))))) : Int))
theorem F68_ok (m : Nat) (z287 : Int) (z288 : Int) (z291 : Int) (h : F68 z287 z288 = z291) : call Try.prog X O0 100000 (m + 1) 68 ([V.int IntKind.u64 z287, V.int IntKind.u64 z288]) ([]) = some (i64 z291, []) := by
  unfold F68 at h
  rcases ite_eq h with ⟨h0, h⟩ | ⟨h0, h⟩
  · skip
    subst h
    exact call_pathL (gs := [.t, .t, .t, .t, .t, .a]) (notIn []) rfl rfl (by kernel_rfl) (And.intro (decide_eq_true h0) (And.intro (decide_eq_true h0) (And.intro (decide_eq_true h0) (And.intro (decide_eq_true h0) (And.intro (decide_eq_true h0) True.intro)))))
  · skip
    rcases ite_eq h with ⟨h1, h⟩ | ⟨h1, h⟩
    · skip
      rcases ite_eq h with ⟨h2, h⟩ | ⟨h2, h⟩
      · skip
        subst h
        exact call_pathL (gs := [.f, .f, .f, .t, .t, .t, .f, .t, .f, .t]) (notIn []) rfl rfl (by kernel_rfl) (And.intro (decide_eq_false h0) (And.intro (decide_eq_false h0) (And.intro (decide_eq_false h0) (And.intro h1 (And.intro h1 (And.intro h1 (And.intro (decide_eq_false h0) (And.intro h1 (And.intro (decide_eq_false h0) (And.intro h2 True.intro))))))))))
      · skip
        rcases ite_eq h with ⟨h3, h⟩ | ⟨h3, h⟩
        · skip
          subst h
          exact call_pathL (gs := [.f, .f, .f, .t, .t, .t, .f, .t, .f, .f, .t, .t, .t, .t, .t, .a]) (notIn []) rfl rfl (by kernel_rfl) (And.intro (decide_eq_false h0) (And.intro (decide_eq_false h0) (And.intro (decide_eq_false h0) (And.intro h1 (And.intro h1 (And.intro h1 (And.intro (decide_eq_false h0) (And.intro h1 (And.intro (decide_eq_false h0) (And.intro (Bool.eq_false_iff.mpr h2) (And.intro (decide_eq_true h3) (And.intro (decide_eq_true h3) (And.intro (decide_eq_true h3) (And.intro (decide_eq_true h3) (And.intro (decide_eq_true h3) True.intro)))))))))))))))
        · skip
          rcases ite_eq h with ⟨h4, h⟩ | ⟨h4, h⟩
          · skip
            rcases ite_eq h with ⟨h5, h⟩ | ⟨h5, h⟩
            · skip
              subst h
              exact call_pathL (gs := [.f, .f, .f, .t, .t, .t, .f, .t, .f, .f, .f, .f, .f, .t, .t, .t, .f, .t, .f, .t]) (notIn []) rfl rfl (by kernel_rfl) (And.intro (decide_eq_false h0) (And.intro (decide_eq_false h0) (And.intro (decide_eq_false h0) (And.intro h1 (And.intro h1 (And.intro h1 (And.intro (decide_eq_false h0) (And.intro h1 (And.intro (decide_eq_false h0) (And.intro (Bool.eq_false_iff.mpr h2) (And.intro (decide_eq_false h3) (And.intro (decide_eq_false h3) (And.intro (decide_eq_false h3) (And.intro h4 (And.intro h4 (And.intro h4 (And.intro (decide_eq_false h3) (And.intro h4 (And.intro (decide_eq_false h3) (And.intro h5 True.intro))))))))))))))))))))
            · skip
              subst h
              exact call_pathL (gs := [.f, .f, .f, .t, .t, .t, .f, .t, .f, .f, .f, .f, .f, .t, .t, .t, .f, .t, .f, .f]) (notIn []) rfl rfl (by kernel_rfl) (And.intro (decide_eq_false h0) (And.intro (decide_eq_false h0) (And.intro (decide_eq_false h0) (And.intro h1 (And.intro h1 (And.intro h1 (And.intro (decide_eq_false h0) (And.intro h1 (And.intro (decide_eq_false h0) (And.intro (Bool.eq_false_iff.mpr h2) (And.intro (decide_eq_false h3) (And.intro (decide_eq_false h3) (And.intro (decide_eq_false h3) (And.intro h4 (And.intro h4 (And.intro h4 (And.intro (decide_eq_false h3) (And.intro h4 (And.intro (decide_eq_false h3) (And.intro (Bool.eq_false_iff.mpr h5) True.intro))))))))))))))))))))
          · skip
            subst h
            exact call_pathL (gs := [.f, .f, .f, .t, .t, .t, .f, .t, .f, .f, .f, .f, .f, .f, .f, .f, .f, .f, .f, .a]) (notIn []) rfl rfl (by kernel_rfl) (And.intro (decide_eq_false h0) (And.intro (decide_eq_false h0) (And.intro (decide_eq_false h0) (And.intro h1 (And.intro h1 (And.intro h1 (And.intro (decide_eq_false h0) (And.intro h1 (And.intro (decide_eq_false h0) (And.intro (Bool.eq_false_iff.mpr h2) (And.intro (decide_eq_false h3) (And.intro (decide_eq_false h3) (And.intro (decide_eq_false h3) (And.intro (Bool.eq_false_iff.mpr h4) (And.intro (Bool.eq_false_iff.mpr h4) (And.intro (Bool.eq_false_iff.mpr h4) (And.intro (decide_eq_false h3) (And.intro (Bool.eq_false_iff.mpr h4) (And.intro (decide_eq_false h3) True.intro)))))))))))))))))))
    · skip
      rcases ite_eq h with ⟨h2, h⟩ | ⟨h2, h⟩
      · skip
        subst h
        exact call_pathL (gs := [.f, .f, .f, .f, .f, .f, .f, .f, .f, .a, .t, .t, .t, .t, .t, .a]) (notIn []) rfl rfl (by kernel_rfl) (And.intro (decide_eq_false h0) (And.intro (decide_eq_false h0) (And.intro (decide_eq_false h0) (And.intro (Bool.eq_false_iff.mpr h1) (And.intro (Bool.eq_false_iff.mpr h1) (And.intro (Bool.eq_false_iff.mpr h1) (And.intro (decide_eq_false h0) (And.intro (Bool.eq_false_iff.mpr h1) (And.intro (decide_eq_false h0) (And.intro (decide_eq_true h2) (And.intro (decide_eq_true h2) (And.intro (decide_eq_true h2) (And.intro (decide_eq_true h2) (And.intro (decide_eq_true h2) True.intro))))))))))))))
      · skip
        rcases ite_eq h with ⟨h3, h⟩ | ⟨h3, h⟩
        · skip
          rcases ite_eq h with ⟨h4, h⟩ | ⟨h4, h⟩
          · skip
            subst h
            exact call_pathL (gs := [.f, .f, .f, .f, .f, .f, .f, .f, .f, .a, .f, .f, .f, .t, .t, .t, .f, .t, .f, .t]) (notIn []) rfl rfl (by kernel_rfl) (And.intro (decide_eq_false h0) (And.intro (decide_eq_false h0) (And.intro (decide_eq_false h0) (And.intro (Bool.eq_false_iff.mpr h1) (And.intro (Bool.eq_false_iff.mpr h1) (And.intro (Bool.eq_false_iff.mpr h1) (And.intro (decide_eq_false h0) (And.intro (Bool.eq_false_iff.mpr h1) (And.intro (decide_eq_false h0) (And.intro (decide_eq_false h2) (And.intro (decide_eq_false h2) (And.intro (decide_eq_false h2) (And.intro h3 (And.intro h3 (And.intro h3 (And.intro (decide_eq_false h2) (And.intro h3 (And.intro (decide_eq_false h2) (And.intro h4 True.intro)))))))))))))))))))
          · skip
            subst h
            exact call_pathL (gs := [.f, .f, .f, .f, .f, .f, .f, .f, .f, .a, .f, .f, .f, .t, .t, .t, .f, .t, .f, .f]) (notIn []) rfl rfl (by kernel_rfl) (And.intro (decide_eq_false h0) (And.intro (decide_eq_false h0) (And.intro (decide_eq_false h0) (And.intro (Bool.eq_false_iff.mpr h1) (And.intro (Bool.eq_false_iff.mpr h1) (And.intro (Bool.eq_false_iff.mpr h1) (And.intro (decide_eq_false h0) (And.intro (Bool.eq_false_iff.mpr h1) (And.intro (decide_eq_false h0) (And.intro (decide_eq_false h2) (And.intro (decide_eq_false h2) (And.intro (decide_eq_false h2) (And.intro h3 (And.intro h3 (And.intro h3 (And.intro (decide_eq_false h2) (And.intro h3 (And.intro (decide_eq_false h2) (And.intro (Bool.eq_false_iff.mpr h4) True.intro)))))))))))))))))))
        · skip
          subst h
          exact call_pathL (gs := [.f, .f, .f, .f, .f, .f, .f, .f, .f, .a, .f, .f, .f, .f, .f, .f, .f, .f, .f, .a]) (notIn []) rfl rfl (by kernel_rfl) (And.intro (decide_eq_false h0) (And.intro (decide_eq_false h0) (And.intro (decide_eq_false h0) (And.intro (Bool.eq_false_iff.mpr h1) (And.intro (Bool.eq_false_iff.mpr h1) (And.intro (Bool.eq_false_iff.mpr h1) (And.intro (decide_eq_false h0) (And.intro (Bool.eq_false_iff.mpr h1) (And.intro (decide_eq_false h0) (And.intro (decide_eq_false h2) (And.intro (decide_eq_false h2) (And.intro (decide_eq_false h2) (And.intro (Bool.eq_false_iff.mpr h3) (And.intro (Bool.eq_false_iff.mpr h3) (And.intro (Bool.eq_false_iff.mpr h3) (And.intro (decide_eq_false h2) (And.intro (Bool.eq_false_iff.mpr h3) (And.intro (decide_eq_false h2) True.intro))))))))))))))))))
/-! ## 39 -/
inductive A39 where
  | a0 (z294 : Int)
@[reducible] def A39.out : A39 → V × Store
  | .a0 z294 => (i64 z294, [])
def F39 (z268 : Int) (z269 : Int) : Option A39 :=
  bnd (F32 (z268)) fun z271 =>
  bnd (F32 (z269)) fun z272 =>
  (F69 (z271) (z272)).bind fun r => match r with
  | .a0 z285 z286 =>
   bnd (F68 (z285) (z286)) fun z292 =>
   bnd (F32 (z292)) fun z293 =>
   some (A39.a0 (z293))
theorem F39_ok (m : Nat) (z268 : Int) (z269 : Int) (r : A39) (h : F39 z268 z269 = some r) : call Try.prog X O0 100000 (m + 3) 39 ([i64 z268, i64 z269]) ([]) = some r.out := by
  unfold F39 at h
  obtain ⟨z271, h0, h⟩ := bnd_eq h
  obtain ⟨z272, h1, h⟩ := bnd_eq h
  obtain ⟨r2, h2, h⟩ := Option.bind_eq_some_iff.mp h
  have h2 := F69_ok (m + 0) (z271) (z272) r2 h2
  cases r2 with
  | a0 z285 z286 =>
    obtain ⟨z292, h3, h⟩ := bnd_eq h
    obtain ⟨z293, h4, h⟩ := bnd_eq h
    cases h
    exact call_pathL (gs := [.an (i64 z271) [], .an (i64 z272) [], .an (V.tup [V.int IntKind.u64 z285, V.int IntKind.u64 z286]) [], .an (i64 z292) [], .an (i64 z293) []]) (notIn []) rfl rfl (by kernel_rfl) (And.intro (F32_ok (m + 0) (z268) z271 h0) (And.intro (F32_ok (m + 0) (z269) z272 h1) (And.intro h2 (And.intro (F68_ok (m + 1) (z285) (z286) z292 h3) (And.intro (F32_ok (m + 0) (z292) z293 h4) True.intro)))))
/-! ## 100 -/
def F100 (z301 : Int) (z302 : Int) : Int :=
  bnd (F32 (z301)) fun z304 =>
  bnd (F32 (z302)) fun z305 =>
  bnd (F32 (w64 (z304 + z305))) fun z306 =>
  z306
theorem F100_ok (m : Nat) (z301 : Int) (z302 : Int) (z308 : Int) (h : F100 z301 z302 = z308) : call Try.prog X O0 100000 (m + 3) 100 ([i64 z301, i64 z302]) ([]) = some (i64 z308, []) := by
  unfold F100 at h
  obtain ⟨z304, h0, h⟩ := bnd_eq h
  obtain ⟨z305, h1, h⟩ := bnd_eq h
  obtain ⟨z306, h2, h⟩ := bnd_eq h
  subst h
  exact call_pathL (gs := [.an (i64 z304) [], .an (i64 z305) [], .an (i64 z306) []]) (notIn []) rfl rfl (by kernel_rfl) (And.intro (F32_ok (m + 0) (z301) z304 h0) (And.intro (F32_ok (m + 0) (z302) z305 h1) (And.intro (F32_ok (m + 0) (w64 (z304 + z305)) z306 h2) True.intro)))
/-! ## 94 -/
inductive A94 where
  | a0 (z313 : Int)
@[reducible] def A94.out : A94 → V × Store
  | .a0 z313 => (i64 z313, [])
def F94 (z263 : Int) (z264 : Int) (z265 : Int) : Option A94 :=
  bnd (F33 (z265) (0) (65536)) fun z267 =>
  (F39 (w64 (65536 - z267)) (w64 (65536 - z267))).bind fun r => match r with
  | .a0 z295 =>
   (F39 (z295) (z267)).bind fun r => match r with
   | .a0 z296 =>
    (F39 (w64 (3 * z296)) (z263)).bind fun r => match r with
    | .a0 z297 =>
     (F39 (w64 (65536 - z267)) (z267)).bind fun r => match r with
     | .a0 z298 =>
      (F39 (z298) (z267)).bind fun r => match r with
      | .a0 z299 =>
       (F39 (w64 (3 * z299)) (z264)).bind fun r => match r with
       | .a0 z300 =>
        bnd (F100 (z297) (z300)) fun z309 =>
        (F39 (z267) (z267)).bind fun r => match r with
        | .a0 z310 =>
         (F39 (z310) (z267)).bind fun r => match r with
         | .a0 z311 =>
          bnd (F100 (z309) (z311)) fun z312 =>
          some (A94.a0 (z312))
theorem F94_ok (m : Nat) (z263 : Int) (z264 : Int) (z265 : Int) (r : A94) (h : F94 z263 z264 z265 = some r) : call Try.prog X O0 100000 (m + 4) 94 ([i64 z263, i64 z264, i64 z265]) ([]) = some r.out := by
  unfold F94 at h
  obtain ⟨z267, h0, h⟩ := bnd_eq h
  obtain ⟨r1, h1, h⟩ := Option.bind_eq_some_iff.mp h
  have h1 := F39_ok (m + 0) (w64 (65536 - z267)) (w64 (65536 - z267)) r1 h1
  cases r1 with
  | a0 z295 =>
    obtain ⟨r2, h2, h⟩ := Option.bind_eq_some_iff.mp h
    have h2 := F39_ok (m + 0) (z295) (z267) r2 h2
    cases r2 with
    | a0 z296 =>
      obtain ⟨r3, h3, h⟩ := Option.bind_eq_some_iff.mp h
      have h3 := F39_ok (m + 0) (w64 (3 * z296)) (z263) r3 h3
      cases r3 with
      | a0 z297 =>
        obtain ⟨r4, h4, h⟩ := Option.bind_eq_some_iff.mp h
        have h4 := F39_ok (m + 0) (w64 (65536 - z267)) (z267) r4 h4
        cases r4 with
        | a0 z298 =>
          obtain ⟨r5, h5, h⟩ := Option.bind_eq_some_iff.mp h
          have h5 := F39_ok (m + 0) (z298) (z267) r5 h5
          cases r5 with
          | a0 z299 =>
            obtain ⟨r6, h6, h⟩ := Option.bind_eq_some_iff.mp h
            have h6 := F39_ok (m + 0) (w64 (3 * z299)) (z264) r6 h6
            cases r6 with
            | a0 z300 =>
              obtain ⟨z309, h7, h⟩ := bnd_eq h
              obtain ⟨r8, h8, h⟩ := Option.bind_eq_some_iff.mp h
              have h8 := F39_ok (m + 0) (z267) (z267) r8 h8
              cases r8 with
              | a0 z310 =>
                obtain ⟨r9, h9, h⟩ := Option.bind_eq_some_iff.mp h
                have h9 := F39_ok (m + 0) (z310) (z267) r9 h9
                cases r9 with
                | a0 z311 =>
                  obtain ⟨z312, h10, h⟩ := bnd_eq h
                  cases h
                  exact call_pathL (gs := [.an (i64 z267) [], .an (i64 z295) [], .an (i64 z296) [], .an (i64 z297) [], .an (i64 z298) [], .an (i64 z299) [], .an (i64 z300) [], .an (i64 z309) [], .an (i64 z310) [], .an (i64 z311) [], .an (i64 z312) []]) (notIn []) rfl rfl (by kernel_rfl) (And.intro (F33_ok (m + 2) (z265) (0) (65536) z267 h0) (And.intro h1 (And.intro h2 (And.intro h3 (And.intro h4 (And.intro h5 (And.intro h6 (And.intro (F100_ok (m + 0) (z297) (z300) z309 h7) (And.intro h8 (And.intro h9 (And.intro (F100_ok (m + 0) (z309) (z311) z312 h10) True.intro)))))))))))
/-! ## 66 -/
noncomputable abbrev B66 : Code := (Try.f66.body).getD .skip
inductive R66_1 where
  | e0 (z333 : Int) (z338 : Int) (z340 : Int)
@[reducible] def s66_1_0 (z332 : Int) (z333 : Int) (z334 : Int) (z335 : Int) (b336 : Bool) (z337 : Int) (z338 : Int) (z339 : Int) (z340 : Int) : S := { T := U :: i64 z332 :: V.ptr 0 0 0 :: U :: U :: i64 z333 :: i64 z334 :: un 7 (i64 z335 :: vb b336 :: un 21 []), σ := [Ob.cells true false 4 [[i64 z337, i64 z338, i64 z339, i64 z340]]] }
def R66_1.St : R66_1 → VX × S → Prop
  | .e0 z333 z338 z340, p => ∃ z332 : Int, ∃ z334 : Int, ∃ z335 : Int, ∃ b336 : Bool, ∃ z337 : Int, ∃ z339 : Int, p = (VX.exit 1, s66_1_0 z332 z333 z334 z335 b336 z337 z338 z339 z340)
def L66_1 : Nat → Int → Int → Int → Int → Int → Int → Int → Int → Option R66_1
  | 0, _, _, _, _, _, _, _, _ => none
  | n + 1, z322, z323, z324, z325, z326, z327, z328, z329 =>
    if z325 < 16 then
     (F94 (z326) (z328) (Int.fdiv (w64 (z323 + z324)) 2)).bind fun r => match r with
     | .a0 z331 =>
      if z331 ≤ z322 then
       L66_1 n (z322) (Int.fdiv (w64 (z323 + z324)) 2) (z324) (w64 (z325 + 1)) (z326) (z327) (z328) (z329)
      else
       L66_1 n (z322) (z323) (Int.fdiv (w64 (z323 + z324)) 2) (w64 (z325 + 1)) (z326) (z327) (z328) (z329)
    else
     some (R66_1.e0 (z323) (z327) (z329))
theorem L66_1_ok (m : Nat) : ∀ (n : Nat) (z322 : Int) (z323 : Int) (z324 : Int) (z325 : Int) (z326 : Int) (z327 : Int) (z328 : Int) (z329 : Int) (r : R66_1), L66_1 n z322 z323 z324 z325 z326 z327 z328 z329 = some r → ∃ st, loopFrom Try.prog X (call Try.prog X O0 100000 (m + 4)) 66 (0) 100000 B66 1 n ({ T := U :: i64 z322 :: V.ptr 0 0 0 :: U :: U :: i64 z323 :: i64 z324 :: un 7 (i64 z325 :: un 22 []), σ := [Ob.cells true false 4 [[i64 z326, i64 z327, i64 z328, i64 z329]]] }) = some st ∧ r.St st
  | 0, _, _, _, _, _, _, _, _, r, h => by cases h
  | n + 1, z322, z323, z324, z325, z326, z327, z328, z329, r, h => by
    rw [L66_1] at h
    rcases ite_eq h with ⟨h0, h⟩ | ⟨h0, h⟩
    · skip
      obtain ⟨r1, h1, h⟩ := Option.bind_eq_some_iff.mp h
      have h1 := F94_ok (m + 0) (z326) (z328) (Int.fdiv (w64 (z323 + z324)) 2) r1 h1
      cases r1 with
      | a0 z331 =>
        rcases ite_eq h with ⟨h2, h⟩ | ⟨h2, h⟩
        · skip
          obtain ⟨st, hs, hr⟩ := L66_1_ok m n (z322) (Int.fdiv (w64 (z323 + z324)) 2) (z324) (w64 (z325 + 1)) (z326) (z327) (z328) (z329) r h
          exact ⟨st, (round_on (gs := [.t, .a, .a, .an (i64 z331) [], .t]) (notIn []) (by kernel_rfl) (And.intro (decide_eq_true h0) (And.intro h1 (And.intro (decide_eq_true h2) True.intro))) n).trans hs, hr⟩
        · skip
          obtain ⟨st, hs, hr⟩ := L66_1_ok m n (z322) (z323) (Int.fdiv (w64 (z323 + z324)) 2) (w64 (z325 + 1)) (z326) (z327) (z328) (z329) r h
          exact ⟨st, (round_on (gs := [.t, .a, .a, .an (i64 z331) [], .f]) (notIn []) (by kernel_rfl) (And.intro (decide_eq_true h0) (And.intro h1 (And.intro (decide_eq_false h2) True.intro))) n).trans hs, hr⟩
    · skip
      cases h
      exact ⟨_, round_out (gs := [.f]) (notIn []) (by kernel_rfl) rfl (And.intro (decide_eq_false h0) True.intro) n, z322, z324, z325, decide (z325 < 16), z326, z328, rfl⟩
inductive A66 where
  | a0 (z330 : Int)
@[reducible] def A66.out : A66 → V × Store
  | .a0 z330 => (i64 z330, [])
def F66 (z251 : Int) (z252 : Int) (z253 : Int) (z254 : Int) (z255 : Int) : Option A66 :=
  if z255 ≤ 0 then
   some (A66.a0 (0))
  else
   if z255 ≥ 65536 then
    some (A66.a0 (65536))
   else
    (L66_1 100000 (z255) (0) (65536) (0) (z251) (z252) (z253) (z254)).bind fun r => match r with
    | .e0 z342 z347 z349 =>
     (F94 (z347) (z349) (z342)).bind fun r => match r with
     | .a0 z350 =>
      some (A66.a0 (z350))
theorem F66_ok (m : Nat) (z251 : Int) (z252 : Int) (z253 : Int) (z254 : Int) (z255 : Int) (r : A66) (h : F66 z251 z252 z253 z254 z255 = some r) : call Try.prog X O0 100000 (m + 5) 66 ([V.agg [i64 z251, i64 z252, i64 z253, i64 z254], i64 z255]) ([]) = some r.out := by
  unfold F66 at h
  rcases ite_eq h with ⟨h0, h⟩ | ⟨h0, h⟩
  · skip
    cases h
    exact call_pathL (gs := [.t]) (notIn []) rfl rfl (by kernel_rfl) (And.intro (decide_eq_true h0) True.intro)
  · skip
    rcases ite_eq h with ⟨h1, h⟩ | ⟨h1, h⟩
    · skip
      cases h
      exact call_pathL (gs := [.f, .t]) (notIn []) rfl rfl (by kernel_rfl) (And.intro (decide_eq_false h0) (And.intro (decide_eq_true h1) True.intro))
    · skip
      obtain ⟨r2, h2, h⟩ := Option.bind_eq_some_iff.mp h
      obtain ⟨st2, h2, hr2⟩ := L66_1_ok m 100000 (z255) (0) (65536) (0) (z251) (z252) (z253) (z254) r2 h2
      have h2 : loopRun Try.prog X (call Try.prog X O0 100000 (m + 4)) 66 (0) 100000 B66 1 ({ T := V.agg [i64 z251, i64 z252, i64 z253, i64 z254] :: i64 z255 :: V.ptr 0 0 0 :: U :: i64 0 :: i64 0 :: i64 65536 :: U :: vb (decide (z255 ≤ 0)) :: i64 z255 :: vb (decide (z255 ≤ 0)) :: vb (decide (z255 ≥ 65536)) :: i64 z255 :: vb (decide (z255 ≥ 65536)) :: i64 0 :: un 22 [], σ := [Ob.cells true false 4 [[i64 z251, i64 z252, i64 z253, i64 z254]]] }) = some st2 := by
        rw [loopRun_from, show prep (0) (X.keep 66 1) ({ T := V.agg [i64 z251, i64 z252, i64 z253, i64 z254] :: i64 z255 :: V.ptr 0 0 0 :: U :: i64 0 :: i64 0 :: i64 65536 :: U :: vb (decide (z255 ≤ 0)) :: i64 z255 :: vb (decide (z255 ≤ 0)) :: vb (decide (z255 ≥ 65536)) :: i64 z255 :: vb (decide (z255 ≥ 65536)) :: i64 0 :: un 22 [], σ := [Ob.cells true false 4 [[i64 z251, i64 z252, i64 z253, i64 z254]]] }) = { T := U :: i64 z255 :: V.ptr 0 0 0 :: U :: U :: i64 0 :: i64 65536 :: un 7 (i64 0 :: un 22 []), σ := [Ob.cells true false 4 [[i64 z251, i64 z252, i64 z253, i64 z254]]] } by kernel_rfl]
        exact h2
      cases r2 with
      | e0 z342 z347 z349 =>
        obtain ⟨z341, z343, z344, b345, z346, z348, rfl⟩ := hr2
        obtain ⟨r3, h3, h⟩ := Option.bind_eq_some_iff.mp h
        have h3 := F94_ok (m + 0) (z347) (z349) (z342) r3 h3
        cases r3 with
        | a0 z350 =>
          cases h
          exact call_pathL (gs := [.f, .f, .lp (VX.exit 1) (s66_1_0 z341 z342 z343 z344 b345 z346 z347 z348 z349), .a, .a, .an (i64 z350) []]) (notIn []) rfl rfl (by kernel_rfl) (And.intro (decide_eq_false h0) (And.intro (decide_eq_false h1) (And.intro h2 (And.intro h3 True.intro))))
/-! ## 34 -/
inductive A34 where
  | a0 (z250 : Int)
@[reducible] def A34.out : A34 → V × Store
  | .a0 z250 => (i64 z250, [])
def F34 (z243 : Int) (z244 : Int) (z245 : Int) (z246 : Int) (z247 : Int) (z248 : Int) : Option A34 :=
  if (z243 == 0) = true then
   if z248 ≥ 65536 then
    some (A34.a0 (65536))
   else
    if (z243 == 1) = true then
     some (A34.a0 (z248))
    else
     if (z243 == 2) = true then
      (F66 (z244) (z245) (z246) (z247) (z248)).bind fun r => match r with
      | .a0 z351 =>
       some (A34.a0 (z351))
     else
      some (A34.a0 (0))
  else
   if (z243 == 1) = true then
    some (A34.a0 (z248))
   else
    if (z243 == 2) = true then
     (F66 (z244) (z245) (z246) (z247) (z248)).bind fun r => match r with
     | .a0 z352 =>
      some (A34.a0 (z352))
    else
     some (A34.a0 (0))
theorem F34_ok (m : Nat) (z243 : Int) (z244 : Int) (z245 : Int) (z246 : Int) (z247 : Int) (z248 : Int) (r : A34) (h : F34 z243 z244 z245 z246 z247 z248 = some r) : call Try.prog X O0 100000 (m + 6) 34 ([i64 z243, V.agg [i64 z244, i64 z245, i64 z246, i64 z247], i64 z248]) ([]) = some r.out := by
  unfold F34 at h
  rcases ite_eq h with ⟨h0, h⟩ | ⟨h0, h⟩
  · skip
    rcases ite_eq h with ⟨h1, h⟩ | ⟨h1, h⟩
    · skip
      cases h
      exact call_pathL (gs := [.t, .t, .t, .t]) (notIn []) rfl rfl (by kernel_rfl) (And.intro h0 (And.intro h0 (And.intro h0 (And.intro (decide_eq_true h1) True.intro))))
    · skip
      rcases ite_eq h with ⟨h2, h⟩ | ⟨h2, h⟩
      · skip
        cases h
        exact call_pathL (gs := [.t, .t, .t, .f, .t]) (notIn []) rfl rfl (by kernel_rfl) (And.intro h0 (And.intro h0 (And.intro h0 (And.intro (decide_eq_false h1) (And.intro h2 True.intro)))))
      · skip
        rcases ite_eq h with ⟨h3, h⟩ | ⟨h3, h⟩
        · skip
          obtain ⟨r4, h4, h⟩ := Option.bind_eq_some_iff.mp h
          have h4 := F66_ok (m + 0) (z244) (z245) (z246) (z247) (z248) r4 h4
          cases r4 with
          | a0 z351 =>
            cases h
            exact call_pathL (gs := [.t, .t, .t, .f, .f, .t, .a, .an (i64 z351) []]) (notIn []) rfl rfl (by kernel_rfl) (And.intro h0 (And.intro h0 (And.intro h0 (And.intro (decide_eq_false h1) (And.intro (Bool.eq_false_iff.mpr h2) (And.intro h3 (And.intro h4 True.intro)))))))
        · skip
          cases h
          exact call_pathL (gs := [.t, .t, .t, .f, .f, .f]) (notIn []) rfl rfl (by kernel_rfl) (And.intro h0 (And.intro h0 (And.intro h0 (And.intro (decide_eq_false h1) (And.intro (Bool.eq_false_iff.mpr h2) (And.intro (Bool.eq_false_iff.mpr h3) True.intro))))))
  · skip
    rcases ite_eq h with ⟨h1, h⟩ | ⟨h1, h⟩
    · skip
      cases h
      exact call_pathL (gs := [.f, .f, .f, .a, .t]) (notIn []) rfl rfl (by kernel_rfl) (And.intro (Bool.eq_false_iff.mpr h0) (And.intro (Bool.eq_false_iff.mpr h0) (And.intro (Bool.eq_false_iff.mpr h0) (And.intro h1 True.intro))))
    · skip
      rcases ite_eq h with ⟨h2, h⟩ | ⟨h2, h⟩
      · skip
        obtain ⟨r3, h3, h⟩ := Option.bind_eq_some_iff.mp h
        have h3 := F66_ok (m + 0) (z244) (z245) (z246) (z247) (z248) r3 h3
        cases r3 with
        | a0 z352 =>
          cases h
          exact call_pathL (gs := [.f, .f, .f, .a, .f, .t, .a, .an (i64 z352) []]) (notIn []) rfl rfl (by kernel_rfl) (And.intro (Bool.eq_false_iff.mpr h0) (And.intro (Bool.eq_false_iff.mpr h0) (And.intro (Bool.eq_false_iff.mpr h0) (And.intro (Bool.eq_false_iff.mpr h1) (And.intro h2 (And.intro h3 True.intro))))))
      · skip
        cases h
        exact call_pathL (gs := [.f, .f, .f, .a, .f, .f]) (notIn []) rfl rfl (by kernel_rfl) (And.intro (Bool.eq_false_iff.mpr h0) (And.intro (Bool.eq_false_iff.mpr h0) (And.intro (Bool.eq_false_iff.mpr h0) (And.intro (Bool.eq_false_iff.mpr h1) (And.intro (Bool.eq_false_iff.mpr h2) True.intro)))))
/-! ## 15 -/
noncomputable abbrev B15v1 : Code := (Try.f15.body).getD .skip
inductive R15v1_0 where
  | e0 (l377 : List (List V)) (z378 : Int) (z379 : Int)
  | e1 (l392 : List (List V)) (z393 : Int) (z394 : Int)
@[reducible] def s15v1_0_0 (l377 : List (List V)) (z378 : Int) (z379 : Int) (b380 : Bool) (z381 : Int) (z382 : Int) (z383 : Int) (z384 : Int) (z385 : Int) (z386 : Int) (z387 : Int) (z388 : Int) (z389 : Int) (z390 : Int) (b391 : Bool) : S := { T := V.list 10 l377 :: i64 z378 :: un 4 (V.ptr 0 0 0 :: i64 z379 :: un 9 (i64 z379 :: vb b380 :: vb b380 :: V.list 10 l377 :: i64 z379 :: V.pp [i64 z381, u8 z382, u8 z383, u8 z384, u8 z385, i64 z386, i64 z387, i64 z388, i64 z389, i64 z390] :: V.pp [i64 z381, u8 z382, u8 z383, u8 z384, u8 z385, i64 z386, i64 z387, i64 z388, i64 z389, i64 z390] :: i64 z381 :: i64 z378 :: vb b391 :: vb b391 :: un 44 [])), σ := [Ob.cells true false 4 [[u8 0, u8 0, u8 0, u8 0]]] }
@[reducible] def s15v1_0_1 (l392 : List (List V)) (z393 : Int) (z394 : Int) (b395 : Bool) : S := { T := V.list 10 l392 :: i64 z393 :: un 4 (V.ptr 0 0 0 :: i64 z394 :: un 9 (i64 z394 :: vb b395 :: vb b395 :: E :: E :: E :: E :: E :: E :: E :: vb false :: un 44 [])), σ := [Ob.cells true false 4 [[u8 0, u8 0, u8 0, u8 0]]] }
def R15v1_0.St : R15v1_0 → VX × S → Prop
  | .e0 l377 z378 z379, p => ∃ b380 : Bool, ∃ z381 : Int, ∃ z382 : Int, ∃ z383 : Int, ∃ z384 : Int, ∃ z385 : Int, ∃ z386 : Int, ∃ z387 : Int, ∃ z388 : Int, ∃ z389 : Int, ∃ z390 : Int, ∃ b391 : Bool, p = (VX.exit 0, s15v1_0_0 l377 z378 z379 b380 z381 z382 z383 z384 z385 z386 z387 z388 z389 z390 b391)
  | .e1 l392 z393 z394, p => ∃ b395 : Bool, p = (VX.exit 0, s15v1_0_1 l392 z393 z394 b395)
def L15v1_0 : Nat → List (List V) → Int → Int → Option R15v1_0
  | 0, _, _, _ => none
  | n + 1, l192, z193, z194 =>
    if z194 ≥ 0 then
     if 0 ≤ z194 then
      ((l192[Int.toNat z194]?).bind W33.dec).bind fun e376 =>
      if e376.c0 > z193 then
       L15v1_0 n (l192) (z193) (w64 (z194 - 1))
      else
       some (R15v1_0.e0 (l192) (z193) (z194))
     else
      none -- none
    else
     some (R15v1_0.e1 (l192) (z193) (z194))
theorem L15v1_0_ok (m : Nat) : ∀ (n : Nat) (l192 : List (List V)) (z193 : Int) (z194 : Int) (r : R15v1_0), L15v1_0 n l192 z193 z194 = some r → ∃ st, loopFrom Try.prog X (call Try.prog X O0 100000 (m + 6)) 15 (0) 100000 B15v1 0 n ({ T := V.list 10 l192 :: i64 z193 :: un 4 (V.ptr 0 0 0 :: i64 z194 :: un 64 []), σ := [Ob.cells true false 4 [[u8 0, u8 0, u8 0, u8 0]]] }) = some st ∧ r.St st
  | 0, _, _, _, r, h => by cases h
  | n + 1, l192, z193, z194, r, h => by
    rw [L15v1_0] at h
    rcases ite_eq h with ⟨h0, h⟩ | ⟨h0, h⟩
    · skip
      rcases ite_eq h with ⟨h1, h⟩ | ⟨h1, h⟩
      · skip
        obtain ⟨e376, h2, h⟩ := Option.bind_eq_some_iff.mp h
        rcases ite_eq h with ⟨h3, h⟩ | ⟨h3, h⟩
        · skip
          obtain ⟨st, hs, hr⟩ := L15v1_0_ok m n (l192) (z193) (w64 (z194 - 1)) r h
          exact ⟨st, (round_on (gs := [.t, .t, .t, .t, .el (W33.cells e376), .t, .t, .t, .t, .t, .t]) (notIn []) (by kernel_rfl) (And.intro (decide_eq_true h0) (And.intro (decide_eq_true h0) (And.intro (decide_eq_true h0) (And.intro (decide_eq_true h1) (And.intro (W33.dec_ok h2) (And.intro (decide_eq_true h0) (And.intro (decide_eq_true h0) (And.intro (decide_eq_true h0) (And.intro (decide_eq_true h0) (And.intro (decide_eq_true h0) (And.intro (decide_eq_true h3) True.intro))))))))))) n).trans hs, hr⟩
        · skip
          cases h
          exact ⟨_, round_out (gs := [.t, .t, .t, .t, .el (W33.cells e376), .t, .t, .t, .t, .t, .f]) (notIn []) (by kernel_rfl) rfl (And.intro (decide_eq_true h0) (And.intro (decide_eq_true h0) (And.intro (decide_eq_true h0) (And.intro (decide_eq_true h1) (And.intro (W33.dec_ok h2) (And.intro (decide_eq_true h0) (And.intro (decide_eq_true h0) (And.intro (decide_eq_true h0) (And.intro (decide_eq_true h0) (And.intro (decide_eq_true h0) (And.intro (decide_eq_false h3) True.intro))))))))))) n, decide (z194 ≥ 0), e376.c0, e376.c1, e376.c2, e376.c3, e376.c4, e376.c5, e376.c6, e376.c7, e376.c8, e376.c9, decide (e376.c0 > z193), rfl⟩
      · skip
        cases h
    · skip
      cases h
      exact ⟨_, round_out (gs := [.f, .f, .f, .f, .f, .f, .f, .f, .a]) (notIn []) (by kernel_rfl) rfl (And.intro (decide_eq_false h0) (And.intro (decide_eq_false h0) (And.intro (decide_eq_false h0) (And.intro (decide_eq_false h0) (And.intro (decide_eq_false h0) (And.intro (decide_eq_false h0) (And.intro (decide_eq_false h0) (And.intro (decide_eq_false h0) True.intro)))))))) n, decide (z194 ≥ 0), rfl⟩
inductive A15v1 where
  | a0 (z372 : Int) (z373 : Int) (z374 : Int) (z375 : Int)
@[reducible] def A15v1.out : A15v1 → V × Store
  | .a0 z372 z373 z374 z375 => (V.agg [u8 z372, u8 z373, u8 z374, u8 z375], [])
def F15v1 (l181 : List (List V)) (z182 : Int) (z183 : Int) (z184 : Int) (z185 : Int) (z186 : Int) : Option A15v1 :=
  if ((↑(List.length l181) : Int) == 0) = true then
   some (A15v1.a0 (z183) (z184) (z185) (z186))
  else
   (L15v1_0 100000 (l181) (z182) (w64 ((↑(List.length l181) : Int) - 1))).bind fun r => match r with
   | .e0 l396 z397 z398 =>
    if (z398 == -1) = true then
     ((l396[(0 : Nat)]?).bind W33.dec).bind fun e411 =>
     some (A15v1.a0 (e411.c1) (e411.c2) (e411.c3) (e411.c4))
    else
     if (z398 == w64 ((↑(List.length l396) : Int) - 1)) = true then
      if 0 ≤ z398 then
       ((l396[Int.toNat z398]?).bind W33.dec).bind fun e412 =>
       some (A15v1.a0 (e412.c1) (e412.c2) (e412.c3) (e412.c4))
      else
       none -- none
     else
      if 0 ≤ z398 then
       ((l396[Int.toNat z398]?).bind W33.dec).bind fun e413 =>
       if 0 ≤ w64 (z398 + 1) then
        ((l396[Int.toNat (w64 (z398 + (1 : Int)))]?).bind W33.dec).bind fun e414 =>
        (F35 (e413.c0) (e414.c0) (z397)).bind fun r => match r with
        | .a0 z415 =>
         (F34 (e413.c5) (e413.c6) (e413.c7) (e413.c8) (e413.c9) (z415)).bind fun r => match r with
         | .a0 z416 =>
          (F12 (e413.c1) (e413.c2) (e413.c3) (e413.c4) (e414.c1) (e414.c2) (e414.c3) (e414.c4) (z416)).bind fun r => match r with
          | .a0 z417 z418 z419 z420 =>
           some (A15v1.a0 (z417) (z418) (z419) (z420))
       else
        none -- none
      else
       none -- none
   | .e1 l421 z422 z423 =>
    if (z423 == -1) = true then
     ((l421[(0 : Nat)]?).bind W33.dec).bind fun e425 =>
     some (A15v1.a0 (e425.c1) (e425.c2) (e425.c3) (e425.c4))
    else
     if (z423 == w64 ((↑(List.length l421) : Int) - 1)) = true then
      if 0 ≤ z423 then
       ((l421[Int.toNat z423]?).bind W33.dec).bind fun e426 =>
       some (A15v1.a0 (e426.c1) (e426.c2) (e426.c3) (e426.c4))
      else
       none -- none
     else
      if 0 ≤ z423 then
       ((l421[Int.toNat z423]?).bind W33.dec).bind fun e427 =>
       if 0 ≤ w64 (z423 + 1) then
        ((l421[Int.toNat (w64 (z423 + (1 : Int)))]?).bind W33.dec).bind fun e428 =>
        (F35 (e427.c0) (e428.c0) (z422)).bind fun r => match r with
        | .a0 z429 =>
         (F34 (e427.c5) (e427.c6) (e427.c7) (e427.c8) (e427.c9) (z429)).bind fun r => match r with
         | .a0 z430 =>
          (F12 (e427.c1) (e427.c2) (e427.c3) (e427.c4) (e428.c1) (e428.c2) (e428.c3) (e428.c4) (z430)).bind fun r => match r with
          | .a0 z431 z432 z433 z434 =>
           some (A15v1.a0 (z431) (z432) (z433) (z434))
       else
        none -- none
      else
       none -- none
theorem F15v1_ok (m : Nat) (l181 : List (List V)) (z182 : Int) (z183 : Int) (z184 : Int) (z185 : Int) (z186 : Int) (r : A15v1) (h : F15v1 l181 z182 z183 z184 z185 z186 = some r) : call Try.prog X O0 100000 (m + 7) 15 ([V.list 10 l181, i64 z182, V.agg [u8 z183, u8 z184, u8 z185, u8 z186]]) ([]) = some r.out := by
  unfold F15v1 at h
  rcases ite_eq h with ⟨h0, h⟩ | ⟨h0, h⟩
  · skip
    cases h
    exact call_pathL (gs := [.t, .a, .a]) (notIn []) rfl rfl (by kernel_rfl) (And.intro h0 True.intro)
  · skip
    obtain ⟨r1, h1, h⟩ := Option.bind_eq_some_iff.mp h
    obtain ⟨st1, h1, hr1⟩ := L15v1_0_ok m 100000 (l181) (z182) (w64 ((↑(List.length l181) : Int) - 1)) r1 h1
    have h1 : loopRun Try.prog X (call Try.prog X O0 100000 (m + 6)) 15 (0) 100000 B15v1 0 ({ T := V.list 10 l181 :: i64 z182 :: V.agg [u8 z183, u8 z184, u8 z185, u8 z186] :: U :: U :: V.ptr 0 0 0 :: V.ptr 1 0 0 :: i64 (w64 ((↑(List.length l181) : Int) - 1)) :: U :: U :: V.list 10 l181 :: i64 (↑(List.length l181) : Int) :: vb ((↑(List.length l181) : Int) == 0) :: U :: V.list 10 l181 :: i64 (↑(List.length l181) : Int) :: i64 (w64 ((↑(List.length l181) : Int) - 1)) :: un 55 [], σ := [Ob.cells true false 4 [[u8 z183, u8 z184, u8 z185, u8 z186]], Ob.cells true false 4 [[u8 0, u8 0, u8 0, u8 0]]] }) = some st1 := by
      rw [loopRun_from, show prep (0) (X.keep 15 0) ({ T := V.list 10 l181 :: i64 z182 :: V.agg [u8 z183, u8 z184, u8 z185, u8 z186] :: U :: U :: V.ptr 0 0 0 :: V.ptr 1 0 0 :: i64 (w64 ((↑(List.length l181) : Int) - 1)) :: U :: U :: V.list 10 l181 :: i64 (↑(List.length l181) : Int) :: vb ((↑(List.length l181) : Int) == 0) :: U :: V.list 10 l181 :: i64 (↑(List.length l181) : Int) :: i64 (w64 ((↑(List.length l181) : Int) - 1)) :: un 55 [], σ := [Ob.cells true false 4 [[u8 z183, u8 z184, u8 z185, u8 z186]], Ob.cells true false 4 [[u8 0, u8 0, u8 0, u8 0]]] }) = { T := V.list 10 l181 :: i64 z182 :: un 4 (V.ptr 0 0 0 :: i64 (w64 ((↑(List.length l181) : Int) - 1)) :: un 64 []), σ := [Ob.cells true false 4 [[u8 0, u8 0, u8 0, u8 0]]] } by kernel_rfl]
      exact h1
    cases r1 with
    | e0 l396 z397 z398 =>
      obtain ⟨b399, z400, z401, z402, z403, z404, z405, z406, z407, z408, z409, b410, rfl⟩ := hr1
      rcases ite_eq h with ⟨h2, h⟩ | ⟨h2, h⟩
      · skip
        obtain ⟨e411, h3, h⟩ := Option.bind_eq_some_iff.mp h
        cases h
        exact call_pathL (gs := [.f, .lp (VX.exit 0) (s15v1_0_0 l396 z397 z398 b399 z400 z401 z402 z403 z404 z405 z406 z407 z408 z409 b410), .t, .a, .el (W33.cells e411), .a]) (notIn []) rfl rfl (by kernel_rfl) (And.intro (Bool.eq_false_iff.mpr h0) (And.intro h1 (And.intro h2 (And.intro (W33.dec_ok h3) True.intro))))
      · skip
        rcases ite_eq h with ⟨h3, h⟩ | ⟨h3, h⟩
        · skip
          rcases ite_eq h with ⟨h4, h⟩ | ⟨h4, h⟩
          · skip
            obtain ⟨e412, h5, h⟩ := Option.bind_eq_some_iff.mp h
            cases h
            exact call_pathL (gs := [.f, .lp (VX.exit 0) (s15v1_0_0 l396 z397 z398 b399 z400 z401 z402 z403 z404 z405 z406 z407 z408 z409 b410), .f, .t, .t, .el (W33.cells e412), .a]) (notIn []) rfl rfl (by kernel_rfl) (And.intro (Bool.eq_false_iff.mpr h0) (And.intro h1 (And.intro (Bool.eq_false_iff.mpr h2) (And.intro h3 (And.intro (decide_eq_true h4) (And.intro (W33.dec_ok h5) True.intro))))))
          · skip
            cases h
        · skip
          rcases ite_eq h with ⟨h4, h⟩ | ⟨h4, h⟩
          · skip
            obtain ⟨e413, h5, h⟩ := Option.bind_eq_some_iff.mp h
            rcases ite_eq h with ⟨h6, h⟩ | ⟨h6, h⟩
            · skip
              obtain ⟨e414, h7, h⟩ := Option.bind_eq_some_iff.mp h
              obtain ⟨r8, h8, h⟩ := Option.bind_eq_some_iff.mp h
              have h8 := F35_ok (m + 3) (e413.c0) (e414.c0) (z397) r8 h8
              cases r8 with
              | a0 z415 =>
                obtain ⟨r9, h9, h⟩ := Option.bind_eq_some_iff.mp h
                have h9 := F34_ok (m + 0) (e413.c5) (e413.c6) (e413.c7) (e413.c8) (e413.c9) (z415) r9 h9
                cases r9 with
                | a0 z416 =>
                  obtain ⟨r10, h10, h⟩ := Option.bind_eq_some_iff.mp h
                  have h10 := F12_ok (m + 3) (e413.c1) (e413.c2) (e413.c3) (e413.c4) (e414.c1) (e414.c2) (e414.c3) (e414.c4) (z416) r10 h10
                  cases r10 with
                  | a0 z417 z418 z419 z420 =>
                    cases h
                    exact call_pathL (gs := [.f, .lp (VX.exit 0) (s15v1_0_0 l396 z397 z398 b399 z400 z401 z402 z403 z404 z405 z406 z407 z408 z409 b410), .f, .f, .t, .el (W33.cells e413), .t, .el (W33.cells e414), .a, .a, .ft [⟨0, [], []⟩, ⟨1, [], []⟩, ⟨2, [], []⟩, ⟨3, [], []⟩, ⟨4, [], []⟩, ⟨5, [], []⟩, ⟨6, [], []⟩, ⟨7, [], []⟩, ⟨8, [], []⟩, ⟨9, [1], [1]⟩, ⟨10, [2], [2]⟩, ⟨11, [1], [1]⟩, ⟨12, [2], [2]⟩], .a, .a, .a, .a, .a, .a, .an (i64 z415) [], .an (i64 z416) [], .an (V.agg [u8 z417, u8 z418, u8 z419, u8 z420]) [], .a, .ft [⟨0, [1], []⟩, ⟨1, [1], []⟩, ⟨2, [2], []⟩, ⟨3, [2], []⟩, ⟨4, [1], []⟩, ⟨5, [1], []⟩, ⟨6, [1], []⟩, ⟨7, [1], []⟩, ⟨8, [1], []⟩, ⟨9, [1], []⟩, ⟨10, [2], []⟩, ⟨11, [2], []⟩, ⟨12, [], []⟩, ⟨13, [], []⟩, ⟨14, [], []⟩, ⟨15, [], []⟩, ⟨16, [0], [0]⟩]]) (notIn []) rfl rfl (by kernel_rfl) (And.intro (Bool.eq_false_iff.mpr h0) (And.intro h1 (And.intro (Bool.eq_false_iff.mpr h2) (And.intro (Bool.eq_false_iff.mpr h3) (And.intro (decide_eq_true h4) (And.intro (W33.dec_ok h5) (And.intro (decide_eq_true h6) (And.intro (W33.dec_ok h7) (And.intro (Eq.refl ([⟨0, [], []⟩, ⟨1, [], []⟩, ⟨2, [], []⟩, ⟨3, [], []⟩, ⟨4, [], []⟩, ⟨5, [], []⟩, ⟨6, [], []⟩, ⟨7, [], []⟩, ⟨8, [], []⟩, ⟨9, [1], [1]⟩, ⟨10, [2], [2]⟩, ⟨11, [1], [1]⟩, ⟨12, [2], [2]⟩] : List Foot)) (And.intro h8 (And.intro h9 (And.intro h10 (And.intro (Eq.refl ([⟨0, [1], []⟩, ⟨1, [1], []⟩, ⟨2, [2], []⟩, ⟨3, [2], []⟩, ⟨4, [1], []⟩, ⟨5, [1], []⟩, ⟨6, [1], []⟩, ⟨7, [1], []⟩, ⟨8, [1], []⟩, ⟨9, [1], []⟩, ⟨10, [2], []⟩, ⟨11, [2], []⟩, ⟨12, [], []⟩, ⟨13, [], []⟩, ⟨14, [], []⟩, ⟨15, [], []⟩, ⟨16, [0], [0]⟩] : List Foot)) True.intro)))))))))))))
            · skip
              cases h
          · skip
            cases h
    | e1 l421 z422 z423 =>
      obtain ⟨b424, rfl⟩ := hr1
      rcases ite_eq h with ⟨h2, h⟩ | ⟨h2, h⟩
      · skip
        obtain ⟨e425, h3, h⟩ := Option.bind_eq_some_iff.mp h
        cases h
        exact call_pathL (gs := [.f, .lp (VX.exit 0) (s15v1_0_1 l421 z422 z423 b424), .t, .a, .el (W33.cells e425), .a]) (notIn []) rfl rfl (by kernel_rfl) (And.intro (Bool.eq_false_iff.mpr h0) (And.intro h1 (And.intro h2 (And.intro (W33.dec_ok h3) True.intro))))
      · skip
        rcases ite_eq h with ⟨h3, h⟩ | ⟨h3, h⟩
        · skip
          rcases ite_eq h with ⟨h4, h⟩ | ⟨h4, h⟩
          · skip
            obtain ⟨e426, h5, h⟩ := Option.bind_eq_some_iff.mp h
            cases h
            exact call_pathL (gs := [.f, .lp (VX.exit 0) (s15v1_0_1 l421 z422 z423 b424), .f, .t, .t, .el (W33.cells e426), .a]) (notIn []) rfl rfl (by kernel_rfl) (And.intro (Bool.eq_false_iff.mpr h0) (And.intro h1 (And.intro (Bool.eq_false_iff.mpr h2) (And.intro h3 (And.intro (decide_eq_true h4) (And.intro (W33.dec_ok h5) True.intro))))))
          · skip
            cases h
        · skip
          rcases ite_eq h with ⟨h4, h⟩ | ⟨h4, h⟩
          · skip
            obtain ⟨e427, h5, h⟩ := Option.bind_eq_some_iff.mp h
            rcases ite_eq h with ⟨h6, h⟩ | ⟨h6, h⟩
            · skip
              obtain ⟨e428, h7, h⟩ := Option.bind_eq_some_iff.mp h
              obtain ⟨r8, h8, h⟩ := Option.bind_eq_some_iff.mp h
              have h8 := F35_ok (m + 3) (e427.c0) (e428.c0) (z422) r8 h8
              cases r8 with
              | a0 z429 =>
                obtain ⟨r9, h9, h⟩ := Option.bind_eq_some_iff.mp h
                have h9 := F34_ok (m + 0) (e427.c5) (e427.c6) (e427.c7) (e427.c8) (e427.c9) (z429) r9 h9
                cases r9 with
                | a0 z430 =>
                  obtain ⟨r10, h10, h⟩ := Option.bind_eq_some_iff.mp h
                  have h10 := F12_ok (m + 3) (e427.c1) (e427.c2) (e427.c3) (e427.c4) (e428.c1) (e428.c2) (e428.c3) (e428.c4) (z430) r10 h10
                  cases r10 with
                  | a0 z431 z432 z433 z434 =>
                    cases h
                    exact call_pathL (gs := [.f, .lp (VX.exit 0) (s15v1_0_1 l421 z422 z423 b424), .f, .f, .t, .el (W33.cells e427), .t, .el (W33.cells e428), .a, .a, .ft [⟨0, [], []⟩, ⟨1, [], []⟩, ⟨2, [], []⟩, ⟨3, [], []⟩, ⟨4, [], []⟩, ⟨5, [], []⟩, ⟨6, [], []⟩, ⟨7, [], []⟩, ⟨8, [], []⟩, ⟨9, [1], [1]⟩, ⟨10, [2], [2]⟩, ⟨11, [1], [1]⟩, ⟨12, [2], [2]⟩], .a, .a, .a, .a, .a, .a, .an (i64 z429) [], .an (i64 z430) [], .an (V.agg [u8 z431, u8 z432, u8 z433, u8 z434]) [], .a, .ft [⟨0, [1], []⟩, ⟨1, [1], []⟩, ⟨2, [2], []⟩, ⟨3, [2], []⟩, ⟨4, [1], []⟩, ⟨5, [1], []⟩, ⟨6, [1], []⟩, ⟨7, [1], []⟩, ⟨8, [1], []⟩, ⟨9, [1], []⟩, ⟨10, [2], []⟩, ⟨11, [2], []⟩, ⟨12, [], []⟩, ⟨13, [], []⟩, ⟨14, [], []⟩, ⟨15, [], []⟩, ⟨16, [0], [0]⟩]]) (notIn []) rfl rfl (by kernel_rfl) (And.intro (Bool.eq_false_iff.mpr h0) (And.intro h1 (And.intro (Bool.eq_false_iff.mpr h2) (And.intro (Bool.eq_false_iff.mpr h3) (And.intro (decide_eq_true h4) (And.intro (W33.dec_ok h5) (And.intro (decide_eq_true h6) (And.intro (W33.dec_ok h7) (And.intro (Eq.refl ([⟨0, [], []⟩, ⟨1, [], []⟩, ⟨2, [], []⟩, ⟨3, [], []⟩, ⟨4, [], []⟩, ⟨5, [], []⟩, ⟨6, [], []⟩, ⟨7, [], []⟩, ⟨8, [], []⟩, ⟨9, [1], [1]⟩, ⟨10, [2], [2]⟩, ⟨11, [1], [1]⟩, ⟨12, [2], [2]⟩] : List Foot)) (And.intro h8 (And.intro h9 (And.intro h10 (And.intro (Eq.refl ([⟨0, [1], []⟩, ⟨1, [1], []⟩, ⟨2, [2], []⟩, ⟨3, [2], []⟩, ⟨4, [1], []⟩, ⟨5, [1], []⟩, ⟨6, [1], []⟩, ⟨7, [1], []⟩, ⟨8, [1], []⟩, ⟨9, [1], []⟩, ⟨10, [2], []⟩, ⟨11, [2], []⟩, ⟨12, [], []⟩, ⟨13, [], []⟩, ⟨14, [], []⟩, ⟨15, [], []⟩, ⟨16, [0], [0]⟩] : List Foot)) True.intro)))))))))))))
            · skip
              cases h
          · skip
            cases h
/-! ## 95 -/
def F95 (z521 : Int) (z522 : Int) (z523 : Int) : Bool :=
  if z521 ≥ z522 then
   decide (z521 ≤ z523)
  else
   false
theorem F95_ok (m : Nat) (z521 : Int) (z522 : Int) (z523 : Int) (b526 : Bool) (h : F95 z521 z522 z523 = b526) : call Try.prog X O0 100000 (m + 1) 95 ([i64 z521, i64 z522, i64 z523]) ([]) = some (vb b526, []) := by
  unfold F95 at h
  rcases ite_eq h with ⟨h0, h⟩ | ⟨h0, h⟩
  · skip
    subst h
    exact call_pathL (gs := [.t, .t, .t, .t]) (notIn []) rfl rfl (by kernel_rfl) (And.intro (decide_eq_true h0) (And.intro (decide_eq_true h0) (And.intro (decide_eq_true h0) (And.intro (decide_eq_true h0) True.intro))))
  · skip
    subst h
    exact call_pathL (gs := [.f, .f, .f, .f]) (notIn []) rfl rfl (by kernel_rfl) (And.intro (decide_eq_false h0) (And.intro (decide_eq_false h0) (And.intro (decide_eq_false h0) (And.intro (decide_eq_false h0) True.intro))))
/-! ## 67 -/
def F67 (z516 : Int) (z517 : Int) (z518 : Int) (z519 : Int) : Bool :=
  bnd (F95 (z516) (0) (65536)) fun b527 =>
  if (b527) = true then
   bnd (F95 (z518) (0) (65536)) fun b528 =>
   if (b528) = true then
    bnd (F95 (z517) (-131072) (196608)) fun b529 =>
    if (b529) = true then
     bnd (F95 (z519) (-131072) (196608)) fun b530 =>
     b530
    else
     false
   else
    false
  else
   false
theorem F67_ok (m : Nat) (z516 : Int) (z517 : Int) (z518 : Int) (z519 : Int) (b532 : Bool) (h : F67 z516 z517 z518 z519 = b532) : call Try.prog X O0 100000 (m + 2) 67 ([V.agg [i64 z516, i64 z517, i64 z518, i64 z519]]) ([]) = some (vb b532, []) := by
  unfold F67 at h
  obtain ⟨b527, h0, h⟩ := bnd_eq h
  rcases ite_eq h with ⟨h1, h⟩ | ⟨h1, h⟩
  · skip
    obtain ⟨b528, h2, h⟩ := bnd_eq h
    rcases ite_eq h with ⟨h3, h⟩ | ⟨h3, h⟩
    · skip
      obtain ⟨b529, h4, h⟩ := bnd_eq h
      rcases ite_eq h with ⟨h5, h⟩ | ⟨h5, h⟩
      · skip
        obtain ⟨b530, h6, h⟩ := bnd_eq h
        subst h
        exact call_pathL (gs := [.a, .an (vb b527) [], .t, .t, .t, .a, .t, .an (vb b528) [], .t, .t, .t, .t, .a, .t, .an (vb b529) [], .t, .t, .t, .t, .a, .t, .an (vb b530) [], .t]) (notIn []) rfl rfl (by kernel_rfl) (And.intro (F95_ok (m + 0) (z516) (0) (65536) b527 h0) (And.intro h1 (And.intro h1 (And.intro h1 (And.intro h1 (And.intro (F95_ok (m + 0) (z518) (0) (65536) b528 h2) (And.intro h1 (And.intro h3 (And.intro h3 (And.intro h3 (And.intro h3 (And.intro (F95_ok (m + 0) (z517) (-131072) (196608) b529 h4) (And.intro h3 (And.intro h5 (And.intro h5 (And.intro h5 (And.intro h5 (And.intro (F95_ok (m + 0) (z519) (-131072) (196608) b530 h6) (And.intro h5 True.intro)))))))))))))))))))
      · skip
        subst h
        exact call_pathL (gs := [.a, .an (vb b527) [], .t, .t, .t, .a, .t, .an (vb b528) [], .t, .t, .t, .t, .a, .t, .an (vb b529) [], .t, .f, .f, .f, .f, .f]) (notIn []) rfl rfl (by kernel_rfl) (And.intro (F95_ok (m + 0) (z516) (0) (65536) b527 h0) (And.intro h1 (And.intro h1 (And.intro h1 (And.intro h1 (And.intro (F95_ok (m + 0) (z518) (0) (65536) b528 h2) (And.intro h1 (And.intro h3 (And.intro h3 (And.intro h3 (And.intro h3 (And.intro (F95_ok (m + 0) (z517) (-131072) (196608) b529 h4) (And.intro h3 (And.intro (Bool.eq_false_iff.mpr h5) (And.intro (Bool.eq_false_iff.mpr h5) (And.intro (Bool.eq_false_iff.mpr h5) (And.intro (Bool.eq_false_iff.mpr h5) (And.intro (Bool.eq_false_iff.mpr h5) True.intro))))))))))))))))))
    · skip
      subst h
      exact call_pathL (gs := [.a, .an (vb b527) [], .t, .t, .t, .a, .t, .an (vb b528) [], .t, .f, .f, .f, .f, .f, .a, .a, .a, .a, .a]) (notIn []) rfl rfl (by kernel_rfl) (And.intro (F95_ok (m + 0) (z516) (0) (65536) b527 h0) (And.intro h1 (And.intro h1 (And.intro h1 (And.intro h1 (And.intro (F95_ok (m + 0) (z518) (0) (65536) b528 h2) (And.intro h1 (And.intro (Bool.eq_false_iff.mpr h3) (And.intro (Bool.eq_false_iff.mpr h3) (And.intro (Bool.eq_false_iff.mpr h3) (And.intro (Bool.eq_false_iff.mpr h3) (And.intro (Bool.eq_false_iff.mpr h3) True.intro))))))))))))
  · skip
    subst h
    exact call_pathL (gs := [.a, .an (vb b527) [], .f, .f, .f, .f, .f, .a, .a, .a, .a, .a, .a, .a, .a, .a, .a]) (notIn []) rfl rfl (by kernel_rfl) (And.intro (F95_ok (m + 0) (z516) (0) (65536) b527 h0) (And.intro (Bool.eq_false_iff.mpr h1) (And.intro (Bool.eq_false_iff.mpr h1) (And.intro (Bool.eq_false_iff.mpr h1) (And.intro (Bool.eq_false_iff.mpr h1) (And.intro (Bool.eq_false_iff.mpr h1) True.intro))))))
/-! ## 36 -/
def F36 (z506 : Int) (z507 : Int) (z508 : Int) (z509 : Int) (z510 : Int) (z511 : Int) (z512 : Int) (z513 : Int) : Bool :=
  if z508 < -1073741824 then
   false
  else
   if z508 > 1073741824 then
    false
   else
    if z506 > 0 then
     if z508 ≤ z507 then
      false
     else
      if (z509 == 2) = true then
       bnd (F67 (z510) (z511) (z512) (z513)) fun b533 =>
       b533
      else
       if (z509 == 0) = true then
        z510 == 0 && (z511 == 0 && (z512 == 0 && (z513 == 0 && true)))
       else
        if (z509 == 1) = true then
         z510 == 0 && (z511 == 0 && (z512 == 0 && (z513 == 0 && true)))
        else
         false
    else
     if (z509 == 2) = true then
      bnd (F67 (z510) (z511) (z512) (z513)) fun b534 =>
      b534
     else
      if (z509 == 0) = true then
       z510 == 0 && (z511 == 0 && (z512 == 0 && (z513 == 0 && true)))
      else
       if (z509 == 1) = true then
        z510 == 0 && (z511 == 0 && (z512 == 0 && (z513 == 0 && true)))
       else
        false
theorem F36_ok (m : Nat) (z506 : Int) (z507 : Int) (z508 : Int) (z509 : Int) (z510 : Int) (z511 : Int) (z512 : Int) (z513 : Int) (b535 : Bool) (h : F36 z506 z507 z508 z509 z510 z511 z512 z513 = b535) : call Try.prog X O0 100000 (m + 3) 36 ([i64 z506, i64 z507, i64 z508, i64 z509, V.agg [i64 z510, i64 z511, i64 z512, i64 z513]]) ([]) = some (vb b535, []) := by
  unfold F36 at h
  rcases ite_eq h with ⟨h0, h⟩ | ⟨h0, h⟩
  · skip
    subst h
    exact call_pathL (gs := [.t, .t, .t, .a, .a, .a, .a, .a, .a]) (notIn []) rfl rfl (by kernel_rfl) (And.intro (decide_eq_true h0) (And.intro (decide_eq_true h0) (And.intro (decide_eq_true h0) True.intro)))
  · skip
    rcases ite_eq h with ⟨h1, h⟩ | ⟨h1, h⟩
    · skip
      subst h
      exact call_pathL (gs := [.f, .f, .f, .t, .t, .t, .t, .t, .a]) (notIn []) rfl rfl (by kernel_rfl) (And.intro (decide_eq_false h0) (And.intro (decide_eq_false h0) (And.intro (decide_eq_false h0) (And.intro (decide_eq_true h1) (And.intro (decide_eq_true h1) (And.intro (decide_eq_true h1) (And.intro (decide_eq_true h1) (And.intro (decide_eq_true h1) True.intro))))))))
    · skip
      rcases ite_eq h with ⟨h2, h⟩ | ⟨h2, h⟩
      · skip
        rcases ite_eq h with ⟨h3, h⟩ | ⟨h3, h⟩
        · skip
          subst h
          exact call_pathL (gs := [.f, .f, .f, .f, .f, .f, .t, .t, .t, .f, .t, .f, .t]) (notIn []) rfl rfl (by kernel_rfl) (And.intro (decide_eq_false h0) (And.intro (decide_eq_false h0) (And.intro (decide_eq_false h0) (And.intro (decide_eq_false h1) (And.intro (decide_eq_false h1) (And.intro (decide_eq_false h1) (And.intro (decide_eq_true h2) (And.intro (decide_eq_true h2) (And.intro (decide_eq_true h2) (And.intro (decide_eq_false h1) (And.intro (decide_eq_true h2) (And.intro (decide_eq_false h1) (And.intro (decide_eq_true h3) True.intro)))))))))))))
        · skip
          rcases ite_eq h with ⟨h4, h⟩ | ⟨h4, h⟩
          · skip
            obtain ⟨b533, h5, h⟩ := bnd_eq h
            subst h
            exact call_pathL (gs := [.f, .f, .f, .f, .f, .f, .t, .t, .t, .f, .t, .f, .f, .t, .a, .an (vb b533) []]) (notIn []) rfl rfl (by kernel_rfl) (And.intro (decide_eq_false h0) (And.intro (decide_eq_false h0) (And.intro (decide_eq_false h0) (And.intro (decide_eq_false h1) (And.intro (decide_eq_false h1) (And.intro (decide_eq_false h1) (And.intro (decide_eq_true h2) (And.intro (decide_eq_true h2) (And.intro (decide_eq_true h2) (And.intro (decide_eq_false h1) (And.intro (decide_eq_true h2) (And.intro (decide_eq_false h1) (And.intro (decide_eq_false h3) (And.intro h4 (And.intro (F67_ok (m + 0) (z510) (z511) (z512) (z513) b533 h5) True.intro)))))))))))))))
          · skip
            rcases ite_eq h with ⟨h5, h⟩ | ⟨h5, h⟩
            · skip
              subst h
              exact call_pathL (gs := [.f, .f, .f, .f, .f, .f, .t, .t, .t, .f, .t, .f, .f, .f, .t, .t, .t, .a, .a, .a, .a, .a]) (notIn []) rfl rfl (by kernel_rfl) (And.intro (decide_eq_false h0) (And.intro (decide_eq_false h0) (And.intro (decide_eq_false h0) (And.intro (decide_eq_false h1) (And.intro (decide_eq_false h1) (And.intro (decide_eq_false h1) (And.intro (decide_eq_true h2) (And.intro (decide_eq_true h2) (And.intro (decide_eq_true h2) (And.intro (decide_eq_false h1) (And.intro (decide_eq_true h2) (And.intro (decide_eq_false h1) (And.intro (decide_eq_false h3) (And.intro (Bool.eq_false_iff.mpr h4) (And.intro h5 (And.intro h5 (And.intro h5 True.intro)))))))))))))))))
            · skip
              rcases ite_eq h with ⟨h6, h⟩ | ⟨h6, h⟩
              · skip
                subst h
                exact call_pathL (gs := [.f, .f, .f, .f, .f, .f, .t, .t, .t, .f, .t, .f, .f, .f, .f, .f, .f, .t, .a, .t, .t, .t]) (notIn []) rfl rfl (by kernel_rfl) (And.intro (decide_eq_false h0) (And.intro (decide_eq_false h0) (And.intro (decide_eq_false h0) (And.intro (decide_eq_false h1) (And.intro (decide_eq_false h1) (And.intro (decide_eq_false h1) (And.intro (decide_eq_true h2) (And.intro (decide_eq_true h2) (And.intro (decide_eq_true h2) (And.intro (decide_eq_false h1) (And.intro (decide_eq_true h2) (And.intro (decide_eq_false h1) (And.intro (decide_eq_false h3) (And.intro (Bool.eq_false_iff.mpr h4) (And.intro (Bool.eq_false_iff.mpr h5) (And.intro (Bool.eq_false_iff.mpr h5) (And.intro (Bool.eq_false_iff.mpr h5) (And.intro h6 (And.intro h6 (And.intro h6 (And.intro h6 True.intro)))))))))))))))))))))
              · skip
                subst h
                exact call_pathL (gs := [.f, .f, .f, .f, .f, .f, .t, .t, .t, .f, .t, .f, .f, .f, .f, .f, .f, .f, .f, .f, .f]) (notIn []) rfl rfl (by kernel_rfl) (And.intro (decide_eq_false h0) (And.intro (decide_eq_false h0) (And.intro (decide_eq_false h0) (And.intro (decide_eq_false h1) (And.intro (decide_eq_false h1) (And.intro (decide_eq_false h1) (And.intro (decide_eq_true h2) (And.intro (decide_eq_true h2) (And.intro (decide_eq_true h2) (And.intro (decide_eq_false h1) (And.intro (decide_eq_true h2) (And.intro (decide_eq_false h1) (And.intro (decide_eq_false h3) (And.intro (Bool.eq_false_iff.mpr h4) (And.intro (Bool.eq_false_iff.mpr h5) (And.intro (Bool.eq_false_iff.mpr h5) (And.intro (Bool.eq_false_iff.mpr h5) (And.intro (Bool.eq_false_iff.mpr h6) (And.intro (Bool.eq_false_iff.mpr h6) (And.intro (Bool.eq_false_iff.mpr h6) (And.intro (Bool.eq_false_iff.mpr h6) True.intro)))))))))))))))))))))
      · skip
        rcases ite_eq h with ⟨h3, h⟩ | ⟨h3, h⟩
        · skip
          obtain ⟨b534, h4, h⟩ := bnd_eq h
          subst h
          exact call_pathL (gs := [.f, .f, .f, .f, .f, .f, .f, .f, .f, .f, .f, .f, .a, .t, .a, .an (vb b534) []]) (notIn []) rfl rfl (by kernel_rfl) (And.intro (decide_eq_false h0) (And.intro (decide_eq_false h0) (And.intro (decide_eq_false h0) (And.intro (decide_eq_false h1) (And.intro (decide_eq_false h1) (And.intro (decide_eq_false h1) (And.intro (decide_eq_false h2) (And.intro (decide_eq_false h2) (And.intro (decide_eq_false h2) (And.intro (decide_eq_false h1) (And.intro (decide_eq_false h2) (And.intro (decide_eq_false h1) (And.intro h3 (And.intro (F67_ok (m + 0) (z510) (z511) (z512) (z513) b534 h4) True.intro))))))))))))))
        · skip
          rcases ite_eq h with ⟨h4, h⟩ | ⟨h4, h⟩
          · skip
            subst h
            exact call_pathL (gs := [.f, .f, .f, .f, .f, .f, .f, .f, .f, .f, .f, .f, .a, .f, .t, .t, .t, .a, .a, .a, .a, .a]) (notIn []) rfl rfl (by kernel_rfl) (And.intro (decide_eq_false h0) (And.intro (decide_eq_false h0) (And.intro (decide_eq_false h0) (And.intro (decide_eq_false h1) (And.intro (decide_eq_false h1) (And.intro (decide_eq_false h1) (And.intro (decide_eq_false h2) (And.intro (decide_eq_false h2) (And.intro (decide_eq_false h2) (And.intro (decide_eq_false h1) (And.intro (decide_eq_false h2) (And.intro (decide_eq_false h1) (And.intro (Bool.eq_false_iff.mpr h3) (And.intro h4 (And.intro h4 (And.intro h4 True.intro))))))))))))))))
          · skip
            rcases ite_eq h with ⟨h5, h⟩ | ⟨h5, h⟩
            · skip
              subst h
              exact call_pathL (gs := [.f, .f, .f, .f, .f, .f, .f, .f, .f, .f, .f, .f, .a, .f, .f, .f, .f, .t, .a, .t, .t, .t]) (notIn []) rfl rfl (by kernel_rfl) (And.intro (decide_eq_false h0) (And.intro (decide_eq_false h0) (And.intro (decide_eq_false h0) (And.intro (decide_eq_false h1) (And.intro (decide_eq_false h1) (And.intro (decide_eq_false h1) (And.intro (decide_eq_false h2) (And.intro (decide_eq_false h2) (And.intro (decide_eq_false h2) (And.intro (decide_eq_false h1) (And.intro (decide_eq_false h2) (And.intro (decide_eq_false h1) (And.intro (Bool.eq_false_iff.mpr h3) (And.intro (Bool.eq_false_iff.mpr h4) (And.intro (Bool.eq_false_iff.mpr h4) (And.intro (Bool.eq_false_iff.mpr h4) (And.intro h5 (And.intro h5 (And.intro h5 (And.intro h5 True.intro))))))))))))))))))))
            · skip
              subst h
              exact call_pathL (gs := [.f, .f, .f, .f, .f, .f, .f, .f, .f, .f, .f, .f, .a, .f, .f, .f, .f, .f, .f, .f, .f]) (notIn []) rfl rfl (by kernel_rfl) (And.intro (decide_eq_false h0) (And.intro (decide_eq_false h0) (And.intro (decide_eq_false h0) (And.intro (decide_eq_false h1) (And.intro (decide_eq_false h1) (And.intro (decide_eq_false h1) (And.intro (decide_eq_false h2) (And.intro (decide_eq_false h2) (And.intro (decide_eq_false h2) (And.intro (decide_eq_false h1) (And.intro (decide_eq_false h2) (And.intro (decide_eq_false h1) (And.intro (Bool.eq_false_iff.mpr h3) (And.intro (Bool.eq_false_iff.mpr h4) (And.intro (Bool.eq_false_iff.mpr h4) (And.intro (Bool.eq_false_iff.mpr h4) (And.intro (Bool.eq_false_iff.mpr h5) (And.intro (Bool.eq_false_iff.mpr h5) (And.intro (Bool.eq_false_iff.mpr h5) (And.intro (Bool.eq_false_iff.mpr h5) True.intro))))))))))))))))))))
/-! ## 16 -/
noncomputable abbrev B16v1 : Code := (Try.f16.body).getD .skip
inductive R16v1_0 where
  | e0
  | e1 (l597 : List (List V))
@[reducible] def s16v1_0_0 (l580 : List (List V)) (z581 : Int) (z582 : Int) (z583 : Int) (b584 : Bool) (z585 : Int) (z586 : Int) (z587 : Int) (z588 : Int) (z589 : Int) (z590 : Int) (z591 : Int) (z592 : Int) (z593 : Int) (z594 : Int) (b595 : Bool) (b596 : Bool) : S := { T := V.list 10 l580 :: U :: vb false :: i64 z581 :: i64 z582 :: V.ptr 0 0 0 :: V.list 10 l580 :: i64 z583 :: i64 z582 :: vb b584 :: i64 z582 :: V.pp [i64 z585, u8 z586, u8 z587, u8 z588, u8 z589, i64 z590, i64 z591, i64 z592, i64 z593, i64 z594] :: V.agg [i64 z585, u8 z586, u8 z587, u8 z588, u8 z589, i64 z590, i64 z591, i64 z592, i64 z593, i64 z594] :: i64 z582 :: i64 z581 :: V.ptr 0 0 0 :: i64 z585 :: V.ptr 0 0 5 :: i64 z590 :: V.ptr 0 0 6 :: V.agg [i64 z591, i64 z592, i64 z593, i64 z594] :: vb b595 :: vb b596 :: un 6 [], σ := [Ob.cells true false 10 [[i64 z585, u8 z586, u8 z587, u8 z588, u8 z589, i64 z590, i64 z591, i64 z592, i64 z593, i64 z594]]] }
@[reducible] def s16v1_0_1 (l597 : List (List V)) (z598 : Int) (z599 : Int) (z600 : Int) (b601 : Bool) : S := { T := V.list 10 l597 :: U :: U :: i64 z598 :: U :: U :: V.list 10 l597 :: i64 z599 :: i64 z600 :: vb b601 :: un 19 [], σ := [] }
def R16v1_0.St : R16v1_0 → VX × S → Prop
  | .e0, p => ∃ l580 : List (List V), ∃ z581 : Int, ∃ z582 : Int, ∃ z583 : Int, ∃ b584 : Bool, ∃ z585 : Int, ∃ z586 : Int, ∃ z587 : Int, ∃ z588 : Int, ∃ z589 : Int, ∃ z590 : Int, ∃ z591 : Int, ∃ z592 : Int, ∃ z593 : Int, ∃ z594 : Int, ∃ b595 : Bool, ∃ b596 : Bool, p = (VX.ret, s16v1_0_0 l580 z581 z582 z583 b584 z585 z586 z587 z588 z589 z590 z591 z592 z593 z594 b595 b596)
  | .e1 l597, p => ∃ z598 : Int, ∃ z599 : Int, ∃ z600 : Int, ∃ b601 : Bool, p = (VX.exit 0, s16v1_0_1 l597 z598 z599 z600 b601)
def L16v1_0 : Nat → List (List V) → Int → Int → Int → Option R16v1_0
  | 0, _, _, _, _ => none
  | n + 1, l552, z553, z554, z555 =>
    if z555 < z554 then
     if 0 ≤ z555 then
      ((l552[Int.toNat z555]?).bind W33.dec).bind fun e578 =>
      bnd (F36 (z555) (z553) (e578.c0) (e578.c5) (e578.c6) (e578.c7) (e578.c8) (e578.c9)) fun b579 =>
      if (!b579) = true then
       some (R16v1_0.e0)
      else
       L16v1_0 n (l552) (e578.c0) (z554) (w64 (z555 + 1))
     else
      none -- none
    else
     some (R16v1_0.e1 (l552))
theorem L16v1_0_ok (m : Nat) : ∀ (n : Nat) (l552 : List (List V)) (z553 : Int) (z554 : Int) (z555 : Int) (r : R16v1_0), L16v1_0 n l552 z553 z554 z555 = some r → ∃ st, loopFrom Try.prog X (call Try.prog X O0 100000 (m + 3)) 16 (0) 100000 B16v1 0 n ({ T := V.list 10 l552 :: U :: U :: i64 z553 :: U :: U :: V.list 10 l552 :: i64 z554 :: i64 z555 :: un 20 [], σ := [] }) = some st ∧ r.St st
  | 0, _, _, _, _, r, h => by cases h
  | n + 1, l552, z553, z554, z555, r, h => by
    rw [L16v1_0] at h
    rcases ite_eq h with ⟨h0, h⟩ | ⟨h0, h⟩
    · skip
      rcases ite_eq h with ⟨h1, h⟩ | ⟨h1, h⟩
      · skip
        obtain ⟨e578, h2, h⟩ := Option.bind_eq_some_iff.mp h
        obtain ⟨b579, h3, h⟩ := bnd_eq h
        rcases ite_eq h with ⟨h4, h⟩ | ⟨h4, h⟩
        · skip
          cases h
          exact ⟨_, round_out (gs := [.t, .t, .el (W33.cells e578), .a, .a, .a, .a, .an (vb b579) [], .t]) (notIn []) (by kernel_rfl) rfl (And.intro (decide_eq_true h0) (And.intro (decide_eq_true h1) (And.intro (W33.dec_ok h2) (And.intro (F36_ok (m + 0) (z555) (z553) (e578.c0) (e578.c5) (e578.c6) (e578.c7) (e578.c8) (e578.c9) b579 h3) (And.intro h4 True.intro))))) n, l552, z553, z555, z554, decide (z555 < z554), e578.c0, e578.c1, e578.c2, e578.c3, e578.c4, e578.c5, e578.c6, e578.c7, e578.c8, e578.c9, b579, !b579, rfl⟩
        · skip
          obtain ⟨st, hs, hr⟩ := L16v1_0_ok m n (l552) (e578.c0) (z554) (w64 (z555 + 1)) r h
          exact ⟨st, (round_on (gs := [.t, .t, .el (W33.cells e578), .a, .a, .a, .a, .an (vb b579) [], .f, .a]) (notIn []) (by kernel_rfl) (And.intro (decide_eq_true h0) (And.intro (decide_eq_true h1) (And.intro (W33.dec_ok h2) (And.intro (F36_ok (m + 0) (z555) (z553) (e578.c0) (e578.c5) (e578.c6) (e578.c7) (e578.c8) (e578.c9) b579 h3) (And.intro (Bool.eq_false_iff.mpr h4) True.intro))))) n).trans hs, hr⟩
      · skip
        cases h
    · skip
      cases h
      exact ⟨_, round_out (gs := [.f]) (notIn []) (by kernel_rfl) rfl (And.intro (decide_eq_false h0) True.intro) n, z553, z554, z555, decide (z555 < z554), rfl⟩
inductive A16v1 where
  | a0 (b619 : Bool)
@[reducible] def A16v1.out : A16v1 → V × Store
  | .a0 b619 => (vb b619, [])
def F16v1 (l501 : List (List V)) : Option A16v1 :=
  (L16v1_0 100000 (l501) (0) ((↑(List.length l501) : Int)) (0)).bind fun r => match r with
  | .e0 =>
   some (A16v1.a0 (false))
  | .e1 l620 =>
   some (A16v1.a0 (decide ((↑(List.length l620) : Int) ≤ 32)))
theorem F16v1_ok (m : Nat) (l501 : List (List V)) (r : A16v1) (h : F16v1 l501 = some r) : call Try.prog X O0 100000 (m + 4) 16 ([V.list 10 l501]) ([]) = some r.out := by
  unfold F16v1 at h
  obtain ⟨r0, h0, h⟩ := Option.bind_eq_some_iff.mp h
  obtain ⟨st0, h0, hr0⟩ := L16v1_0_ok m 100000 (l501) (0) ((↑(List.length l501) : Int)) (0) r0 h0
  have h0 : loopRun Try.prog X (call Try.prog X O0 100000 (m + 3)) 16 (0) 100000 B16v1 0 ({ T := V.list 10 l501 :: U :: vb false :: i64 0 :: U :: U :: V.list 10 l501 :: i64 (↑(List.length l501) : Int) :: i64 0 :: un 20 [], σ := [] }) = some st0 := by
    rw [loopRun_from, show prep (0) (X.keep 16 0) ({ T := V.list 10 l501 :: U :: vb false :: i64 0 :: U :: U :: V.list 10 l501 :: i64 (↑(List.length l501) : Int) :: i64 0 :: un 20 [], σ := [] }) = { T := V.list 10 l501 :: U :: U :: i64 0 :: U :: U :: V.list 10 l501 :: i64 (↑(List.length l501) : Int) :: i64 0 :: un 20 [], σ := [] } by kernel_rfl]
    exact h0
  cases r0 with
  | e0 =>
    obtain ⟨l602, z603, z604, z605, b606, z607, z608, z609, z610, z611, z612, z613, z614, z615, z616, b617, b618, rfl⟩ := hr0
    cases h
    exact call_pathL (gs := [.lp (VX.ret) (s16v1_0_0 l602 z603 z604 z605 b606 z607 z608 z609 z610 z611 z612 z613 z614 z615 z616 b617 b618)]) (notIn []) rfl rfl (by kernel_rfl) (And.intro h0 True.intro)
  | e1 l620 =>
    obtain ⟨z621, z622, z623, b624, rfl⟩ := hr0
    cases h
    exact call_pathL (gs := [.lp (VX.exit 0) (s16v1_0_1 l620 z621 z622 z623 b624)]) (notIn []) rfl rfl (by kernel_rfl) (And.intro h0 True.intro)
/-! ## 4 -/
noncomputable abbrev B4 : Code := (Try.f4.body).getD .skip
inductive R4_2 where
  | e0
  | e1
  | e2 (z666 : Int) (k667 : Nat) (l671 : List (List V))
@[reducible] def s4_2_0 (z642 : Int) : S := { T := U :: i64 z642 :: U :: U :: U :: V.nilS :: un 26 (i64 0 :: i64 0 :: vb false :: un 75 []), σ := [] }
@[reducible] def s4_2_1 (z649 : Int) (k650 : Nat) (z651 : Int) (z652 : Int) (b653 : Bool) (k654 : Nat) (z655 : Int) (z656 : Int) (z657 : Int) (z658 : Int) (z659 : Int) (z660 : Int) (z661 : Int) (z662 : Int) (z663 : Int) (b664 : Bool) (l665 : List (List V)) : S := { T := U :: i64 z649 :: U :: U :: vb false :: V.hs 0 0 k650 :: U :: i64 z651 :: un 24 (i64 z652 :: i64 z651 :: vb b653 :: i64 z651 :: V.hs 0 0 k650 :: V.hs 0 0 k650 :: i64 z651 :: V.ptr 0 k654 0 :: V.ptr 0 k654 0 :: i64 z655 :: V.agg [u8 0, u8 0, u8 0, u8 0] :: V.agg [u8 z656, u8 z657, u8 z658, u8 z659] :: V.hs 0 0 k650 :: i64 z651 :: V.ptr 0 k654 0 :: V.ptr 0 k654 1 :: V.agg [u8 z660, u8 z661, u8 z662, u8 z663] :: vb b664 :: un 60 []), σ := [Ob.cells true true 10 l665] }
@[reducible] def s4_2_2 (z666 : Int) (k667 : Nat) (z668 : Int) (z669 : Int) (b670 : Bool) (l671 : List (List V)) : S := { T := U :: i64 z666 :: U :: U :: U :: V.hs 0 0 k667 :: un 26 (i64 z668 :: i64 z669 :: vb b670 :: un 75 []), σ := [Ob.cells true true 10 l671] }
def R4_2.St : R4_2 → VX × S → Prop
  | .e0, p => ∃ z642 : Int, p = (VX.exit 2, s4_2_0 z642)
  | .e1, p => ∃ z649 : Int, ∃ k650 : Nat, ∃ z651 : Int, ∃ z652 : Int, ∃ b653 : Bool, ∃ k654 : Nat, ∃ z655 : Int, ∃ z656 : Int, ∃ z657 : Int, ∃ z658 : Int, ∃ z659 : Int, ∃ z660 : Int, ∃ z661 : Int, ∃ z662 : Int, ∃ z663 : Int, ∃ b664 : Bool, ∃ l665 : List (List V), p = (VX.ret, s4_2_1 z649 k650 z651 z652 b653 k654 z655 z656 z657 z658 z659 z660 z661 z662 z663 b664 l665)
  | .e2 z666 k667 l671, p => ∃ z668 : Int, ∃ z669 : Int, ∃ b670 : Bool, p = (VX.exit 2, s4_2_2 z666 k667 z668 z669 b670 l671)
def L4_2 : Nat → Int → Option R4_2
  | 0, _ => none
  | n + 1, z77 =>
    some (R4_2.e0)
theorem L4_2_ok (m : Nat) : ∀ (n : Nat) (z77 : Int) (r : R4_2), L4_2 n z77 = some r → ∃ st, loopFrom Try.prog X (call Try.prog X O0 100000 (m + 7)) 4 (0) 100000 B4 2 n ({ T := U :: i64 z77 :: U :: U :: U :: V.nilS :: un 26 (i64 0 :: i64 0 :: un 76 []), σ := [] }) = some st ∧ r.St st
  | 0, _, r, h => by cases h
  | n + 1, z77, r, h => by
    rw [L4_2] at h
    cases h
    exact ⟨_, round_out (gs := [.a]) (notIn []) (by kernel_rfl) rfl True.intro n, z77, rfl⟩
def L4_2s1 : Nat → Int → Nat → Int → Int → List (List V) → Option R4_2
  | 0, _, _, _, _, _ => none
  | n + 1, z455, k456, z457, z458, l459 =>
    if z458 < z457 then
     if 0 ≤ z458 ∧ z458 < (↑k456 : Int) then
      ((l459[(0 : Nat) + Int.toNat z458]?).bind W33.dec).bind fun e643 =>
      if 0 + k456 ≤ List.length l459 then
       (F15v1 (List.take k456 l459) (e643.c0) (0) (0) (0) (0)).bind fun r => match r with
       | .a0 z644 z645 z646 z647 =>
        ((l459[(0 : Nat) + Int.toNat z458]?).bind W33.dec).bind fun e648 =>
        if (!(z644 == e648.c1 && (z645 == e648.c2 && (z646 == e648.c3 && (z647 == e648.c4 && true))))) = true then
         some (R4_2.e1)
        else
         L4_2s1 n (z455) (k456) (z457) (w64 (z458 + 1)) (l459)
      else
       none -- none
     else
      none -- none
    else
     some (R4_2.e2 (z455) (k456) (l459))
theorem L4_2s1_ok (m : Nat) : ∀ (n : Nat) (z455 : Int) (k456 : Nat) (z457 : Int) (z458 : Int) (l459 : List (List V)) (r : R4_2), L4_2s1 n z455 k456 z457 z458 l459 = some r → ∃ st, loopFrom Try.prog X (call Try.prog X O0 100000 (m + 7)) 4 (0) 100000 B4 2 n ({ T := U :: i64 z455 :: U :: U :: U :: V.hs 0 0 k456 :: un 26 (i64 z457 :: i64 z458 :: un 76 []), σ := [Ob.cells true true 10 l459] }) = some st ∧ r.St st
  | 0, _, _, _, _, _, r, h => by cases h
  | n + 1, z455, k456, z457, z458, l459, r, h => by
    rw [L4_2s1] at h
    rcases ite_eq h with ⟨h0, h⟩ | ⟨h0, h⟩
    · skip
      rcases ite_eq h with ⟨h1, h⟩ | ⟨h1, h⟩
      · skip
        obtain ⟨e643, h2, h⟩ := Option.bind_eq_some_iff.mp h
        rcases ite_eq h with ⟨h3, h⟩ | ⟨h3, h⟩
        · skip
          obtain ⟨r4, h4, h⟩ := Option.bind_eq_some_iff.mp h
          have h4 := F15v1_ok (m + 0) (List.take k456 l459) (e643.c0) (0) (0) (0) (0) r4 h4
          cases r4 with
          | a0 z644 z645 z646 z647 =>
            obtain ⟨e648, h5, h⟩ := Option.bind_eq_some_iff.mp h
            rcases ite_eq h with ⟨h6, h⟩ | ⟨h6, h⟩
            · skip
              cases h
              exact ⟨_, round_out (gs := [.t, .t, .el (W33.cells e643), .t, .an (V.agg [u8 z644, u8 z645, u8 z646, u8 z647]) [], .t, .el (W33.cells e648), .ft [⟨0, [], []⟩, ⟨1, [], []⟩, ⟨2, [], []⟩, ⟨3, [0], []⟩, ⟨4, [0], []⟩, ⟨5, [0], []⟩, ⟨6, [], []⟩, ⟨7, [0], []⟩, ⟨8, [], []⟩, ⟨9, [], []⟩, ⟨10, [0], []⟩, ⟨11, [0], []⟩, ⟨12, [0], []⟩, ⟨13, [], []⟩], .t]) (notIn []) (by kernel_rfl) rfl (And.intro (decide_eq_true h0) (And.intro (decide_eq_true h1) (And.intro (W33.dec_ok h2) (And.intro (decide_eq_true h3) (And.intro h4 (And.intro (decide_eq_true h1) (And.intro (W33.dec_ok h5) (And.intro (Eq.refl ([⟨0, [], []⟩, ⟨1, [], []⟩, ⟨2, [], []⟩, ⟨3, [0], []⟩, ⟨4, [0], []⟩, ⟨5, [0], []⟩, ⟨6, [], []⟩, ⟨7, [0], []⟩, ⟨8, [], []⟩, ⟨9, [], []⟩, ⟨10, [0], []⟩, ⟨11, [0], []⟩, ⟨12, [0], []⟩, ⟨13, [], []⟩] : List Foot)) (And.intro h6 True.intro))))))))) n, z455, k456, z458, z457, decide (z458 < z457), 0 + Int.toNat z458, e643.c0, z644, z645, z646, z647, e648.c1, e648.c2, e648.c3, e648.c4, !(z644 == e648.c1 && (z645 == e648.c2 && (z646 == e648.c3 && (z647 == e648.c4 && true)))), l459, rfl⟩
            · skip
              obtain ⟨st, hs, hr⟩ := L4_2s1_ok m n (z455) (k456) (z457) (w64 (z458 + 1)) (l459) r h
              exact ⟨st, (round_on (gs := [.t, .t, .el (W33.cells e643), .t, .an (V.agg [u8 z644, u8 z645, u8 z646, u8 z647]) [], .t, .el (W33.cells e648), .ft [⟨0, [], []⟩, ⟨1, [], []⟩, ⟨2, [], []⟩, ⟨3, [0], []⟩, ⟨4, [0], []⟩, ⟨5, [0], []⟩, ⟨6, [], []⟩, ⟨7, [0], []⟩, ⟨8, [], []⟩, ⟨9, [], []⟩, ⟨10, [0], []⟩, ⟨11, [0], []⟩, ⟨12, [0], []⟩, ⟨13, [], []⟩], .f]) (notIn []) (by kernel_rfl) (And.intro (decide_eq_true h0) (And.intro (decide_eq_true h1) (And.intro (W33.dec_ok h2) (And.intro (decide_eq_true h3) (And.intro h4 (And.intro (decide_eq_true h1) (And.intro (W33.dec_ok h5) (And.intro (Eq.refl ([⟨0, [], []⟩, ⟨1, [], []⟩, ⟨2, [], []⟩, ⟨3, [0], []⟩, ⟨4, [0], []⟩, ⟨5, [0], []⟩, ⟨6, [], []⟩, ⟨7, [0], []⟩, ⟨8, [], []⟩, ⟨9, [], []⟩, ⟨10, [0], []⟩, ⟨11, [0], []⟩, ⟨12, [0], []⟩, ⟨13, [], []⟩] : List Foot)) (And.intro (Bool.eq_false_iff.mpr h6) True.intro))))))))) n).trans hs, hr⟩
        · skip
          cases h
      · skip
        cases h
    · skip
      cases h
      exact ⟨_, round_out (gs := [.f]) (notIn []) (by kernel_rfl) rfl (And.intro (decide_eq_false h0) True.intro) n, z457, z458, decide (z458 < z457), rfl⟩
inductive R4_0 where
  | e0 (z631 : Int)
  | e1 (z635 : Int) (k636 : Nat) (l640 : List (List V))
@[reducible] def s4_0_0 (z631 : Int) : S := { T := U :: i64 z631 :: U :: U :: U :: V.nilS :: un 5 (i64 0 :: i64 0 :: vb false :: un 96 []), σ := [] }
@[reducible] def s4_0_1 (z635 : Int) (k636 : Nat) (z637 : Int) (z638 : Int) (b639 : Bool) (l640 : List (List V)) : S := { T := U :: i64 z635 :: U :: U :: U :: V.hs 0 0 k636 :: un 5 (i64 z637 :: i64 z638 :: vb b639 :: un 96 []), σ := [Ob.cells true true 10 l640] }
def R4_0.St : R4_0 → VX × S → Prop
  | .e0 z631, p => p = (VX.exit 0, s4_0_0 z631)
  | .e1 z635 k636 l640, p => ∃ z637 : Int, ∃ z638 : Int, ∃ b639 : Bool, p = (VX.exit 0, s4_0_1 z635 k636 z637 z638 b639 l640)
def L4_0 : Nat → Int → Option R4_0
  | 0, _ => none
  | n + 1, z74 =>
    some (R4_0.e0 (z74))
theorem L4_0_ok (m : Nat) : ∀ (n : Nat) (z74 : Int) (r : R4_0), L4_0 n z74 = some r → ∃ st, loopFrom Try.prog X (call Try.prog X O0 100000 (m + 7)) 4 (0) 100000 B4 0 n ({ T := U :: i64 z74 :: U :: U :: U :: V.nilS :: un 5 (i64 0 :: i64 0 :: un 97 []), σ := [] }) = some st ∧ r.St st
  | 0, _, r, h => by cases h
  | n + 1, z74, r, h => by
    rw [L4_0] at h
    cases h
    exact ⟨_, round_out (gs := [.a]) (notIn []) (by kernel_rfl) rfl True.intro n, rfl⟩
def L4_0s1 : Nat → Int → Nat → Int → Int → List (List V) → Option R4_0
  | 0, _, _, _, _, _ => none
  | n + 1, z155, k156, z157, z158, l159 =>
    if z158 < z157 then
     if 0 ≤ z158 ∧ z158 < (↑k156 : Int) then
      ((l159[(0 : Nat) + Int.toNat z158]?).bind W33.dec).bind fun e632 =>
      if (e632.c5 == 2) = true then
       ((l159[(0 : Nat) + Int.toNat z158]?).bind W33.dec).bind fun e633 =>
       (((List.set l159 ((0 : Nat) + Int.toNat z158) [i64 e633.c0, u8 e633.c1, u8 e633.c2, u8 e633.c3, u8 e633.c4, i64 (1 : Int), i64 e633.c6, i64 e633.c7, i64 e633.c8, i64 e633.c9])[(0 : Nat) + Int.toNat z158]?).bind W33.dec).bind fun e634 =>
       L4_0s1 n (z155) (k156) (z157) (w64 (z158 + 1)) (List.set (List.set l159 (0 + Int.toNat z158) [i64 e633.c0, u8 e633.c1, u8 e633.c2, u8 e633.c3, u8 e633.c4, i64 1, i64 e633.c6, i64 e633.c7, i64 e633.c8, i64 e633.c9]) (0 + Int.toNat z158) [i64 e634.c0, u8 e634.c1, u8 e634.c2, u8 e634.c3, u8 e634.c4, i64 e634.c5, i64 0, i64 0, i64 0, i64 0])
      else
       L4_0s1 n (z155) (k156) (z157) (w64 (z158 + 1)) (l159)
     else
      none -- none
    else
     some (R4_0.e1 (z155) (k156) (l159))
theorem L4_0s1_ok (m : Nat) : ∀ (n : Nat) (z155 : Int) (k156 : Nat) (z157 : Int) (z158 : Int) (l159 : List (List V)) (r : R4_0), L4_0s1 n z155 k156 z157 z158 l159 = some r → ∃ st, loopFrom Try.prog X (call Try.prog X O0 100000 (m + 7)) 4 (0) 100000 B4 0 n ({ T := U :: i64 z155 :: U :: U :: U :: V.hs 0 0 k156 :: un 5 (i64 z157 :: i64 z158 :: un 97 []), σ := [Ob.cells true true 10 l159] }) = some st ∧ r.St st
  | 0, _, _, _, _, _, r, h => by cases h
  | n + 1, z155, k156, z157, z158, l159, r, h => by
    rw [L4_0s1] at h
    rcases ite_eq h with ⟨h0, h⟩ | ⟨h0, h⟩
    · skip
      rcases ite_eq h with ⟨h1, h⟩ | ⟨h1, h⟩
      · skip
        obtain ⟨e632, h2, h⟩ := Option.bind_eq_some_iff.mp h
        rcases ite_eq h with ⟨h3, h⟩ | ⟨h3, h⟩
        · skip
          obtain ⟨e633, h4, h⟩ := Option.bind_eq_some_iff.mp h
          obtain ⟨e634, h5, h⟩ := Option.bind_eq_some_iff.mp h
          obtain ⟨st, hs, hr⟩ := L4_0s1_ok m n (z155) (k156) (z157) (w64 (z158 + 1)) (List.set (List.set l159 (0 + Int.toNat z158) [i64 e633.c0, u8 e633.c1, u8 e633.c2, u8 e633.c3, u8 e633.c4, i64 1, i64 e633.c6, i64 e633.c7, i64 e633.c8, i64 e633.c9]) (0 + Int.toNat z158) [i64 e634.c0, u8 e634.c1, u8 e634.c2, u8 e634.c3, u8 e634.c4, i64 e634.c5, i64 0, i64 0, i64 0, i64 0]) r h
          exact ⟨st, (round_on (gs := [.t, .t, .el (W33.cells e632), .t, .t, .el (W33.cells e633), .t, .el (W33.cells e634)]) (notIn []) (by kernel_rfl) (And.intro (decide_eq_true h0) (And.intro (decide_eq_true h1) (And.intro (W33.dec_ok h2) (And.intro h3 (And.intro (decide_eq_true h1) (And.intro (W33.dec_ok h4) (And.intro (decide_eq_true h1) (And.intro (W33.dec_ok h5) True.intro)))))))) n).trans hs, hr⟩
        · skip
          obtain ⟨st, hs, hr⟩ := L4_0s1_ok m n (z155) (k156) (z157) (w64 (z158 + 1)) (l159) r h
          exact ⟨st, (round_on (gs := [.t, .t, .el (W33.cells e632), .f]) (notIn []) (by kernel_rfl) (And.intro (decide_eq_true h0) (And.intro (decide_eq_true h1) (And.intro (W33.dec_ok h2) (And.intro (Bool.eq_false_iff.mpr h3) True.intro)))) n).trans hs, hr⟩
      · skip
        cases h
    · skip
      cases h
      exact ⟨_, round_out (gs := [.f]) (notIn []) (by kernel_rfl) rfl (And.intro (decide_eq_false h0) True.intro) n, z157, z158, decide (z158 < z157), rfl⟩
inductive A4 where
  | a0 (b676 : Bool)
@[reducible] def A4.out : A4 → V × Store
  | .a0 b676 => (vb b676, [])
def F4 (l0 : List (List V)) (z1 : Int) : Option A4 :=
  (F14 (l0)).bind fun r => match r with
  | .a0 =>
   (L4_0 100000 (z1)).bind fun r => match r with
   | .e0 z641 =>
    (L4_2 100000 (z641)).bind fun r => match r with
    | .e0 =>
     (F16).bind fun r => match r with
     | .a0 b673 =>
      if (b673 == true) = true then
       bnd (F17 (0) (0) (0) (0)) fun z674 =>
       if (z674 == 0) = true then
        (F13).bind fun r => match r with
        | .a0 b675 =>
         some (A4.a0 (b675))
       else
        none -- false
      else
       none -- false
    | .e1 =>
     none -- never
    | .e2 z694 k695 l699 =>
     none -- never
   | .e1 z700 k701 l705 =>
    none -- never
  | .a1 k706 l707 =>
   (L4_0s1 100000 (z1) (k706) ((↑k706 : Int)) (0) (l707)).bind fun r => match r with
   | .e0 z708 =>
    none -- never
   | .e1 z709 k710 l714 =>
    (L4_2s1 100000 (z709) (k710) ((↑k710 : Int)) (0) (l714)).bind fun r => match r with
    | .e0 =>
     none -- never
    | .e1 =>
     none -- false
    | .e2 z733 k734 l738 =>
     if (↑k734 : Int) > 0 then
      if (0 : Int) ≤ (0 : Int) ∧ (0 : Int) < (↑k734 : Int) then
       ((l738[(0 : Nat)]?).bind W33.dec).bind fun e739 =>
       if 0 + k734 ≤ List.length l738 then
        (F15v1 (List.take k734 l738) (w64 (w64 (e739.c0 - 1) - w64 (↑(BitVec.toNat (BitVec.ofInt (IntKind.bits IntKind.i64) z733 &&& BitVec.ofInt (IntKind.bits IntKind.i64) 255)) : Int))) (0) (0) (0) (0)).bind fun r => match r with
        | .a0 z740 z741 z742 z743 =>
         ((l738[(0 : Nat)]?).bind W33.dec).bind fun e744 =>
         if (!(z740 == e744.c1 && (z741 == e744.c2 && (z742 == e744.c3 && (z743 == e744.c4 && true))))) = true then
          none -- false
         else
          if 0 ≤ w64 ((↑k734 : Int) - 1) ∧ w64 ((↑k734 : Int) - 1) < (↑k734 : Int) then
           ((l738[(0 : Nat) + Int.toNat (w64 ((↑k734 : Int) - (1 : Int)))]?).bind W33.dec).bind fun e745 =>
           (F15v1 (List.take k734 l738) (w64 (w64 (e745.c0 + 1) + w64 (↑(BitVec.toNat (BitVec.ofInt (IntKind.bits IntKind.i64) z733 &&& BitVec.ofInt (IntKind.bits IntKind.i64) 255)) : Int))) (0) (0) (0) (0)).bind fun r => match r with
           | .a0 z746 z747 z748 z749 =>
            ((l738[(0 : Nat) + Int.toNat (w64 ((↑k734 : Int) - (1 : Int)))]?).bind W33.dec).bind fun e750 =>
            if (!(z746 == e750.c1 && (z747 == e750.c2 && (z748 == e750.c3 && (z749 == e750.c4 && true))))) = true then
             none -- false
            else
             (F16v1 (List.take k734 l738)).bind fun r => match r with
             | .a0 b751 =>
              if (b751 == decide ((↑k734 : Int) ≤ 32)) = true then
               bnd (F17 (0) (0) (0) (0)) fun z752 =>
               if (z752 == 0) = true then
                (F13).bind fun r => match r with
                | .a0 b753 =>
                 some (A4.a0 (b753))
               else
                none -- false
              else
               none -- false
          else
           none -- none
       else
        none -- none
      else
       none -- none
     else
      if 0 + k734 ≤ List.length l738 then
       (F16v1 (List.take k734 l738)).bind fun r => match r with
       | .a0 b754 =>
        if (b754 == decide ((↑k734 : Int) ≤ 32)) = true then
         bnd (F17 (0) (0) (0) (0)) fun z755 =>
         if (z755 == 0) = true then
          (F13).bind fun r => match r with
          | .a0 b756 =>
           some (A4.a0 (b756))
         else
          none -- false
        else
         none -- false
      else
       none -- none
theorem F4_ok (m : Nat) (l0 : List (List V)) (z1 : Int) (r : A4) (h : F4 l0 z1 = some r) : call Try.prog X O0 100000 (m + 8) 4 ([V.list 10 l0, i64 z1]) ([]) = some r.out := by
  unfold F4 at h
  obtain ⟨r0, h0, h⟩ := Option.bind_eq_some_iff.mp h
  have h0 := F14_ok (m + 6) (l0) r0 h0
  cases r0 with
  | a0 =>
    obtain ⟨r1, h1, h⟩ := Option.bind_eq_some_iff.mp h
    obtain ⟨st1, h1, hr1⟩ := L4_0_ok m 100000 (z1) r1 h1
    have h1 : loopRun Try.prog X (call Try.prog X O0 100000 (m + 7)) 4 (0) 100000 B4 0 ({ T := V.list 10 l0 :: i64 z1 :: U :: U :: vb false :: V.nilS :: U :: U :: V.list 10 l0 :: V.nilS :: V.nilS :: i64 0 :: i64 0 :: un 97 [], σ := [Ob.vir] }) = some st1 := by
      rw [loopRun_from, show prep (0) (X.keep 4 0) ({ T := V.list 10 l0 :: i64 z1 :: U :: U :: vb false :: V.nilS :: U :: U :: V.list 10 l0 :: V.nilS :: V.nilS :: i64 0 :: i64 0 :: un 97 [], σ := [Ob.vir] }) = { T := U :: i64 z1 :: U :: U :: U :: V.nilS :: un 5 (i64 0 :: i64 0 :: un 97 []), σ := [] } by kernel_rfl]
      exact h1
    cases r1 with
    | e0 z641 =>
      obtain ⟨rfl⟩ := hr1
      obtain ⟨r2, h2, h⟩ := Option.bind_eq_some_iff.mp h
      obtain ⟨st2, h2, hr2⟩ := L4_2_ok m 100000 (z641) r2 h2
      have h2 : loopRun Try.prog X (call Try.prog X O0 100000 (m + 7)) 4 (0) 100000 B4 2 ({ T := U :: i64 z641 :: U :: U :: U :: V.nilS :: un 5 (i64 0 :: i64 0 :: vb false :: un 17 (V.nilS :: i64 0 :: i64 0 :: un 76 [])), σ := [] }) = some st2 := by
        rw [loopRun_from, show prep (0) (X.keep 4 2) ({ T := U :: i64 z641 :: U :: U :: U :: V.nilS :: un 5 (i64 0 :: i64 0 :: vb false :: un 17 (V.nilS :: i64 0 :: i64 0 :: un 76 [])), σ := [] }) = { T := U :: i64 z641 :: U :: U :: U :: V.nilS :: un 26 (i64 0 :: i64 0 :: un 76 []), σ := [] } by kernel_rfl]
        exact h2
      cases r2 with
      | e0 =>
        obtain ⟨z672, rfl⟩ := hr2
        obtain ⟨r3, h3, h⟩ := Option.bind_eq_some_iff.mp h
        have h3 := F16_ok (m + 6) r3 h3
        cases r3 with
        | a0 b673 =>
          rcases ite_eq h with ⟨h4, h⟩ | ⟨h4, h⟩
          · skip
            obtain ⟨z674, h5, h⟩ := bnd_eq h
            rcases ite_eq h with ⟨h6, h⟩ | ⟨h6, h⟩
            · skip
              obtain ⟨r7, h7, h⟩ := Option.bind_eq_some_iff.mp h
              have h7 := F13_ok (m + 3) r7 h7
              cases r7 with
              | a0 b675 =>
                cases h
                exact call_pathL (gs := [.an (V.nilS) [], .lp (VX.exit 0) (s4_0_0 z641), .lp (VX.exit 2) (s4_2_0 z672), .a, .a, .a, .a, .a, .a, .a, .a, .a, .a, .a, .a, .a, .a, .a, .a, .a, .a, .a, .ft [⟨0, [], []⟩, ⟨1, [], []⟩, ⟨2, [], []⟩, ⟨3, [], []⟩, ⟨4, [], []⟩, ⟨5, [], []⟩, ⟨6, [], []⟩, ⟨7, [], []⟩, ⟨8, [], []⟩, ⟨9, [], []⟩, ⟨10, [], []⟩, ⟨11, [], []⟩, ⟨12, [], []⟩, ⟨13, [], []⟩, ⟨14, [], []⟩, ⟨15, [], []⟩, ⟨16, [], []⟩, ⟨17, [], []⟩, ⟨18, [], []⟩, ⟨19, [], []⟩, ⟨20, [], []⟩, ⟨21, [], []⟩, ⟨22, [], []⟩, ⟨23, [], []⟩, ⟨24, [], []⟩, ⟨25, [], []⟩, ⟨26, [], []⟩, ⟨27, [], []⟩, ⟨28, [], []⟩, ⟨29, [], []⟩, ⟨30, [], []⟩, ⟨31, [], []⟩, ⟨32, [], []⟩, ⟨33, [], []⟩, ⟨34, [], []⟩, ⟨35, [], []⟩, ⟨36, [], []⟩, ⟨37, [], []⟩, ⟨38, [], []⟩, ⟨39, [], []⟩, ⟨40, [], []⟩, ⟨41, [], []⟩, ⟨42, [], []⟩, ⟨43, [], []⟩, ⟨44, [], []⟩], .a, .an (vb b673) [], .t, .t, .an (i64 z674) [], .t, .t, .t, .an (vb b675) [], .t]) (notIn []) rfl rfl (by kernel_rfl) (And.intro h0 (And.intro h1 (And.intro h2 (And.intro (Eq.refl ([⟨0, [], []⟩, ⟨1, [], []⟩, ⟨2, [], []⟩, ⟨3, [], []⟩, ⟨4, [], []⟩, ⟨5, [], []⟩, ⟨6, [], []⟩, ⟨7, [], []⟩, ⟨8, [], []⟩, ⟨9, [], []⟩, ⟨10, [], []⟩, ⟨11, [], []⟩, ⟨12, [], []⟩, ⟨13, [], []⟩, ⟨14, [], []⟩, ⟨15, [], []⟩, ⟨16, [], []⟩, ⟨17, [], []⟩, ⟨18, [], []⟩, ⟨19, [], []⟩, ⟨20, [], []⟩, ⟨21, [], []⟩, ⟨22, [], []⟩, ⟨23, [], []⟩, ⟨24, [], []⟩, ⟨25, [], []⟩, ⟨26, [], []⟩, ⟨27, [], []⟩, ⟨28, [], []⟩, ⟨29, [], []⟩, ⟨30, [], []⟩, ⟨31, [], []⟩, ⟨32, [], []⟩, ⟨33, [], []⟩, ⟨34, [], []⟩, ⟨35, [], []⟩, ⟨36, [], []⟩, ⟨37, [], []⟩, ⟨38, [], []⟩, ⟨39, [], []⟩, ⟨40, [], []⟩, ⟨41, [], []⟩, ⟨42, [], []⟩, ⟨43, [], []⟩, ⟨44, [], []⟩] : List Foot)) (And.intro h3 (And.intro h4 (And.intro h4 (And.intro (F17_ok (m + 6) (0) (0) (0) (0) z674 h5) (And.intro h4 (And.intro h4 (And.intro h6 (And.intro h7 (And.intro h6 True.intro)))))))))))))
            · skip
              cases h
          · skip
            cases h
      | e1 =>
        obtain ⟨z677, k678, z679, z680, b681, k682, z683, z684, z685, z686, z687, z688, z689, z690, z691, b692, l693, rfl⟩ := hr2
        cases h
      | e2 z694 k695 l699 =>
        obtain ⟨z696, z697, b698, rfl⟩ := hr2
        cases h
    | e1 z700 k701 l705 =>
      obtain ⟨z702, z703, b704, rfl⟩ := hr1
      cases h
  | a1 k706 l707 =>
    obtain ⟨r1, h1, h⟩ := Option.bind_eq_some_iff.mp h
    obtain ⟨st1, h1, hr1⟩ := L4_0s1_ok m 100000 (z1) (k706) ((↑k706 : Int)) (0) (l707) r1 h1
    have h1 : loopRun Try.prog X (call Try.prog X O0 100000 (m + 7)) 4 (0) 100000 B4 0 ({ T := V.list 10 l0 :: i64 z1 :: U :: U :: vb false :: V.hs 0 0 k706 :: U :: U :: V.list 10 l0 :: V.hs 0 0 k706 :: V.hs 0 0 k706 :: i64 (↑k706 : Int) :: i64 0 :: un 97 [], σ := [Ob.cells true true 10 l707] }) = some st1 := by
      rw [loopRun_from, show prep (0) (X.keep 4 0) ({ T := V.list 10 l0 :: i64 z1 :: U :: U :: vb false :: V.hs 0 0 k706 :: U :: U :: V.list 10 l0 :: V.hs 0 0 k706 :: V.hs 0 0 k706 :: i64 (↑k706 : Int) :: i64 0 :: un 97 [], σ := [Ob.cells true true 10 l707] }) = { T := U :: i64 z1 :: U :: U :: U :: V.hs 0 0 k706 :: un 5 (i64 (↑k706 : Int) :: i64 0 :: un 97 []), σ := [Ob.cells true true 10 l707] } by kernel_rfl]
      exact h1
    cases r1 with
    | e0 z708 =>
      obtain ⟨rfl⟩ := hr1
      cases h
    | e1 z709 k710 l714 =>
      obtain ⟨z711, z712, b713, rfl⟩ := hr1
      obtain ⟨r2, h2, h⟩ := Option.bind_eq_some_iff.mp h
      obtain ⟨st2, h2, hr2⟩ := L4_2s1_ok m 100000 (z709) (k710) ((↑k710 : Int)) (0) (l714) r2 h2
      have h2 : loopRun Try.prog X (call Try.prog X O0 100000 (m + 7)) 4 (0) 100000 B4 2 ({ T := U :: i64 z709 :: U :: U :: U :: V.hs 0 0 k710 :: un 5 (i64 z711 :: i64 z712 :: vb b713 :: un 17 (V.hs 0 0 k710 :: i64 (↑k710 : Int) :: i64 0 :: un 76 [])), σ := [Ob.cells true true 10 l714] }) = some st2 := by
        rw [loopRun_from, show prep (0) (X.keep 4 2) ({ T := U :: i64 z709 :: U :: U :: U :: V.hs 0 0 k710 :: un 5 (i64 z711 :: i64 z712 :: vb b713 :: un 17 (V.hs 0 0 k710 :: i64 (↑k710 : Int) :: i64 0 :: un 76 [])), σ := [Ob.cells true true 10 l714] }) = { T := U :: i64 z709 :: U :: U :: U :: V.hs 0 0 k710 :: un 26 (i64 (↑k710 : Int) :: i64 0 :: un 76 []), σ := [Ob.cells true true 10 l714] } by kernel_rfl]
        exact h2
      cases r2 with
      | e0 =>
        obtain ⟨z715, rfl⟩ := hr2
        cases h
      | e1 =>
        obtain ⟨z716, k717, z718, z719, b720, k721, z722, z723, z724, z725, z726, z727, z728, z729, z730, b731, l732, rfl⟩ := hr2
        cases h
      | e2 z733 k734 l738 =>
        obtain ⟨z735, z736, b737, rfl⟩ := hr2
        rcases ite_eq h with ⟨h3, h⟩ | ⟨h3, h⟩
        · skip
          rcases ite_eq h with ⟨h4, h⟩ | ⟨h4, h⟩
          · skip
            obtain ⟨e739, h5, h⟩ := Option.bind_eq_some_iff.mp h
            rcases ite_eq h with ⟨h6, h⟩ | ⟨h6, h⟩
            · skip
              obtain ⟨r7, h7, h⟩ := Option.bind_eq_some_iff.mp h
              have h7 := F15v1_ok (m + 0) (List.take k734 l738) (w64 (w64 (e739.c0 - 1) - w64 (↑(BitVec.toNat (BitVec.ofInt (IntKind.bits IntKind.i64) z733 &&& BitVec.ofInt (IntKind.bits IntKind.i64) 255)) : Int))) (0) (0) (0) (0) r7 h7
              cases r7 with
              | a0 z740 z741 z742 z743 =>
                obtain ⟨e744, h8, h⟩ := Option.bind_eq_some_iff.mp h
                rcases ite_eq h with ⟨h9, h⟩ | ⟨h9, h⟩
                · skip
                  cases h
                · skip
                  rcases ite_eq h with ⟨h10, h⟩ | ⟨h10, h⟩
                  · skip
                    obtain ⟨e745, h11, h⟩ := Option.bind_eq_some_iff.mp h
                    obtain ⟨r12, h12, h⟩ := Option.bind_eq_some_iff.mp h
                    have h12 := F15v1_ok (m + 0) (List.take k734 l738) (w64 (w64 (e745.c0 + 1) + w64 (↑(BitVec.toNat (BitVec.ofInt (IntKind.bits IntKind.i64) z733 &&& BitVec.ofInt (IntKind.bits IntKind.i64) 255)) : Int))) (0) (0) (0) (0) r12 h12
                    cases r12 with
                    | a0 z746 z747 z748 z749 =>
                      obtain ⟨e750, h13, h⟩ := Option.bind_eq_some_iff.mp h
                      rcases ite_eq h with ⟨h14, h⟩ | ⟨h14, h⟩
                      · skip
                        cases h
                      · skip
                        obtain ⟨r15, h15, h⟩ := Option.bind_eq_some_iff.mp h
                        have h15 := F16v1_ok (m + 3) (List.take k734 l738) r15 h15
                        cases r15 with
                        | a0 b751 =>
                          rcases ite_eq h with ⟨h16, h⟩ | ⟨h16, h⟩
                          · skip
                            obtain ⟨z752, h17, h⟩ := bnd_eq h
                            rcases ite_eq h with ⟨h18, h⟩ | ⟨h18, h⟩
                            · skip
                              obtain ⟨r19, h19, h⟩ := Option.bind_eq_some_iff.mp h
                              have h19 := F13_ok (m + 3) r19 h19
                              cases r19 with
                              | a0 b753 =>
                                cases h
                                exact call_pathL (gs := [.an (V.hs 0 0 k706) [Ob.cells true true 10 l707], .lp (VX.exit 0) (s4_0_1 z709 k710 z711 z712 b713 l714), .lp (VX.exit 2) (s4_2_2 z733 k734 z735 z736 b737 l738), .t, .t, .t, .t, .t, .t, .el (W33.cells e739), .t, .t, .t, .t, .t, .t, .t, .an (V.agg [u8 z740, u8 z741, u8 z742, u8 z743]) [], .t, .t, .t, .t, .t, .el (W33.cells e744), .t, .t, .f, .f, .f, .f, .f, .f, .t, .f, .f, .el (W33.cells e745), .f, .f, .f, .f, .f, .f, .t, .an (V.agg [u8 z746, u8 z747, u8 z748, u8 z749]) [], .f, .f, .f, .f, .f, .t, .f, .f, .el (W33.cells e750), .f, .t, .f, .t, .ft [⟨0, [], []⟩, ⟨1, [0], []⟩, ⟨2, [], []⟩, ⟨3, [], []⟩, ⟨4, [], []⟩, ⟨5, [], []⟩, ⟨6, [0], []⟩, ⟨7, [0], []⟩, ⟨8, [0], []⟩, ⟨9, [], []⟩, ⟨10, [], []⟩, ⟨11, [], []⟩, ⟨12, [], []⟩, ⟨13, [], []⟩, ⟨14, [0], []⟩, ⟨15, [], []⟩, ⟨16, [0], []⟩, ⟨17, [0], []⟩, ⟨18, [0], []⟩, ⟨19, [], []⟩, ⟨20, [], []⟩, ⟨21, [], []⟩, ⟨22, [], []⟩, ⟨23, [], []⟩, ⟨24, [0], []⟩, ⟨25, [], []⟩, ⟨26, [0], []⟩, ⟨27, [0], []⟩, ⟨28, [0], []⟩, ⟨29, [], []⟩, ⟨30, [], []⟩, ⟨31, [], []⟩, ⟨32, [], []⟩, ⟨33, [], []⟩, ⟨34, [0], []⟩, ⟨35, [], []⟩, ⟨36, [], []⟩, ⟨37, [0], []⟩, ⟨38, [], []⟩, ⟨39, [0], []⟩, ⟨40, [0], []⟩, ⟨41, [0], []⟩, ⟨42, [], []⟩, ⟨43, [], []⟩, ⟨44, [], []⟩], .f, .t, .an (vb b751) [], .t, .t, .an (i64 z752) [], .t, .t, .t, .an (vb b753) [], .t]) (notIn []) rfl rfl (by kernel_rfl) (And.intro h0 (And.intro h1 (And.intro h2 (And.intro (decide_eq_true h3) (And.intro (decide_eq_true h3) (And.intro (decide_eq_true h3) (And.intro (decide_eq_true h4) (And.intro (decide_eq_true h3) (And.intro (decide_eq_true h3) (And.intro (W33.dec_ok h5) (And.intro (decide_eq_true h3) (And.intro (decide_eq_true h3) (And.intro (decide_eq_true h3) (And.intro (decide_eq_true h3) (And.intro (decide_eq_true h3) (And.intro (decide_eq_true h3) (And.intro (decide_eq_true h6) (And.intro h7 (And.intro (decide_eq_true h3) (And.intro (decide_eq_true h3) (And.intro (decide_eq_true h4) (And.intro (decide_eq_true h3) (And.intro (decide_eq_true h3) (And.intro (W33.dec_ok h8) (And.intro (decide_eq_true h3) (And.intro (decide_eq_true h3) (And.intro (Bool.eq_false_iff.mpr h9) (And.intro (Bool.eq_false_iff.mpr h9) (And.intro (Bool.eq_false_iff.mpr h9) (And.intro (Bool.eq_false_iff.mpr h9) (And.intro (Bool.eq_false_iff.mpr h9) (And.intro (Bool.eq_false_iff.mpr h9) (And.intro (decide_eq_true h10) (And.intro (Bool.eq_false_iff.mpr h9) (And.intro (Bool.eq_false_iff.mpr h9) (And.intro (W33.dec_ok h11) (And.intro (Bool.eq_false_iff.mpr h9) (And.intro (Bool.eq_false_iff.mpr h9) (And.intro (Bool.eq_false_iff.mpr h9) (And.intro (Bool.eq_false_iff.mpr h9) (And.intro (Bool.eq_false_iff.mpr h9) (And.intro (Bool.eq_false_iff.mpr h9) (And.intro (decide_eq_true h6) (And.intro h12 (And.intro (Bool.eq_false_iff.mpr h9) (And.intro (Bool.eq_false_iff.mpr h9) (And.intro (Bool.eq_false_iff.mpr h9) (And.intro (Bool.eq_false_iff.mpr h9) (And.intro (Bool.eq_false_iff.mpr h9) (And.intro (decide_eq_true h10) (And.intro (Bool.eq_false_iff.mpr h9) (And.intro (Bool.eq_false_iff.mpr h9) (And.intro (W33.dec_ok h13) (And.intro (Bool.eq_false_iff.mpr h9) (And.intro (decide_eq_true h3) (And.intro (Bool.eq_false_iff.mpr h9) (And.intro (decide_eq_true h3) (And.intro (Eq.refl ([⟨0, [], []⟩, ⟨1, [0], []⟩, ⟨2, [], []⟩, ⟨3, [], []⟩, ⟨4, [], []⟩, ⟨5, [], []⟩, ⟨6, [0], []⟩, ⟨7, [0], []⟩, ⟨8, [0], []⟩, ⟨9, [], []⟩, ⟨10, [], []⟩, ⟨11, [], []⟩, ⟨12, [], []⟩, ⟨13, [], []⟩, ⟨14, [0], []⟩, ⟨15, [], []⟩, ⟨16, [0], []⟩, ⟨17, [0], []⟩, ⟨18, [0], []⟩, ⟨19, [], []⟩, ⟨20, [], []⟩, ⟨21, [], []⟩, ⟨22, [], []⟩, ⟨23, [], []⟩, ⟨24, [0], []⟩, ⟨25, [], []⟩, ⟨26, [0], []⟩, ⟨27, [0], []⟩, ⟨28, [0], []⟩, ⟨29, [], []⟩, ⟨30, [], []⟩, ⟨31, [], []⟩, ⟨32, [], []⟩, ⟨33, [], []⟩, ⟨34, [0], []⟩, ⟨35, [], []⟩, ⟨36, [], []⟩, ⟨37, [0], []⟩, ⟨38, [], []⟩, ⟨39, [0], []⟩, ⟨40, [0], []⟩, ⟨41, [0], []⟩, ⟨42, [], []⟩, ⟨43, [], []⟩, ⟨44, [], []⟩] : List Foot)) (And.intro (Bool.eq_false_iff.mpr h14) (And.intro (decide_eq_true h6) (And.intro h15 (And.intro h16 (And.intro h16 (And.intro (F17_ok (m + 6) (0) (0) (0) (0) z752 h17) (And.intro h16 (And.intro h16 (And.intro h18 (And.intro h19 (And.intro h18 True.intro)))))))))))))))))))))))))))))))))))))))))))))))))))))))))))))))))))))
                            · skip
                              cases h
                          · skip
                            cases h
                  · skip
                    cases h
            · skip
              cases h
          · skip
            cases h
        · skip
          rcases ite_eq h with ⟨h4, h⟩ | ⟨h4, h⟩
          · skip
            obtain ⟨r5, h5, h⟩ := Option.bind_eq_some_iff.mp h
            have h5 := F16v1_ok (m + 3) (List.take k734 l738) r5 h5
            cases r5 with
            | a0 b754 =>
              rcases ite_eq h with ⟨h6, h⟩ | ⟨h6, h⟩
              · skip
                obtain ⟨z755, h7, h⟩ := bnd_eq h
                rcases ite_eq h with ⟨h8, h⟩ | ⟨h8, h⟩
                · skip
                  obtain ⟨r9, h9, h⟩ := Option.bind_eq_some_iff.mp h
                  have h9 := F13_ok (m + 3) r9 h9
                  cases r9 with
                  | a0 b756 =>
                    cases h
                    exact call_pathL (gs := [.an (V.hs 0 0 k706) [Ob.cells true true 10 l707], .lp (VX.exit 0) (s4_0_1 z709 k710 z711 z712 b713 l714), .lp (VX.exit 2) (s4_2_2 z733 k734 z735 z736 b737 l738), .f, .f, .f, .f, .f, .f, .f, .f, .f, .f, .f, .f, .f, .f, .f, .f, .f, .f, .f, .ft [⟨0, [], []⟩, ⟨1, [0], []⟩, ⟨2, [], []⟩, ⟨3, [], []⟩, ⟨4, [], []⟩, ⟨5, [], []⟩, ⟨6, [], []⟩, ⟨7, [], []⟩, ⟨8, [], []⟩, ⟨9, [], []⟩, ⟨10, [], []⟩, ⟨11, [], []⟩, ⟨12, [], []⟩, ⟨13, [], []⟩, ⟨14, [], []⟩, ⟨15, [], []⟩, ⟨16, [], []⟩, ⟨17, [], []⟩, ⟨18, [], []⟩, ⟨19, [], []⟩, ⟨20, [], []⟩, ⟨21, [], []⟩, ⟨22, [], []⟩, ⟨23, [], []⟩, ⟨24, [], []⟩, ⟨25, [], []⟩, ⟨26, [], []⟩, ⟨27, [], []⟩, ⟨28, [], []⟩, ⟨29, [], []⟩, ⟨30, [], []⟩, ⟨31, [], []⟩, ⟨32, [], []⟩, ⟨33, [], []⟩, ⟨34, [], []⟩, ⟨35, [], []⟩, ⟨36, [], []⟩, ⟨37, [], []⟩, ⟨38, [], []⟩, ⟨39, [], []⟩, ⟨40, [], []⟩, ⟨41, [], []⟩, ⟨42, [], []⟩, ⟨43, [], []⟩, ⟨44, [], []⟩], .a, .t, .an (vb b754) [], .t, .t, .an (i64 z755) [], .t, .t, .t, .an (vb b756) [], .t]) (notIn []) rfl rfl (by kernel_rfl) (And.intro h0 (And.intro h1 (And.intro h2 (And.intro (decide_eq_false h3) (And.intro (decide_eq_false h3) (And.intro (decide_eq_false h3) (And.intro (decide_eq_false h3) (And.intro (decide_eq_false h3) (And.intro (decide_eq_false h3) (And.intro (decide_eq_false h3) (And.intro (decide_eq_false h3) (And.intro (decide_eq_false h3) (And.intro (decide_eq_false h3) (And.intro (decide_eq_false h3) (And.intro (decide_eq_false h3) (And.intro (decide_eq_false h3) (And.intro (decide_eq_false h3) (And.intro (decide_eq_false h3) (And.intro (decide_eq_false h3) (And.intro (decide_eq_false h3) (And.intro (decide_eq_false h3) (And.intro (decide_eq_false h3) (And.intro (Eq.refl ([⟨0, [], []⟩, ⟨1, [0], []⟩, ⟨2, [], []⟩, ⟨3, [], []⟩, ⟨4, [], []⟩, ⟨5, [], []⟩, ⟨6, [], []⟩, ⟨7, [], []⟩, ⟨8, [], []⟩, ⟨9, [], []⟩, ⟨10, [], []⟩, ⟨11, [], []⟩, ⟨12, [], []⟩, ⟨13, [], []⟩, ⟨14, [], []⟩, ⟨15, [], []⟩, ⟨16, [], []⟩, ⟨17, [], []⟩, ⟨18, [], []⟩, ⟨19, [], []⟩, ⟨20, [], []⟩, ⟨21, [], []⟩, ⟨22, [], []⟩, ⟨23, [], []⟩, ⟨24, [], []⟩, ⟨25, [], []⟩, ⟨26, [], []⟩, ⟨27, [], []⟩, ⟨28, [], []⟩, ⟨29, [], []⟩, ⟨30, [], []⟩, ⟨31, [], []⟩, ⟨32, [], []⟩, ⟨33, [], []⟩, ⟨34, [], []⟩, ⟨35, [], []⟩, ⟨36, [], []⟩, ⟨37, [], []⟩, ⟨38, [], []⟩, ⟨39, [], []⟩, ⟨40, [], []⟩, ⟨41, [], []⟩, ⟨42, [], []⟩, ⟨43, [], []⟩, ⟨44, [], []⟩] : List Foot)) (And.intro (decide_eq_true h4) (And.intro h5 (And.intro h6 (And.intro h6 (And.intro (F17_ok (m + 6) (0) (0) (0) (0) z755 h7) (And.intro h6 (And.intro h6 (And.intro h8 (And.intro h9 (And.intro h8 True.intro)))))))))))))))))))))))))))))))))
                · skip
                  cases h
              · skip
                cases h
          · skip
            cases h
end Go.Proofs.Ytcomanfboibhiaa.H
