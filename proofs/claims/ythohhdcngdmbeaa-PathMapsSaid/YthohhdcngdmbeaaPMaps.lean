/- What the functions compute, and that they do so over the machine of plain values (printed by this session's program wip/vm/Walk.lean). No condition beyond those stated. -/
import Derived.Test.YthohhdcngdmbeaaWk
import Derived.Test.YthohhdcngdmbeaaRowsR2
set_option linter.unusedVariables false
set_option linter.unusedSimpArgs false
namespace Go.Proofs.Ythohhdcngdmbeaa.H
open Go Go.VM
set_option maxRecDepth 100000
/-! ## 17 -/
inductive A17 where
  | a0 (z16 : Int)
@[reducible] def A17.out : A17 → V × Store
  | .a0 z16 => (i64 z16, [])
def F17 (z12 : Int) (z13 : Int) (z14 : Int) : Option A17 :=
  if z12 ≥ z13 then
   if z12 ≤ z14 then
    some (A17.a0 (z12))
   else
    if w64 (w64 (z14 - z13) + 1) = 0 then
     none -- none
    else
     if Int.tmod z12 (w64 (w64 (z14 - z13) + 1)) < 0 then
      some (A17.a0 (w64 (z13 + w64 (w64 (w64 (Int.tmod z12 (w64 (w64 (z14 - z13) + 1)) + z14) - z13) + 1))))
     else
      some (A17.a0 (w64 (z13 + Int.tmod z12 (w64 (w64 (z14 - z13) + 1)))))
  else
   if w64 (w64 (z14 - z13) + 1) = 0 then
    none -- none
   else
    if Int.tmod z12 (w64 (w64 (z14 - z13) + 1)) < 0 then
     some (A17.a0 (w64 (z13 + w64 (w64 (w64 (Int.tmod z12 (w64 (w64 (z14 - z13) + 1)) + z14) - z13) + 1))))
    else
     some (A17.a0 (w64 (z13 + Int.tmod z12 (w64 (w64 (z14 - z13) + 1)))))
theorem F17_ok (m : Nat) (z12 : Int) (z13 : Int) (z14 : Int) (r : A17) (h : F17 z12 z13 z14 = some r) : call Try.prog X O0 100000 (m + 1) 17 ([i64 z12, i64 z13, i64 z14]) ([]) = some r.out := by
  unfold F17 at h
  rcases ite_eq h with ⟨h0, h⟩ | ⟨h0, h⟩
  · skip
    rcases ite_eq h with ⟨h1, h⟩ | ⟨h1, h⟩
    · skip
      cases h
      exact call_pathL (gs := [.t, .t, .t, .t, .t]) (notIn []) rfl rfl (by kernel_rfl) (And.intro (decide_eq_true h0) (And.intro (decide_eq_true h0) (And.intro (decide_eq_true h0) (And.intro (decide_eq_true h0) (And.intro (decide_eq_true h1) True.intro)))))
    · skip
      rcases ite_eq h with ⟨h2, h⟩ | ⟨h2, h⟩
      · skip
        cases h
      · skip
        rcases ite_eq h with ⟨h3, h⟩ | ⟨h3, h⟩
        · skip
          cases h
          exact call_pathL (gs := [.t, .t, .t, .t, .f, .f, .t]) (notIn []) rfl rfl (by kernel_rfl) (And.intro (decide_eq_true h0) (And.intro (decide_eq_true h0) (And.intro (decide_eq_true h0) (And.intro (decide_eq_true h0) (And.intro (decide_eq_false h1) (And.intro (decide_eq_false h2) (And.intro (decide_eq_true h3) True.intro)))))))
        · skip
          cases h
          exact call_pathL (gs := [.t, .t, .t, .t, .f, .f, .f]) (notIn []) rfl rfl (by kernel_rfl) (And.intro (decide_eq_true h0) (And.intro (decide_eq_true h0) (And.intro (decide_eq_true h0) (And.intro (decide_eq_true h0) (And.intro (decide_eq_false h1) (And.intro (decide_eq_false h2) (And.intro (decide_eq_false h3) True.intro)))))))
  · skip
    rcases ite_eq h with ⟨h1, h⟩ | ⟨h1, h⟩
    · skip
      cases h
    · skip
      rcases ite_eq h with ⟨h2, h⟩ | ⟨h2, h⟩
      · skip
        cases h
        exact call_pathL (gs := [.f, .f, .f, .f, .a, .f, .t]) (notIn []) rfl rfl (by kernel_rfl) (And.intro (decide_eq_false h0) (And.intro (decide_eq_false h0) (And.intro (decide_eq_false h0) (And.intro (decide_eq_false h0) (And.intro (decide_eq_false h1) (And.intro (decide_eq_true h2) True.intro))))))
      · skip
        cases h
        exact call_pathL (gs := [.f, .f, .f, .f, .a, .f, .f]) (notIn []) rfl rfl (by kernel_rfl) (And.intro (decide_eq_false h0) (And.intro (decide_eq_false h0) (And.intro (decide_eq_false h0) (And.intro (decide_eq_false h0) (And.intro (decide_eq_false h1) (And.intro (decide_eq_false h2) True.intro))))))
/-! ## 15 -/
inductive A15 where
  | a0 (z8 : Int) (l9 : List (List V)) (z10 : Int)
@[reducible] def A15.out : A15 → V × Store
  | .a0 z8 l9 z10 => (i64 z8, [Ob.cells true false 2 [[V.list 1 l9, i64 z10]]])
def F15 (z4 : Int) (l5 : List (List V)) (z6 : Int) : Option A15 :=
  if z6 ≥ (↑(List.length l5) : Int) then
   some (A15.a0 (0) (l5) (z6))
  else
   if 0 ≤ w64 (w64 (z6 + 1) - 1) then
    ((l5[Int.toNat (w64 (w64 (z6 + (1 : Int)) - (1 : Int)))]?).bind W3.dec).bind fun e11 =>
    (F17 (e11.c0) (0) (1073741824)).bind fun r => match r with
    | .a0 z17 =>
     if z4 = 0 then
      none -- none
     else
      some (A15.a0 (Int.tmod z17 z4) (l5) (w64 (z6 + 1)))
   else
    none -- none
theorem F15_ok (m : Nat) (z4 : Int) (l5 : List (List V)) (z6 : Int) (r : A15) (h : F15 z4 l5 z6 = some r) : call Try.prog X O0 100000 (m + 2) 15 ([V.ptr 0 0 0, i64 z4]) ([Ob.cells true false 2 [[V.list 1 l5, i64 z6]]]) = some r.out := by
  unfold F15 at h
  rcases ite_eq h with ⟨h0, h⟩ | ⟨h0, h⟩
  · skip
    cases h
    exact call_pathL (gs := [.a, .a, .ft [⟨0, [], []⟩, ⟨1, [0], []⟩, ⟨2, [0], []⟩, ⟨3, [0], []⟩, ⟨4, [], []⟩, ⟨5, [0], []⟩, ⟨6, [0], []⟩, ⟨7, [0], []⟩, ⟨8, [], []⟩, ⟨9, [], []⟩], .t]) (notIn []) rfl rfl (by kernel_rfl) (And.intro (Eq.refl ([⟨0, [], []⟩, ⟨1, [0], []⟩, ⟨2, [0], []⟩, ⟨3, [0], []⟩, ⟨4, [], []⟩, ⟨5, [0], []⟩, ⟨6, [0], []⟩, ⟨7, [0], []⟩, ⟨8, [], []⟩, ⟨9, [], []⟩] : List Foot)) (And.intro (decide_eq_true h0) True.intro))
  · skip
    rcases ite_eq h with ⟨h1, h⟩ | ⟨h1, h⟩
    · skip
      obtain ⟨e11, h2, h⟩ := Option.bind_eq_some_iff.mp h
      obtain ⟨r3, h3, h⟩ := Option.bind_eq_some_iff.mp h
      have h3 := F17_ok (m + 0) (e11.c0) (0) (1073741824) r3 h3
      cases r3 with
      | a0 z17 =>
        rcases ite_eq h with ⟨h4, h⟩ | ⟨h4, h⟩
        · skip
          cases h
        · skip
          cases h
          exact call_pathL (gs := [.a, .a, .ft [⟨0, [], []⟩, ⟨1, [0], []⟩, ⟨2, [0], []⟩, ⟨3, [0], []⟩, ⟨4, [], []⟩, ⟨5, [0], []⟩, ⟨6, [0], []⟩, ⟨7, [0], []⟩, ⟨8, [], []⟩, ⟨9, [], []⟩], .f, .a, .a, .a, .a, .t, .el (W3.cells e11), .an (i64 z17) [], .f, .ft [⟨0, [], []⟩, ⟨1, [0], []⟩, ⟨2, [0], []⟩, ⟨3, [0], []⟩, ⟨4, [], []⟩, ⟨5, [0], []⟩, ⟨6, [0], []⟩, ⟨7, [0], []⟩, ⟨8, [], []⟩, ⟨9, [], []⟩, ⟨10, [], []⟩, ⟨11, [], []⟩, ⟨12, [], []⟩, ⟨13, [], []⟩, ⟨14, [], []⟩]]) (notIn []) rfl rfl (by kernel_rfl) (And.intro (Eq.refl ([⟨0, [], []⟩, ⟨1, [0], []⟩, ⟨2, [0], []⟩, ⟨3, [0], []⟩, ⟨4, [], []⟩, ⟨5, [0], []⟩, ⟨6, [0], []⟩, ⟨7, [0], []⟩, ⟨8, [], []⟩, ⟨9, [], []⟩] : List Foot)) (And.intro (decide_eq_false h0) (And.intro (decide_eq_true h1) (And.intro (W3.dec_ok h2) (And.intro h3 (And.intro (decide_eq_false h4) (And.intro (Eq.refl ([⟨0, [], []⟩, ⟨1, [0], []⟩, ⟨2, [0], []⟩, ⟨3, [0], []⟩, ⟨4, [], []⟩, ⟨5, [0], []⟩, ⟨6, [0], []⟩, ⟨7, [0], []⟩, ⟨8, [], []⟩, ⟨9, [], []⟩, ⟨10, [], []⟩, ⟨11, [], []⟩, ⟨12, [], []⟩, ⟨13, [], []⟩, ⟨14, [], []⟩] : List Foot)) True.intro)))))))
    · skip
      cases h
/-! ## 54 -/
inductive A54 where
  | a0 (z45 : Int) (l46 : List (List V)) (z47 : Int)
@[reducible] def A54.out : A54 → V × Store
  | .a0 z45 l46 z47 => (i64 z45, [Ob.cells true false 2 [[V.list 1 l46, i64 z47]]])
def F54 (z34 : Int) (z35 : Int) (l36 : List (List V)) (z37 : Int) : Option A54 :=
  (F15 (w64 (w64 (z35 - z34) + 1)) (l36) (z37)).bind fun r => match r with
  | .a0 z39 l40 z41 =>
   (F15 (4) (l40) (z41)).bind fun r => match r with
   | .a0 z42 l43 z44 =>
    if (z42 == 0) = true then
     some (A54.a0 (w64 (w64 (w64 (z34 + z39) * 65536) + 32768)) (l43) (z44))
    else
     if (z42 == 1) = true then
      (F15 (65536) (l43) (z44)).bind fun r => match r with
      | .a0 z48 l49 z50 =>
       some (A54.a0 (w64 (w64 (w64 (z34 + z39) * 65536) + z48)) (l49) (z50))
     else
      some (A54.a0 (w64 (w64 (z34 + z39) * 65536)) (l43) (z44))
theorem F54_ok (m : Nat) (z34 : Int) (z35 : Int) (l36 : List (List V)) (z37 : Int) (r : A54) (h : F54 z34 z35 l36 z37 = some r) : call Try.prog X O0 100000 (m + 3) 54 ([V.ptr 0 0 0, i64 z34, i64 z35]) ([Ob.cells true false 2 [[V.list 1 l36, i64 z37]]]) = some r.out := by
  unfold F54 at h
  obtain ⟨r0, h0, h⟩ := Option.bind_eq_some_iff.mp h
  have h0 := F15_ok (m + 0) (w64 (w64 (z35 - z34) + 1)) (l36) (z37) r0 h0
  cases r0 with
  | a0 z39 l40 z41 =>
    obtain ⟨r1, h1, h⟩ := Option.bind_eq_some_iff.mp h
    have h1 := F15_ok (m + 0) (4) (l40) (z41) r1 h1
    cases r1 with
    | a0 z42 l43 z44 =>
      rcases ite_eq h with ⟨h2, h⟩ | ⟨h2, h⟩
      · skip
        cases h
        exact call_pathL (gs := [.an (i64 z39) [Ob.cells true false 2 [[V.list 1 l40, i64 z41]]], .an (i64 z42) [Ob.cells true false 2 [[V.list 1 l43, i64 z44]]], .t]) (notIn []) rfl rfl (by kernel_rfl) (And.intro h0 (And.intro h1 (And.intro h2 True.intro)))
      · skip
        rcases ite_eq h with ⟨h3, h⟩ | ⟨h3, h⟩
        · skip
          obtain ⟨r4, h4, h⟩ := Option.bind_eq_some_iff.mp h
          have h4 := F15_ok (m + 0) (65536) (l43) (z44) r4 h4
          cases r4 with
          | a0 z48 l49 z50 =>
            cases h
            exact call_pathL (gs := [.an (i64 z39) [Ob.cells true false 2 [[V.list 1 l40, i64 z41]]], .an (i64 z42) [Ob.cells true false 2 [[V.list 1 l43, i64 z44]]], .f, .t, .an (i64 z48) [Ob.cells true false 2 [[V.list 1 l49, i64 z50]]]]) (notIn []) rfl rfl (by kernel_rfl) (And.intro h0 (And.intro h1 (And.intro (Bool.eq_false_iff.mpr h2) (And.intro h3 (And.intro h4 True.intro)))))
        · skip
          cases h
          exact call_pathL (gs := [.an (i64 z39) [Ob.cells true false 2 [[V.list 1 l40, i64 z41]]], .an (i64 z42) [Ob.cells true false 2 [[V.list 1 l43, i64 z44]]], .f, .f]) (notIn []) rfl rfl (by kernel_rfl) (And.intro h0 (And.intro h1 (And.intro (Bool.eq_false_iff.mpr h2) (And.intro (Bool.eq_false_iff.mpr h3) True.intro))))
/-! ## 46 -/
inductive A46 where
  | a0 (z57 : Int) (z58 : Int) (l59 : List (List V)) (z60 : Int)
@[reducible] def A46.out : A46 → V × Store
  | .a0 z57 z58 l59 z60 => (V.agg [i64 z57, i64 z58], [Ob.cells true false 2 [[V.list 1 l59, i64 z60]]])
def F46 (z29 : Int) (z30 : Int) (l31 : List (List V)) (z32 : Int) : Option A46 :=
  (F54 (z29) (z30) (l31) (z32)).bind fun r => match r with
  | .a0 z51 l52 z53 =>
   (F54 (z29) (z30) (l52) (z53)).bind fun r => match r with
   | .a0 z54 l55 z56 =>
    some (A46.a0 (z51) (z54) (l55) (z56))
theorem F46_ok (m : Nat) (z29 : Int) (z30 : Int) (l31 : List (List V)) (z32 : Int) (r : A46) (h : F46 z29 z30 l31 z32 = some r) : call Try.prog X O0 100000 (m + 4) 46 ([V.ptr 0 0 0, i64 z29, i64 z30]) ([Ob.cells true false 2 [[V.list 1 l31, i64 z32]]]) = some r.out := by
  unfold F46 at h
  obtain ⟨r0, h0, h⟩ := Option.bind_eq_some_iff.mp h
  have h0 := F54_ok (m + 0) (z29) (z30) (l31) (z32) r0 h0
  cases r0 with
  | a0 z51 l52 z53 =>
    obtain ⟨r1, h1, h⟩ := Option.bind_eq_some_iff.mp h
    have h1 := F54_ok (m + 0) (z29) (z30) (l52) (z53) r1 h1
    cases r1 with
    | a0 z54 l55 z56 =>
      cases h
      exact call_pathL (gs := [.an (i64 z51) [Ob.cells true false 2 [[V.list 1 l52, i64 z53]]], .an (i64 z54) [Ob.cells true false 2 [[V.list 1 l55, i64 z56]]], .a]) (notIn []) rfl rfl (by kernel_rfl) (And.intro h0 (And.intro h1 True.intro))
/-! ## 16 -/
noncomputable abbrev B16 : Code := (Try.f16.body).getD .skip
inductive R16_0 where
  | e0 (l133 : List (List V)) (z134 : Int) (b135 : Bool) (k136 : Nat) (l137 : List (List V))
@[reducible] def s16_0_0 (z130 : Int) (z131 : Int) (b132 : Bool) (l133 : List (List V)) (z134 : Int) (b135 : Bool) (k136 : Nat) (l137 : List (List V)) : S := { T := V.ptr 0 0 0 :: i64 z130 :: un 4 (V.ptr 1 0 0 :: V.ptr 2 0 0 :: i64 z131 :: un 7 (i64 z131 :: i64 z130 :: vb b132 :: un 34 [])), σ := [Ob.cells true false 2 [[V.list 1 l133, i64 z134]], Ob.cells true false 2 [[vb false, V.nilS]], Ob.cells true false 2 [[vb b135, V.hs 3 0 k136]], Ob.cells true true 2 l137] }
def R16_0.St : R16_0 → VX × S → Prop
  | .e0 l133 z134 b135 k136 l137, p => ∃ z130 : Int, ∃ z131 : Int, ∃ b132 : Bool, p = (VX.exit 0, s16_0_0 z130 z131 b132 l133 z134 b135 k136 l137)
def L16_0 : Nat → Int → Int → List (List V) → Int → Bool → Nat → List (List V) → Option R16_0
  | 0, _, _, _, _, _, _, _ => none
  | n + 1, z78, z79, l80, z81, b82, k83, l84 =>
    if z79 < z78 then
     if 0 ≤ w64 ((↑k83 : Int) - 1) ∧ w64 ((↑k83 : Int) - 1) < (↑k83 : Int) then
      ((l84[(0 : Nat) + Int.toNat (w64 ((↑k83 : Int) - (1 : Int)))]?).bind W34.dec).bind fun e114 =>
      (F46 (-2) (14) (l80) (z81)).bind fun r => match r with
      | .a0 z115 z116 l117 z118 =>
       (F15 (2) (l117) (z118)).bind fun r => match r with
       | .a0 z119 l120 z121 =>
        if (z119 == 0) = true then
         if 0 + k83 ≤ List.length l84 ∧ (k83 + 3) * 16 ≤ 140737488355328 ∧ k83 + 3 ≤ 140737488355328 then
          L16_0 n (z78) (w64 (z79 + 1)) (l120) (z121) (b82) (k83 + 3) (List.take k83 l84 ++ [[i64 e114.c0, i64 e114.c1], [i64 z115, i64 z116], [i64 z115, i64 z116]])
         else
          none -- none
        else
         (F46 (-2) (14) (l120) (z121)).bind fun r => match r with
         | .a0 z122 z123 l124 z125 =>
          (F46 (-2) (14) (l124) (z125)).bind fun r => match r with
          | .a0 z126 z127 l128 z129 =>
           if 0 + k83 ≤ List.length l84 ∧ (k83 + 3) * 16 ≤ 140737488355328 ∧ k83 + 3 ≤ 140737488355328 then
            L16_0 n (z78) (w64 (z79 + 1)) (l128) (z129) (b82) (k83 + 3) (List.take k83 l84 ++ [[i64 z122, i64 z123], [i64 z126, i64 z127], [i64 z115, i64 z116]])
           else
            none -- none
     else
      none -- none
    else
     some (R16_0.e0 (l80) (z81) (b82) (k83) (l84))
theorem L16_0_ok (m : Nat) : ∀ (n : Nat) (z78 : Int) (z79 : Int) (l80 : List (List V)) (z81 : Int) (b82 : Bool) (k83 : Nat) (l84 : List (List V)) (r : R16_0), L16_0 n z78 z79 l80 z81 b82 k83 l84 = some r → ∃ st, loopFrom Try.prog X (call Try.prog X O0 100000 (m + 4)) 16 (1) 100000 B16 0 n ({ T := V.ptr 0 0 0 :: i64 z78 :: un 4 (V.ptr 1 0 0 :: V.ptr 2 0 0 :: i64 z79 :: un 44 []), σ := [Ob.cells true false 2 [[V.list 1 l80, i64 z81]], Ob.cells true false 2 [[vb false, V.nilS]], Ob.cells true false 2 [[vb b82, V.hs 3 0 k83]], Ob.cells true true 2 l84] }) = some st ∧ r.St st
  | 0, _, _, _, _, _, _, _, r, h => by cases h
  | n + 1, z78, z79, l80, z81, b82, k83, l84, r, h => by
    rw [L16_0] at h
    rcases ite_eq h with ⟨h0, h⟩ | ⟨h0, h⟩
    · skip
      rcases ite_eq h with ⟨h1, h⟩ | ⟨h1, h⟩
      · skip
        obtain ⟨e114, h2, h⟩ := Option.bind_eq_some_iff.mp h
        obtain ⟨r3, h3, h⟩ := Option.bind_eq_some_iff.mp h
        have h3 := F46_ok (m + 0) (-2) (14) (l80) (z81) r3 h3
        cases r3 with
        | a0 z115 z116 l117 z118 =>
          obtain ⟨r4, h4, h⟩ := Option.bind_eq_some_iff.mp h
          have h4 := F15_ok (m + 2) (2) (l117) (z118) r4 h4
          cases r4 with
          | a0 z119 l120 z121 =>
            rcases ite_eq h with ⟨h5, h⟩ | ⟨h5, h⟩
            · skip
              rcases ite_eq h with ⟨h6, h⟩ | ⟨h6, h⟩
              · skip
                obtain ⟨st, hs, hr⟩ := L16_0_ok m n (z78) (w64 (z79 + 1)) (l120) (z121) (b82) (k83 + 3) (List.take k83 l84 ++ [[i64 e114.c0, i64 e114.c1], [i64 z115, i64 z116], [i64 z115, i64 z116]]) r h
                exact ⟨st, (round_on (gs := [.t, .a, .a, .t, .el (W34.cells e114), .an (V.agg [i64 z115, i64 z116]) [Ob.cells true false 2 [[V.list 1 l117, i64 z118]]], .a, .a, .ft [⟨0, [2], []⟩, ⟨1, [2], []⟩, ⟨2, [2], []⟩, ⟨3, [2], []⟩, ⟨4, [3], []⟩, ⟨5, [], []⟩, ⟨6, [3], []⟩, ⟨7, [3], []⟩, ⟨8, [], []⟩, ⟨9, [0], [0]⟩, ⟨10, [4], [4]⟩, ⟨11, [5], [5]⟩, ⟨12, [4], [4]⟩, ⟨13, [5], [5]⟩], .an (i64 z119) [Ob.cells true false 2 [[V.list 1 l120, i64 z121]]], .t, .a, .a, .a, .a, .a, .t, .a]) (notIn []) (by kernel_rfl) (And.intro (decide_eq_true h0) (And.intro (decide_eq_true h1) (And.intro (W34.dec_ok h2) (And.intro h3 (And.intro (Eq.refl ([⟨0, [2], []⟩, ⟨1, [2], []⟩, ⟨2, [2], []⟩, ⟨3, [2], []⟩, ⟨4, [3], []⟩, ⟨5, [], []⟩, ⟨6, [3], []⟩, ⟨7, [3], []⟩, ⟨8, [], []⟩, ⟨9, [0], [0]⟩, ⟨10, [4], [4]⟩, ⟨11, [5], [5]⟩, ⟨12, [4], [4]⟩, ⟨13, [5], [5]⟩] : List Foot)) (And.intro h4 (And.intro h5 (And.intro (decide_eq_true h6) True.intro)))))))) n).trans hs, hr⟩
              · skip
                cases h
            · skip
              obtain ⟨r6, h6, h⟩ := Option.bind_eq_some_iff.mp h
              have h6 := F46_ok (m + 0) (-2) (14) (l120) (z121) r6 h6
              cases r6 with
              | a0 z122 z123 l124 z125 =>
                obtain ⟨r7, h7, h⟩ := Option.bind_eq_some_iff.mp h
                have h7 := F46_ok (m + 0) (-2) (14) (l124) (z125) r7 h7
                cases r7 with
                | a0 z126 z127 l128 z129 =>
                  rcases ite_eq h with ⟨h8, h⟩ | ⟨h8, h⟩
                  · skip
                    obtain ⟨st, hs, hr⟩ := L16_0_ok m n (z78) (w64 (z79 + 1)) (l128) (z129) (b82) (k83 + 3) (List.take k83 l84 ++ [[i64 z122, i64 z123], [i64 z126, i64 z127], [i64 z115, i64 z116]]) r h
                    exact ⟨st, (round_on (gs := [.t, .a, .a, .t, .el (W34.cells e114), .an (V.agg [i64 z115, i64 z116]) [Ob.cells true false 2 [[V.list 1 l117, i64 z118]]], .a, .a, .ft [⟨0, [2], []⟩, ⟨1, [2], []⟩, ⟨2, [2], []⟩, ⟨3, [2], []⟩, ⟨4, [3], []⟩, ⟨5, [], []⟩, ⟨6, [3], []⟩, ⟨7, [3], []⟩, ⟨8, [], []⟩, ⟨9, [0], [0]⟩, ⟨10, [4], [4]⟩, ⟨11, [5], [5]⟩, ⟨12, [4], [4]⟩, ⟨13, [5], [5]⟩], .an (i64 z119) [Ob.cells true false 2 [[V.list 1 l120, i64 z121]]], .f, .a, .an (V.agg [i64 z122, i64 z123]) [Ob.cells true false 2 [[V.list 1 l124, i64 z125]]], .an (V.agg [i64 z126, i64 z127]) [Ob.cells true false 2 [[V.list 1 l128, i64 z129]]], .a, .a, .t, .a, .ft [⟨0, [2], []⟩, ⟨1, [2], []⟩, ⟨2, [], []⟩, ⟨3, [0], [0]⟩, ⟨4, [], []⟩, ⟨5, [0], [0]⟩, ⟨6, [5], []⟩, ⟨7, [6], [6]⟩, ⟨8, [6, 7, 3], [3, 7]⟩, ⟨9, [2], []⟩, ⟨10, [2], [2]⟩]]) (notIn []) (by kernel_rfl) (And.intro (decide_eq_true h0) (And.intro (decide_eq_true h1) (And.intro (W34.dec_ok h2) (And.intro h3 (And.intro (Eq.refl ([⟨0, [2], []⟩, ⟨1, [2], []⟩, ⟨2, [2], []⟩, ⟨3, [2], []⟩, ⟨4, [3], []⟩, ⟨5, [], []⟩, ⟨6, [3], []⟩, ⟨7, [3], []⟩, ⟨8, [], []⟩, ⟨9, [0], [0]⟩, ⟨10, [4], [4]⟩, ⟨11, [5], [5]⟩, ⟨12, [4], [4]⟩, ⟨13, [5], [5]⟩] : List Foot)) (And.intro h4 (And.intro (Bool.eq_false_iff.mpr h5) (And.intro h6 (And.intro h7 (And.intro (decide_eq_true h8) (And.intro (Eq.refl ([⟨0, [2], []⟩, ⟨1, [2], []⟩, ⟨2, [], []⟩, ⟨3, [0], [0]⟩, ⟨4, [], []⟩, ⟨5, [0], [0]⟩, ⟨6, [5], []⟩, ⟨7, [6], [6]⟩, ⟨8, [6, 7, 3], [3, 7]⟩, ⟨9, [2], []⟩, ⟨10, [2], [2]⟩] : List Foot)) True.intro))))))))))) n).trans hs, hr⟩
                  · skip
                    cases h
      · skip
        cases h
    · skip
      cases h
      exact ⟨_, round_out (gs := [.f]) (notIn []) (by kernel_rfl) rfl (And.intro (decide_eq_false h0) True.intro) n, z78, z79, decide (z79 < z78), rfl⟩
inductive A16 where
  | a0 (b146 : Bool) (k147 : Nat) (l148 : List (List V)) (z149 : Int) (l150 : List (List V))
@[reducible] def A16.out : A16 → V × Store
  | .a0 b146 k147 l148 z149 l150 => (V.agg [vb b146, V.hs 1 0 k147], [Ob.cells true false 2 [[V.list 1 l148, i64 z149]], Ob.cells true true 2 l150])
def F16 (z24 : Int) (b25 : Bool) (l26 : List (List V)) (z27 : Int) : Option A16 :=
  (F46 (-2) (14) (l26) (z27)).bind fun r => match r with
  | .a0 z110 z111 l112 z113 =>
   (L16_0 100000 (z24) (0) (l112) (z113) (b25) (1) ([[i64 z110, i64 z111]])).bind fun r => match r with
   | .e0 l141 z142 b143 k144 l145 =>
    some (A16.a0 (b143) (k144) (l141) (z142) (l145))
theorem F16_ok (m : Nat) (z24 : Int) (b25 : Bool) (l26 : List (List V)) (z27 : Int) (r : A16) (h : F16 z24 b25 l26 z27 = some r) : call Try.prog X O0 100000 (m + 5) 16 ([V.ptr 0 0 0, i64 z24, vb b25]) ([Ob.cells true false 2 [[V.list 1 l26, i64 z27]]]) = some r.out := by
  unfold F16 at h
  obtain ⟨r0, h0, h⟩ := Option.bind_eq_some_iff.mp h
  have h0 := F46_ok (m + 0) (-2) (14) (l26) (z27) r0 h0
  cases r0 with
  | a0 z110 z111 l112 z113 =>
    obtain ⟨r1, h1, h⟩ := Option.bind_eq_some_iff.mp h
    obtain ⟨st1, h1, hr1⟩ := L16_0_ok m 100000 (z24) (0) (l112) (z113) (b25) (1) ([[i64 z110, i64 z111]]) r1 h1
    have h1 : loopRun Try.prog X (call Try.prog X O0 100000 (m + 4)) 16 (1) 100000 B16 0 ({ T := V.ptr 0 0 0 :: i64 z24 :: vb b25 :: U :: U :: U :: V.ptr 1 0 0 :: V.ptr 3 0 0 :: i64 0 :: U :: U :: vb b25 :: V.ptr 0 0 0 :: V.agg [i64 z110, i64 z111] :: V.hs 2 0 1 :: V.agg [vb b25, V.hs 2 0 1] :: un 37 [], σ := [Ob.cells true false 2 [[V.list 1 l112, i64 z113]], Ob.cells true false 2 [[vb false, V.nilS]], Ob.cells true true 2 [[i64 z110, i64 z111]], Ob.cells true false 2 [[vb b25, V.hs 2 0 1]]] }) = some st1 := by
      rw [loopRun_from, show prep (1) (X.keep 16 0) ({ T := V.ptr 0 0 0 :: i64 z24 :: vb b25 :: U :: U :: U :: V.ptr 1 0 0 :: V.ptr 3 0 0 :: i64 0 :: U :: U :: vb b25 :: V.ptr 0 0 0 :: V.agg [i64 z110, i64 z111] :: V.hs 2 0 1 :: V.agg [vb b25, V.hs 2 0 1] :: un 37 [], σ := [Ob.cells true false 2 [[V.list 1 l112, i64 z113]], Ob.cells true false 2 [[vb false, V.nilS]], Ob.cells true true 2 [[i64 z110, i64 z111]], Ob.cells true false 2 [[vb b25, V.hs 2 0 1]]] }) = { T := V.ptr 0 0 0 :: i64 z24 :: un 4 (V.ptr 1 0 0 :: V.ptr 2 0 0 :: i64 0 :: un 44 []), σ := [Ob.cells true false 2 [[V.list 1 l112, i64 z113]], Ob.cells true false 2 [[vb false, V.nilS]], Ob.cells true false 2 [[vb b25, V.hs 3 0 1]], Ob.cells true true 2 [[i64 z110, i64 z111]]] } by kernel_rfl]
      exact h1
    cases r1 with
    | e0 l141 z142 b143 k144 l145 =>
      obtain ⟨z138, z139, b140, rfl⟩ := hr1
      cases h
      exact call_pathL (gs := [.an (V.agg [i64 z110, i64 z111]) [Ob.cells true false 2 [[V.list 1 l112, i64 z113]]], .a, .lp (VX.exit 0) (s16_0_0 z138 z139 b140 l141 z142 b143 k144 l145), .a, .a]) (notIn []) rfl rfl (by kernel_rfl) (And.intro h0 (And.intro h1 True.intro))
/-! ## 94 -/
def F94 (z166 : Int) : Int :=
  Int.tmod (w64 (Int.tmod z166 23592960 + 23592960)) 23592960
theorem F94_ok (m : Nat) (z166 : Int) (z169 : Int) (h : F94 z166 = z169) : call Try.prog X O0 100000 (m + 1) 94 ([i64 z166]) ([]) = some (i64 z169, []) := by
  unfold F94 at h
  subst h
  exact call_pathL (gs := [.a, .a]) (notIn []) rfl rfl (by kernel_rfl) True.intro
/-! ## 65 -/
inductive A65 where
  | a0 (z174 : Int)
@[reducible] def A65.out : A65 → V × Store
  | .a0 z174 => (i64 z174, [])
def F65 (z171 : Int) : Option A65 :=
  bnd (F94 (z171)) fun z173 =>
  if z173 ≥ 11796480 then
   if w64 (2654208000 - w64 (Int.tdiv (w64 (w64 (z173 - 11796480) * w64 (11796480 - w64 (z173 - 11796480)))) 65536)) = 0 then
    none -- none
   else
    some (A65.a0 (w64 (0 - w64 (Int.tdiv (w64 (w64 (4 * w64 (Int.tdiv (w64 (w64 (z173 - 11796480) * w64 (11796480 - w64 (z173 - 11796480)))) 65536)) * 65536)) (w64 (2654208000 - w64 (Int.tdiv (w64 (w64 (z173 - 11796480) * w64 (11796480 - w64 (z173 - 11796480)))) 65536)))))))
  else
   if w64 (2654208000 - w64 (Int.tdiv (w64 (z173 * w64 (11796480 - z173))) 65536)) = 0 then
    none -- none
   else
    some (A65.a0 (w64 (Int.tdiv (w64 (w64 (4 * w64 (Int.tdiv (w64 (z173 * w64 (11796480 - z173))) 65536)) * 65536)) (w64 (2654208000 - w64 (Int.tdiv (w64 (z173 * w64 (11796480 - z173))) 65536))))))
theorem F65_ok (m : Nat) (z171 : Int) (r : A65) (h : F65 z171 = some r) : call Try.prog X O0 100000 (m + 2) 65 ([i64 z171]) ([]) = some r.out := by
  unfold F65 at h
  obtain ⟨z173, h0, h⟩ := bnd_eq h
  rcases ite_eq h with ⟨h1, h⟩ | ⟨h1, h⟩
  · skip
    rcases ite_eq h with ⟨h2, h⟩ | ⟨h2, h⟩
    · skip
      cases h
    · skip
      cases h
      exact call_pathL (gs := [.an (i64 z173) [], .t, .a, .f, .t]) (notIn []) rfl rfl (by kernel_rfl) (And.intro (F94_ok (m + 0) (z171) z173 h0) (And.intro (decide_eq_true h1) (And.intro (decide_eq_false h2) (And.intro (decide_eq_true h1) True.intro))))
  · skip
    rcases ite_eq h with ⟨h2, h⟩ | ⟨h2, h⟩
    · skip
      cases h
    · skip
      cases h
      exact call_pathL (gs := [.an (i64 z173) [], .f, .a, .f, .f]) (notIn []) rfl rfl (by kernel_rfl) (And.intro (F94_ok (m + 0) (z171) z173 h0) (And.intro (decide_eq_false h1) (And.intro (decide_eq_false h2) (And.intro (decide_eq_false h1) True.intro))))
/-! ## 64 -/
inductive A64 where
  | a0 (z176 : Int)
@[reducible] def A64.out : A64 → V × Store
  | .a0 z176 => (i64 z176, [])
def F64 (z164 : Int) : Option A64 :=
  bnd (F94 (z164)) fun z170 =>
  (F65 (w64 (z170 + 5898240))).bind fun r => match r with
  | .a0 z175 =>
   some (A64.a0 (z175))
theorem F64_ok (m : Nat) (z164 : Int) (r : A64) (h : F64 z164 = some r) : call Try.prog X O0 100000 (m + 3) 64 ([i64 z164]) ([]) = some r.out := by
  unfold F64 at h
  obtain ⟨z170, h0, h⟩ := bnd_eq h
  obtain ⟨r1, h1, h⟩ := Option.bind_eq_some_iff.mp h
  have h1 := F65_ok (m + 0) (w64 (z170 + 5898240)) r1 h1
  cases r1 with
  | a0 z175 =>
    cases h
    exact call_pathL (gs := [.an (i64 z170) [], .an (i64 z175) []]) (notIn []) rfl rfl (by kernel_rfl) (And.intro (F94_ok (m + 1) (z164) z170 h0) (And.intro h1 True.intro))
/-! ## 101 -/
def F101 (z184 : Int) (z185 : Int) (z186 : Int) : Int :=
  if z184 < z185 then
   z185
  else
   if z184 > z186 then
    z186
   else
    z184
theorem F101_ok (m : Nat) (z184 : Int) (z185 : Int) (z186 : Int) (z189 : Int) (h : F101 z184 z185 z186 = z189) : call Try.prog X O0 100000 (m + 1) 101 ([i64 z184, i64 z185, i64 z186]) ([]) = some (i64 z189, []) := by
  unfold F101 at h
  rcases ite_eq h with ⟨h0, h⟩ | ⟨h0, h⟩
  · skip
    subst h
    exact call_pathL (gs := [.t]) (notIn []) rfl rfl (by kernel_rfl) (And.intro (decide_eq_true h0) True.intro)
  · skip
    rcases ite_eq h with ⟨h1, h⟩ | ⟨h1, h⟩
    · skip
      subst h
      exact call_pathL (gs := [.f, .t]) (notIn []) rfl rfl (by kernel_rfl) (And.intro (decide_eq_false h0) (And.intro (decide_eq_true h1) True.intro))
    · skip
      subst h
      exact call_pathL (gs := [.f, .f]) (notIn []) rfl rfl (by kernel_rfl) (And.intro (decide_eq_false h0) (And.intro (decide_eq_false h1) True.intro))
/-! ## 74 -/
def F74 (z182 : Int) : Int :=
  bnd (F101 (z182) (-1099511627776) (1099511627776)) fun z190 =>
  z190
theorem F74_ok (m : Nat) (z182 : Int) (z192 : Int) (h : F74 z182 = z192) : call Try.prog X O0 100000 (m + 2) 74 ([i64 z182]) ([]) = some (i64 z192, []) := by
  unfold F74 at h
  obtain ⟨z190, h0, h⟩ := bnd_eq h
  subst h
  exact call_pathL (gs := [.an (i64 z190) []]) (notIn []) rfl rfl (by kernel_rfl) (And.intro (F101_ok (m + 0) (z182) (-1099511627776) (1099511627776) z190 h0) True.intro)
/-! ## 95 -/
inductive A95 where
  | a0 (z196 : Int) (b197 : Bool)
@[reducible] def A95.out : A95 → V × Store
  | .a0 z196 b197 => (V.tup [V.int IntKind.u64 z196, vb b197], [])
def F95 (z194 : Int) : Option A95 :=
  if z194 < 0 then
   some (A95.a0 (IntKind.wrap IntKind.u64 (w64 (0 - z194))) (true))
  else
   some (A95.a0 (IntKind.wrap IntKind.u64 z194) (false))
theorem F95_ok (m : Nat) (z194 : Int) (r : A95) (h : F95 z194 = some r) : call Try.prog X O0 100000 (m + 1) 95 ([i64 z194]) ([]) = some r.out := by
  unfold F95 at h
  rcases ite_eq h with ⟨h0, h⟩ | ⟨h0, h⟩
  · skip
    cases h
    exact call_pathL (gs := [.t]) (notIn []) rfl rfl (by kernel_rfl) (And.intro (decide_eq_true h0) True.intro)
  · skip
    cases h
    exact call_pathL (gs := [.f]) (notIn []) rfl rfl (by kernel_rfl) (And.intro (decide_eq_false h0) True.intro)
/-! ## 96 -/
inductive A96 where
  | a0 (z206 : Int) (z207 : Int)
@[reducible] def A96.out : A96 → V × Store
  | .a0 z206 z207 => (V.tup [V.int IntKind.u64 z206, V.int IntKind.u64 z207], [])
def F96 (z203 : Int) (z204 : Int) : Option A96 :=
  some (A96.a0 (IntKind.wrap IntKind.u64 (IntKind.wrap IntKind.u64 (IntKind.wrap IntKind.u64 (Int.fdiv z203 4294967296 * Int.fdiv z204 4294967296) + Int.fdiv (IntKind.wrap IntKind.u64 (IntKind.wrap IntKind.u64 (Int.fdiv z203 4294967296 * IntKind.wrap IntKind.u64 (↑(BitVec.toNat (BitVec.ofInt (IntKind.bits IntKind.u64) z204 &&& BitVec.ofInt (IntKind.bits IntKind.u64) 4294967295)) : Int)) + Int.fdiv (IntKind.wrap IntKind.u64 (IntKind.wrap IntKind.u64 (↑(BitVec.toNat (BitVec.ofInt (IntKind.bits IntKind.u64) z203 &&& BitVec.ofInt (IntKind.bits IntKind.u64) 4294967295)) : Int) * IntKind.wrap IntKind.u64 (↑(BitVec.toNat (BitVec.ofInt (IntKind.bits IntKind.u64) z204 &&& BitVec.ofInt (IntKind.bits IntKind.u64) 4294967295)) : Int))) 4294967296)) 4294967296) + Int.fdiv (IntKind.wrap IntKind.u64 (IntKind.wrap IntKind.u64 (↑(BitVec.toNat (BitVec.ofInt (IntKind.bits IntKind.u64) (IntKind.wrap IntKind.u64 (IntKind.wrap IntKind.u64 (Int.fdiv z203 4294967296 * IntKind.wrap IntKind.u64 (↑(BitVec.toNat (BitVec.ofInt (IntKind.bits IntKind.u64) z204 &&& BitVec.ofInt (IntKind.bits IntKind.u64) 4294967295)) : Int)) + Int.fdiv (IntKind.wrap IntKind.u64 (IntKind.wrap IntKind.u64 (↑(BitVec.toNat (BitVec.ofInt (IntKind.bits IntKind.u64) z203 &&& BitVec.ofInt (IntKind.bits IntKind.u64) 4294967295)) : Int) * IntKind.wrap IntKind.u64 (↑(BitVec.toNat (BitVec.ofInt (IntKind.bits IntKind.u64) z204 &&& BitVec.ofInt (IntKind.bits IntKind.u64) 4294967295)) : Int))) 4294967296)) &&& BitVec.ofInt (IntKind.bits IntKind.u64) 4294967295)) : Int) + IntKind.wrap IntKind.u64 (IntKind.wrap IntKind.u64 (↑(BitVec.toNat (BitVec.ofInt (IntKind.bits IntKind.u64) z203 &&& BitVec.ofInt (IntKind.bits IntKind.u64) 4294967295)) : Int) * Int.fdiv z204 4294967296))) 4294967296)) (IntKind.wrap IntKind.u64 (z203 * z204)))
theorem F96_ok (m : Nat) (z203 : Int) (z204 : Int) (r : A96) (h : F96 z203 z204 = some r) : call Try.prog X O0 100000 (m + 1) 96 ([V.int IntKind.u64 z203, V.int IntKind.u64 z204]) ([]) = some r.out := by
  unfold F96 at h
  cases h
  exact call_pathL (gs := []) (notIn []) rfl rfl (by kernel_rfl) True.intro
/-! ## 123 -/
inductive A123 where
@[reducible] def A123.out : A123 → V × Store
  := fun x => nomatch x
def F123 (z224 : Int) : Option A123 :=
  if z224 ≥ 4294967296 then
   if Int.fdiv z224 4294967296 ≥ 65536 then
    if Int.fdiv (Int.fdiv z224 4294967296) 65536 ≥ 256 then
     none -- none
    else
     none -- none
   else
    if Int.fdiv z224 4294967296 ≥ 256 then
     none -- none
    else
     none -- none
  else
   if z224 ≥ 65536 then
    if Int.fdiv z224 65536 ≥ 256 then
     none -- none
    else
     none -- none
   else
    if z224 ≥ 256 then
     none -- none
    else
     none -- none
theorem F123_ok (m : Nat) (z224 : Int) (r : A123) (h : F123 z224 = some r) : call Try.prog X O0 100000 (m + 1) 123 ([V.int IntKind.u64 z224]) ([]) = some r.out := by
  unfold F123 at h
  rcases ite_eq h with ⟨h0, h⟩ | ⟨h0, h⟩
  · skip
    rcases ite_eq h with ⟨h1, h⟩ | ⟨h1, h⟩
    · skip
      rcases ite_eq h with ⟨h2, h⟩ | ⟨h2, h⟩
      · skip
        cases h
      · skip
        cases h
    · skip
      rcases ite_eq h with ⟨h2, h⟩ | ⟨h2, h⟩
      · skip
        cases h
      · skip
        cases h
  · skip
    rcases ite_eq h with ⟨h1, h⟩ | ⟨h1, h⟩
    · skip
      rcases ite_eq h with ⟨h2, h⟩ | ⟨h2, h⟩
      · skip
        cases h
      · skip
        cases h
    · skip
      rcases ite_eq h with ⟨h2, h⟩ | ⟨h2, h⟩
      · skip
        cases h
      · skip
        cases h
/-! ## 119 -/
inductive A119 where
@[reducible] def A119.out : A119 → V × Store
  := fun x => nomatch x
def F119 (z222 : Int) : Option A119 :=
  none -- F123 has no answer
theorem F119_ok (m : Nat) (z222 : Int) (r : A119) (h : F119 z222 = some r) : call Try.prog X O0 100000 (m + 2) 119 ([V.int IntKind.u64 z222]) ([]) = some r.out := by
  unfold F119 at h
  cases h
/-! ## 113 -/
inductive A113 where
  | a0 (z220 : Int) (z221 : Int)
@[reducible] def A113.out : A113 → V × Store
  | .a0 z220 z221 => (V.tup [V.int IntKind.u64 z220, V.int IntKind.u64 z221], [])
def F113 (z216 : Int) (z217 : Int) (z218 : Int) : Option A113 :=
  if (z218 == 0) = true then
   none -- none
  else
   if z218 ≤ z216 then
    none -- none
   else
    if (z216 == 0) = true then
     if z218 = 0 then
      none -- none
     else
      some (A113.a0 (IntKind.wrap IntKind.u64 (Int.tdiv z217 z218)) (Int.tmod z217 z218))
    else
     none -- F119 has no answer
theorem F113_ok (m : Nat) (z216 : Int) (z217 : Int) (z218 : Int) (r : A113) (h : F113 z216 z217 z218 = some r) : call Try.prog X O0 100000 (m + 3) 113 ([V.int IntKind.u64 z216, V.int IntKind.u64 z217, V.int IntKind.u64 z218]) ([]) = some r.out := by
  unfold F113 at h
  rcases ite_eq h with ⟨h0, h⟩ | ⟨h0, h⟩
  · skip
    cases h
  · skip
    rcases ite_eq h with ⟨h1, h⟩ | ⟨h1, h⟩
    · skip
      cases h
    · skip
      rcases ite_eq h with ⟨h2, h⟩ | ⟨h2, h⟩
      · skip
        rcases ite_eq h with ⟨h3, h⟩ | ⟨h3, h⟩
        · skip
          cases h
        · skip
          cases h
          exact call_pathL (gs := [.f, .f, .t, .f, .f, .ft [⟨0, [], []⟩, ⟨1, [], []⟩, ⟨2, [], []⟩, ⟨3, [], []⟩, ⟨4, [], []⟩, ⟨5, [], []⟩, ⟨6, [], []⟩, ⟨7, [], []⟩]]) (notIn []) rfl rfl (by kernel_rfl) (And.intro (Bool.eq_false_iff.mpr h0) (And.intro (decide_eq_false h1) (And.intro h2 (And.intro (decide_eq_false h3) (And.intro (decide_eq_false h3) (And.intro (Eq.refl ([⟨0, [], []⟩, ⟨1, [], []⟩, ⟨2, [], []⟩, ⟨3, [], []⟩, ⟨4, [], []⟩, ⟨5, [], []⟩, ⟨6, [], []⟩, ⟨7, [], []⟩] : List Foot)) True.intro))))))
      · skip
        cases h
/-! ## 97 -/
inductive A97 where
  | a0 (z215 : Int)
@[reducible] def A97.out : A97 → V × Store
  | .a0 z215 => (i64 z215, [])
def F97 (z210 : Int) (z211 : Int) (z212 : Int) (b213 : Bool) : Option A97 :=
  if z210 ≥ z212 then
   if (b213) = true then
    some (A97.a0 (-1099511627776))
   else
    some (A97.a0 (1099511627776))
  else
   (F113 (z210) (z211) (z212)).bind fun r => match r with
   | .a0 z226 z227 =>
    if (b213) = true then
     if z227 > 0 then
      if z226 < 4611686018427387904 then
       bnd (F74 (w64 (0 - w64 (if 4611686018427387904 < IntKind.wrap IntKind.u64 (z226 + 1) then 4611686018427387904 else IntKind.wrap IntKind.u64 (z226 + 1))))) fun z228 =>
       some (A97.a0 (z228))
      else
       bnd (F74 (w64 (0 - w64 (if 4611686018427387904 < z226 then 4611686018427387904 else z226)))) fun z229 =>
       some (A97.a0 (z229))
     else
      bnd (F74 (w64 (0 - w64 (if 4611686018427387904 < z226 then 4611686018427387904 else z226)))) fun z230 =>
      some (A97.a0 (z230))
    else
     bnd (F74 (w64 (if 4611686018427387904 < z226 then 4611686018427387904 else z226))) fun z231 =>
     some (A97.a0 (z231))
theorem F97_ok (m : Nat) (z210 : Int) (z211 : Int) (z212 : Int) (b213 : Bool) (r : A97) (h : F97 z210 z211 z212 b213 = some r) : call Try.prog X O0 100000 (m + 4) 97 ([V.int IntKind.u64 z210, V.int IntKind.u64 z211, V.int IntKind.u64 z212, vb b213]) ([]) = some r.out := by
  unfold F97 at h
  rcases ite_eq h with ⟨h0, h⟩ | ⟨h0, h⟩
  · skip
    rcases ite_eq h with ⟨h1, h⟩ | ⟨h1, h⟩
    · skip
      cases h
      exact call_pathL (gs := [.t, .t]) (notIn []) rfl rfl (by kernel_rfl) (And.intro (decide_eq_true h0) (And.intro h1 True.intro))
    · skip
      cases h
      exact call_pathL (gs := [.t, .f]) (notIn []) rfl rfl (by kernel_rfl) (And.intro (decide_eq_true h0) (And.intro (Bool.eq_false_iff.mpr h1) True.intro))
  · skip
    obtain ⟨r1, h1, h⟩ := Option.bind_eq_some_iff.mp h
    have h1 := F113_ok (m + 0) (z210) (z211) (z212) r1 h1
    cases r1 with
    | a0 z226 z227 =>
      rcases ite_eq h with ⟨h2, h⟩ | ⟨h2, h⟩
      · skip
        rcases ite_eq h with ⟨h3, h⟩ | ⟨h3, h⟩
        · skip
          rcases ite_eq h with ⟨h4, h⟩ | ⟨h4, h⟩
          · skip
            obtain ⟨z228, h5, h⟩ := bnd_eq h
            cases h
            exact call_pathL (gs := [.f, .an (V.tup [V.int IntKind.u64 z226, V.int IntKind.u64 z227]) [], .t, .t, .t, .t, .t, .t, .t, .t, .an (i64 z228) []]) (notIn []) rfl rfl (by kernel_rfl) (And.intro (decide_eq_false h0) (And.intro h1 (And.intro h2 (And.intro h2 (And.intro h2 (And.intro (decide_eq_true h3) (And.intro (decide_eq_true h3) (And.intro (decide_eq_true h3) (And.intro (decide_eq_true h4) (And.intro h2 (And.intro (F74_ok (m + 1) (w64 (0 - w64 (if 4611686018427387904 < IntKind.wrap IntKind.u64 (z226 + 1) then 4611686018427387904 else IntKind.wrap IntKind.u64 (z226 + 1)))) z228 h5) True.intro)))))))))))
          · skip
            obtain ⟨z229, h5, h⟩ := bnd_eq h
            cases h
            exact call_pathL (gs := [.f, .an (V.tup [V.int IntKind.u64 z226, V.int IntKind.u64 z227]) [], .t, .t, .t, .t, .t, .t, .f, .t, .an (i64 z229) []]) (notIn []) rfl rfl (by kernel_rfl) (And.intro (decide_eq_false h0) (And.intro h1 (And.intro h2 (And.intro h2 (And.intro h2 (And.intro (decide_eq_true h3) (And.intro (decide_eq_true h3) (And.intro (decide_eq_true h3) (And.intro (decide_eq_false h4) (And.intro h2 (And.intro (F74_ok (m + 1) (w64 (0 - w64 (if 4611686018427387904 < z226 then 4611686018427387904 else z226))) z229 h5) True.intro)))))))))))
        · skip
          obtain ⟨z230, h4, h⟩ := bnd_eq h
          cases h
          exact call_pathL (gs := [.f, .an (V.tup [V.int IntKind.u64 z226, V.int IntKind.u64 z227]) [], .t, .t, .t, .f, .f, .f, .a, .t, .an (i64 z230) []]) (notIn []) rfl rfl (by kernel_rfl) (And.intro (decide_eq_false h0) (And.intro h1 (And.intro h2 (And.intro h2 (And.intro h2 (And.intro (decide_eq_false h3) (And.intro (decide_eq_false h3) (And.intro (decide_eq_false h3) (And.intro h2 (And.intro (F74_ok (m + 1) (w64 (0 - w64 (if 4611686018427387904 < z226 then 4611686018427387904 else z226))) z230 h4) True.intro))))))))))
      · skip
        obtain ⟨z231, h3, h⟩ := bnd_eq h
        cases h
        exact call_pathL (gs := [.f, .an (V.tup [V.int IntKind.u64 z226, V.int IntKind.u64 z227]) [], .f, .f, .f, .a, .a, .a, .a, .f, .an (i64 z231) []]) (notIn []) rfl rfl (by kernel_rfl) (And.intro (decide_eq_false h0) (And.intro h1 (And.intro (Bool.eq_false_iff.mpr h2) (And.intro (Bool.eq_false_iff.mpr h2) (And.intro (Bool.eq_false_iff.mpr h2) (And.intro (Bool.eq_false_iff.mpr h2) (And.intro (F74_ok (m + 1) (w64 (if 4611686018427387904 < z226 then 4611686018427387904 else z226)) z231 h3) True.intro)))))))
/-! ## 66 -/
inductive A66 where
  | a0 (z233 : Int)
@[reducible] def A66.out : A66 → V × Store
  | .a0 z233 => (i64 z233, [])
def F66 (z179 : Int) (z180 : Int) : Option A66 :=
  bnd (F74 (z179)) fun z193 =>
  (F95 (z193)).bind fun r => match r with
  | .a0 z198 b199 =>
   bnd (F74 (z180)) fun z200 =>
   (F95 (z200)).bind fun r => match r with
   | .a0 z201 b202 =>
    (F96 (z198) (z201)).bind fun r => match r with
    | .a0 z208 z209 =>
     (F97 (z208) (z209) (65536) (!b199 == b202)).bind fun r => match r with
     | .a0 z232 =>
      some (A66.a0 (z232))
theorem F66_ok (m : Nat) (z179 : Int) (z180 : Int) (r : A66) (h : F66 z179 z180 = some r) : call Try.prog X O0 100000 (m + 5) 66 ([i64 z179, i64 z180]) ([]) = some r.out := by
  unfold F66 at h
  obtain ⟨z193, h0, h⟩ := bnd_eq h
  obtain ⟨r1, h1, h⟩ := Option.bind_eq_some_iff.mp h
  have h1 := F95_ok (m + 3) (z193) r1 h1
  cases r1 with
  | a0 z198 b199 =>
    obtain ⟨z200, h2, h⟩ := bnd_eq h
    obtain ⟨r3, h3, h⟩ := Option.bind_eq_some_iff.mp h
    have h3 := F95_ok (m + 3) (z200) r3 h3
    cases r3 with
    | a0 z201 b202 =>
      obtain ⟨r4, h4, h⟩ := Option.bind_eq_some_iff.mp h
      have h4 := F96_ok (m + 3) (z198) (z201) r4 h4
      cases r4 with
      | a0 z208 z209 =>
        obtain ⟨r5, h5, h⟩ := Option.bind_eq_some_iff.mp h
        have h5 := F97_ok (m + 0) (z208) (z209) (65536) (!b199 == b202) r5 h5
        cases r5 with
        | a0 z232 =>
          cases h
          exact call_pathL (gs := [.an (i64 z193) [], .an (V.tup [V.int IntKind.u64 z198, vb b199]) [], .an (i64 z200) [], .an (V.tup [V.int IntKind.u64 z201, vb b202]) [], .an (V.tup [V.int IntKind.u64 z208, V.int IntKind.u64 z209]) [], .an (i64 z232) []]) (notIn []) rfl rfl (by kernel_rfl) (And.intro (F74_ok (m + 2) (z179) z193 h0) (And.intro h1 (And.intro (F74_ok (m + 2) (z180) z200 h2) (And.intro h3 (And.intro h4 (And.intro h5 True.intro))))))
/-! ## 60 -/
def F60 (z246 : Int) (z247 : Int) : Int :=
  bnd (F74 (z246)) fun z249 =>
  bnd (F74 (z247)) fun z250 =>
  bnd (F74 (w64 (z249 + z250))) fun z251 =>
  z251
theorem F60_ok (m : Nat) (z246 : Int) (z247 : Int) (z253 : Int) (h : F60 z246 z247 = z253) : call Try.prog X O0 100000 (m + 3) 60 ([i64 z246, i64 z247]) ([]) = some (i64 z253, []) := by
  unfold F60 at h
  obtain ⟨z249, h0, h⟩ := bnd_eq h
  obtain ⟨z250, h1, h⟩ := bnd_eq h
  obtain ⟨z251, h2, h⟩ := bnd_eq h
  subst h
  exact call_pathL (gs := [.an (i64 z249) [], .an (i64 z250) [], .an (i64 z251) []]) (notIn []) rfl rfl (by kernel_rfl) (And.intro (F74_ok (m + 0) (z246) z249 h0) (And.intro (F74_ok (m + 0) (z247) z250 h1) (And.intro (F74_ok (m + 0) (w64 (z249 + z250)) z251 h2) True.intro)))
/-! ## 67 -/
inductive A67 where
  | a0 (z256 : Int)
@[reducible] def A67.out : A67 → V × Store
  | .a0 z256 => (i64 z256, [])
def F67 (z238 : Int) (z239 : Int) (z240 : Int) (z241 : Int) (z242 : Int) : Option A67 :=
  (F66 (z238) (z239)).bind fun r => match r with
  | .a0 z244 =>
   (F66 (z240) (z241)).bind fun r => match r with
   | .a0 z245 =>
    bnd (F60 (z244) (z245)) fun z254 =>
    bnd (F60 (z254) (z242)) fun z255 =>
    some (A67.a0 (z255))
theorem F67_ok (m : Nat) (z238 : Int) (z239 : Int) (z240 : Int) (z241 : Int) (z242 : Int) (r : A67) (h : F67 z238 z239 z240 z241 z242 = some r) : call Try.prog X O0 100000 (m + 6) 67 ([i64 z238, i64 z239, i64 z240, i64 z241, i64 z242]) ([]) = some r.out := by
  unfold F67 at h
  obtain ⟨r0, h0, h⟩ := Option.bind_eq_some_iff.mp h
  have h0 := F66_ok (m + 0) (z238) (z239) r0 h0
  cases r0 with
  | a0 z244 =>
    obtain ⟨r1, h1, h⟩ := Option.bind_eq_some_iff.mp h
    have h1 := F66_ok (m + 0) (z240) (z241) r1 h1
    cases r1 with
    | a0 z245 =>
      obtain ⟨z254, h2, h⟩ := bnd_eq h
      obtain ⟨z255, h3, h⟩ := bnd_eq h
      cases h
      exact call_pathL (gs := [.an (i64 z244) [], .an (i64 z245) [], .an (i64 z254) [], .an (i64 z255) []]) (notIn []) rfl rfl (by kernel_rfl) (And.intro h0 (And.intro h1 (And.intro (F60_ok (m + 2) (z244) (z245) z254 h2) (And.intro (F60_ok (m + 2) (z254) (z242) z255 h3) True.intro))))
/-! ## 33 -/
inductive A33 where
  | a0 (z261 : Int) (z262 : Int) (z263 : Int) (z264 : Int) (z265 : Int) (z266 : Int)
@[reducible] def A33.out : A33 → V × Store
  | .a0 z261 z262 z263 z264 z265 z266 => (V.agg [i64 z261, i64 z262, i64 z263, i64 z264, i64 z265, i64 z266], [])
def F33 (z156 : Int) (z157 : Int) (z158 : Int) (z159 : Int) (z160 : Int) (z161 : Int) (z162 : Int) : Option A33 :=
  (F64 (z162)).bind fun r => match r with
  | .a0 z177 =>
   (F65 (z162)).bind fun r => match r with
   | .a0 z178 =>
    (F66 (z177) (z160)).bind fun r => match r with
    | .a0 z234 =>
     (F66 (z178) (z160)).bind fun r => match r with
     | .a0 z235 =>
      (F66 (w64 (0 - z178)) (z161)).bind fun r => match r with
      | .a0 z236 =>
       (F66 (z177) (z161)).bind fun r => match r with
       | .a0 z237 =>
        (F67 (z234) (z158) (z236) (z159) (0)).bind fun r => match r with
        | .a0 z257 =>
         bnd (F60 (z156) (w64 (0 - z257))) fun z258 =>
         (F67 (z235) (z158) (z237) (z159) (0)).bind fun r => match r with
         | .a0 z259 =>
          bnd (F60 (z157) (w64 (0 - z259))) fun z260 =>
          some (A33.a0 (z234) (z235) (z236) (z237) (z258) (z260))
theorem F33_ok (m : Nat) (z156 : Int) (z157 : Int) (z158 : Int) (z159 : Int) (z160 : Int) (z161 : Int) (z162 : Int) (r : A33) (h : F33 z156 z157 z158 z159 z160 z161 z162 = some r) : call Try.prog X O0 100000 (m + 7) 33 ([i64 z156, i64 z157, i64 z158, i64 z159, i64 z160, i64 z161, i64 z162]) ([]) = some r.out := by
  unfold F33 at h
  obtain ⟨r0, h0, h⟩ := Option.bind_eq_some_iff.mp h
  have h0 := F64_ok (m + 3) (z162) r0 h0
  cases r0 with
  | a0 z177 =>
    obtain ⟨r1, h1, h⟩ := Option.bind_eq_some_iff.mp h
    have h1 := F65_ok (m + 4) (z162) r1 h1
    cases r1 with
    | a0 z178 =>
      obtain ⟨r2, h2, h⟩ := Option.bind_eq_some_iff.mp h
      have h2 := F66_ok (m + 1) (z177) (z160) r2 h2
      cases r2 with
      | a0 z234 =>
        obtain ⟨r3, h3, h⟩ := Option.bind_eq_some_iff.mp h
        have h3 := F66_ok (m + 1) (z178) (z160) r3 h3
        cases r3 with
        | a0 z235 =>
          obtain ⟨r4, h4, h⟩ := Option.bind_eq_some_iff.mp h
          have h4 := F66_ok (m + 1) (w64 (0 - z178)) (z161) r4 h4
          cases r4 with
          | a0 z236 =>
            obtain ⟨r5, h5, h⟩ := Option.bind_eq_some_iff.mp h
            have h5 := F66_ok (m + 1) (z177) (z161) r5 h5
            cases r5 with
            | a0 z237 =>
              obtain ⟨r6, h6, h⟩ := Option.bind_eq_some_iff.mp h
              have h6 := F67_ok (m + 0) (z234) (z158) (z236) (z159) (0) r6 h6
              cases r6 with
              | a0 z257 =>
                obtain ⟨z258, h7, h⟩ := bnd_eq h
                obtain ⟨r8, h8, h⟩ := Option.bind_eq_some_iff.mp h
                have h8 := F67_ok (m + 0) (z235) (z158) (z237) (z159) (0) r8 h8
                cases r8 with
                | a0 z259 =>
                  obtain ⟨z260, h9, h⟩ := bnd_eq h
                  cases h
                  exact call_pathL (gs := [.an (i64 z177) [], .an (i64 z178) [], .an (i64 z234) [], .an (i64 z235) [], .an (i64 z236) [], .an (i64 z237) [], .a, .a, .a, .an (i64 z257) [], .an (i64 z258) [], .a, .a, .a, .an (i64 z259) [], .an (i64 z260) [], .a, .a, .a]) (notIn []) rfl rfl (by kernel_rfl) (And.intro h0 (And.intro h1 (And.intro h2 (And.intro h3 (And.intro h4 (And.intro h5 (And.intro h6 (And.intro (F60_ok (m + 3) (z156) (w64 (0 - z257)) z258 h7) (And.intro h8 (And.intro (F60_ok (m + 3) (z157) (w64 (0 - z259)) z260 h9) True.intro))))))))))
/-! ## 47 -/
inductive A47 where
  | a0 (k287 : Nat) (l288 : List (List V))
@[reducible] def A47.out : A47 → V × Store
  | .a0 k287 l288 => (V.hs 0 0 k287, [Ob.cells true true 2 l288])
def F47 (l285 : List (List V)) : Option A47 :=
  if 0 < List.length l285 then
   if (0 : Nat) ≤ (0 : Nat) ∧ ((0 : Nat) + List.length l285) * (16 : Nat) ≤ (140737488355328 : Nat) ∧ (0 : Nat) + List.length l285 ≤ (140737488355328 : Nat) then
    some (A47.a0 (0 + List.length l285) ([] ++ l285))
   else
    none -- none
  else
   none -- none
theorem F47_ok (m : Nat) (l285 : List (List V)) (r : A47) (h : F47 l285 = some r) : call Try.prog X O0 100000 (m + 1) 47 ([V.list 2 l285]) ([]) = some r.out := by
  unfold F47 at h
  rcases ite_eq h with ⟨h0, h⟩ | ⟨h0, h⟩
  · skip
    rcases ite_eq h with ⟨h1, h⟩ | ⟨h1, h⟩
    · skip
      cases h
      exact call_pathL (gs := [.t, .a, .t]) (notIn []) rfl rfl (by kernel_rfl) (And.intro (decide_eq_true h0) (And.intro (decide_eq_true h1) True.intro))
    · skip
      cases h
  · skip
    cases h
/-! ## 68 -/
inductive A68 where
  | a0 (b291 : Bool) (k292 : Nat) (l293 : List (List V))
@[reducible] def A68.out : A68 → V × Store
  | .a0 b291 k292 l293 => (V.agg [vb b291, V.hs 0 0 k292], [Ob.cells true true 2 l293])
def F68 (b282 : Bool) (l283 : List (List V)) : Option A68 :=
  (F47 (l283)).bind fun r => match r with
  | .a0 k289 l290 =>
   some (A68.a0 (b282) (k289) (l290))
theorem F68_ok (m : Nat) (b282 : Bool) (l283 : List (List V)) (r : A68) (h : F68 b282 l283 = some r) : call Try.prog X O0 100000 (m + 2) 68 ([V.agg [vb b282, V.list 2 l283]]) ([]) = some r.out := by
  unfold F68 at h
  obtain ⟨r0, h0, h⟩ := Option.bind_eq_some_iff.mp h
  have h0 := F47_ok (m + 0) (l283) r0 h0
  cases r0 with
  | a0 k289 l290 =>
    cases h
    exact call_pathL (gs := [.a, .a, .an (V.hs 0 0 k289) [Ob.cells true true 2 l290], .a, .ft [⟨0, [0], []⟩, ⟨1, [0], []⟩, ⟨2, [0], []⟩, ⟨3, [0], []⟩, ⟨4, [2], [2]⟩, ⟨5, [], []⟩, ⟨6, [1], [1]⟩]]) (notIn []) rfl rfl (by kernel_rfl) (And.intro h0 (And.intro (Eq.refl ([⟨0, [0], []⟩, ⟨1, [0], []⟩, ⟨2, [0], []⟩, ⟨3, [0], []⟩, ⟨4, [2], [2]⟩, ⟨5, [], []⟩, ⟨6, [1], [1]⟩] : List Foot)) True.intro))
/-! ## 90 -/
def F90 (z327 : Int) (z328 : Int) (z329 : Int) : Int :=
  if z327 < z328 then
   z328
  else
   if z327 > z329 then
    z329
   else
    z327
theorem F90_ok (m : Nat) (z327 : Int) (z328 : Int) (z329 : Int) (z332 : Int) (h : F90 z327 z328 z329 = z332) : call Try.prog X O0 100000 (m + 1) 90 ([i64 z327, i64 z328, i64 z329]) ([]) = some (i64 z332, []) := by
  unfold F90 at h
  rcases ite_eq h with ⟨h0, h⟩ | ⟨h0, h⟩
  · skip
    subst h
    exact call_pathL (gs := [.t]) (notIn []) rfl rfl (by kernel_rfl) (And.intro (decide_eq_true h0) True.intro)
  · skip
    rcases ite_eq h with ⟨h1, h⟩ | ⟨h1, h⟩
    · skip
      subst h
      exact call_pathL (gs := [.f, .t]) (notIn []) rfl rfl (by kernel_rfl) (And.intro (decide_eq_false h0) (And.intro (decide_eq_true h1) True.intro))
    · skip
      subst h
      exact call_pathL (gs := [.f, .f]) (notIn []) rfl rfl (by kernel_rfl) (And.intro (decide_eq_false h0) (And.intro (decide_eq_false h1) True.intro))
/-! ## 57 -/
def F57 (z325 : Int) : Int :=
  bnd (F90 (z325) (-1099511627776) (1099511627776)) fun z333 =>
  z333
theorem F57_ok (m : Nat) (z325 : Int) (z335 : Int) (h : F57 z325 = z335) : call Try.prog X O0 100000 (m + 2) 57 ([i64 z325]) ([]) = some (i64 z335, []) := by
  unfold F57 at h
  obtain ⟨z333, h0, h⟩ := bnd_eq h
  subst h
  exact call_pathL (gs := [.an (i64 z333) []]) (notIn []) rfl rfl (by kernel_rfl) (And.intro (F90_ok (m + 0) (z325) (-1099511627776) (1099511627776) z333 h0) True.intro)
/-! ## 93 -/
inductive A93 where
  | a0 (z343 : Int) (z344 : Int)
@[reducible] def A93.out : A93 → V × Store
  | .a0 z343 z344 => (V.tup [V.int IntKind.u64 z343, V.int IntKind.u64 z344], [])
def F93 (z338 : Int) (z339 : Int) : Option A93 :=
  (F96 (IntKind.wrap IntKind.u64 z338) (IntKind.wrap IntKind.u64 z339)).bind fun r => match r with
  | .a0 z341 z342 =>
   if z338 < 0 then
    if z339 < 0 then
     some (A93.a0 (IntKind.wrap IntKind.u64 (IntKind.wrap IntKind.u64 (z341 - IntKind.wrap IntKind.u64 z339) - IntKind.wrap IntKind.u64 z338)) (z342))
    else
     some (A93.a0 (IntKind.wrap IntKind.u64 (z341 - IntKind.wrap IntKind.u64 z339)) (z342))
   else
    if z339 < 0 then
     some (A93.a0 (IntKind.wrap IntKind.u64 (z341 - IntKind.wrap IntKind.u64 z338)) (z342))
    else
     some (A93.a0 (z341) (z342))
theorem F93_ok (m : Nat) (z338 : Int) (z339 : Int) (r : A93) (h : F93 z338 z339 = some r) : call Try.prog X O0 100000 (m + 2) 93 ([i64 z338, i64 z339]) ([]) = some r.out := by
  unfold F93 at h
  obtain ⟨r0, h0, h⟩ := Option.bind_eq_some_iff.mp h
  have h0 := F96_ok (m + 0) (IntKind.wrap IntKind.u64 z338) (IntKind.wrap IntKind.u64 z339) r0 h0
  cases r0 with
  | a0 z341 z342 =>
    rcases ite_eq h with ⟨h1, h⟩ | ⟨h1, h⟩
    · skip
      rcases ite_eq h with ⟨h2, h⟩ | ⟨h2, h⟩
      · skip
        cases h
        exact call_pathL (gs := [.an (V.tup [V.int IntKind.u64 z341, V.int IntKind.u64 z342]) [], .t, .t]) (notIn []) rfl rfl (by kernel_rfl) (And.intro h0 (And.intro (decide_eq_true h1) (And.intro (decide_eq_true h2) True.intro)))
      · skip
        cases h
        exact call_pathL (gs := [.an (V.tup [V.int IntKind.u64 z341, V.int IntKind.u64 z342]) [], .t, .f]) (notIn []) rfl rfl (by kernel_rfl) (And.intro h0 (And.intro (decide_eq_true h1) (And.intro (decide_eq_false h2) True.intro)))
    · skip
      rcases ite_eq h with ⟨h2, h⟩ | ⟨h2, h⟩
      · skip
        cases h
        exact call_pathL (gs := [.an (V.tup [V.int IntKind.u64 z341, V.int IntKind.u64 z342]) [], .f, .t]) (notIn []) rfl rfl (by kernel_rfl) (And.intro h0 (And.intro (decide_eq_false h1) (And.intro (decide_eq_true h2) True.intro)))
      · skip
        cases h
        exact call_pathL (gs := [.an (V.tup [V.int IntKind.u64 z341, V.int IntKind.u64 z342]) [], .f, .f]) (notIn []) rfl rfl (by kernel_rfl) (And.intro h0 (And.intro (decide_eq_false h1) (And.intro (decide_eq_false h2) True.intro)))
/-! ## 92 -/
def F92 (z347 : Int) (z348 : Int) : Int :=
  if Int.fdiv (w64 z347) 65536 < -1 then
   -9223372036854775808
  else
   if (Int.fdiv (w64 z347) 65536 == -1) = true then
    if (Int.fdiv (IntKind.wrap IntKind.u64 (↑(BitVec.toNat (BitVec.ofInt (IntKind.bits IntKind.u64) (IntKind.wrap IntKind.u64 (z347 * 2 ^ min (Int.toNat 48) (IntKind.bits IntKind.u64))) ||| BitVec.ofInt (IntKind.bits IntKind.u64) (Int.fdiv z348 (2 ^ min (Int.toNat 16) (IntKind.bits IntKind.u64))))) : Int)) 9223372036854775808 == 0) = true then
     -9223372036854775808
    else
     if Int.fdiv (w64 z347) 65536 > 0 then
      9223372036854775807
     else
      if (Int.fdiv (w64 z347) 65536 == 0) = true then
       if (Int.fdiv (IntKind.wrap IntKind.u64 (↑(BitVec.toNat (BitVec.ofInt (IntKind.bits IntKind.u64) (IntKind.wrap IntKind.u64 (z347 * 2 ^ min (Int.toNat 48) (IntKind.bits IntKind.u64))) ||| BitVec.ofInt (IntKind.bits IntKind.u64) (Int.fdiv z348 (2 ^ min (Int.toNat 16) (IntKind.bits IntKind.u64))))) : Int)) 9223372036854775808 != 0) = true then
        9223372036854775807
       else
        w64 (IntKind.wrap IntKind.u64 (↑(BitVec.toNat (BitVec.ofInt (IntKind.bits IntKind.u64) (IntKind.wrap IntKind.u64 (z347 * 2 ^ min (Int.toNat 48) (IntKind.bits IntKind.u64))) ||| BitVec.ofInt (IntKind.bits IntKind.u64) (Int.fdiv z348 (2 ^ min (Int.toNat 16) (IntKind.bits IntKind.u64))))) : Int))
      else
       w64 (IntKind.wrap IntKind.u64 (↑(BitVec.toNat (BitVec.ofInt (IntKind.bits IntKind.u64) (IntKind.wrap IntKind.u64 (z347 * 2 ^ min (Int.toNat 48) (IntKind.bits IntKind.u64))) ||| BitVec.ofInt (IntKind.bits IntKind.u64) (Int.fdiv z348 (2 ^ min (Int.toNat 16) (IntKind.bits IntKind.u64))))) : Int))
   else
    if Int.fdiv (w64 z347) 65536 > 0 then
     9223372036854775807
    else
     if (Int.fdiv (w64 z347) 65536 == 0) = true then
      if (Int.fdiv (IntKind.wrap IntKind.u64 (↑(BitVec.toNat (BitVec.ofInt (IntKind.bits IntKind.u64) (IntKind.wrap IntKind.u64 (z347 * 2 ^ min (Int.toNat 48) (IntKind.bits IntKind.u64))) ||| BitVec.ofInt (IntKind.bits IntKind.u64) (Int.fdiv z348 (2 ^ min (Int.toNat 16) (IntKind.bits IntKind.u64))))) : Int)) 9223372036854775808 != 0) = true then
       9223372036854775807
      else
       w64 (IntKind.wrap IntKind.u64 (↑(BitVec.toNat (BitVec.ofInt (IntKind.bits IntKind.u64) (IntKind.wrap IntKind.u64 (z347 * 2 ^ min (Int.toNat 48) (IntKind.bits IntKind.u64))) ||| BitVec.ofInt (IntKind.bits IntKind.u64) (Int.fdiv z348 (2 ^ min (Int.toNat 16) (IntKind.bits IntKind.u64))))) : Int))
     else
      w64 (IntKind.wrap IntKind.u64 (↑(BitVec.toNat (BitVec.ofInt (IntKind.bits IntKind.u64) (IntKind.wrap IntKind.u64 (z347 * 2 ^ min (Int.toNat 48) (IntKind.bits IntKind.u64))) ||| BitVec.ofInt (IntKind.bits IntKind.u64) (Int.fdiv z348 (2 ^ min (Int.toNat 16) (IntKind.bits IntKind.u64))))) : Int))
theorem F92_ok (m : Nat) (z347 : Int) (z348 : Int) (z351 : Int) (h : F92 z347 z348 = z351) : call Try.prog X O0 100000 (m + 1) 92 ([V.int IntKind.u64 z347, V.int IntKind.u64 z348]) ([]) = some (i64 z351, []) := by
  unfold F92 at h
  rcases ite_eq h with ⟨h0, h⟩ | ⟨h0, h⟩
  · skip
    subst h
    exact call_pathL (gs := [.t, .t, .t, .t, .t, .a]) (notIn []) rfl rfl (by kernel_rfl) (And.intro (decide_eq_true h0) (And.intro (decide_eq_true h0) (And.intro (decide_eq_true h0) (And.intro (decide_eq_true h0) (And.intro (decide_eq_true h0) True.intro)))))
  · skip
    rcases ite_eq h with ⟨h1, h⟩ | ⟨h1, h⟩
    · skip
      rcases ite_eq h with ⟨h2, h⟩ | ⟨h2, h⟩
      · skip
        subst h
        exact call_pathL (gs := [.f, .f, .f, .t, .t, .t, .f, .t, .f, .t]) (notIn []) rfl rfl (by kernel_rfl) (And.intro (decide_eq_false h0) (And.intro (decide_eq_false h0) (And.intro (decide_eq_false h0) (And.intro h1 (And.intro h1 (And.intro h1 (And.intro (decide_eq_false h0) (And.intro h1 (And.intro (decide_eq_false h0) (And.intro h2 True.intro))))))))))
      · skip
        rcases ite_eq h with ⟨h3, h⟩ | ⟨h3, h⟩
        · skip
          subst h
          exact call_pathL (gs := [.f, .f, .f, .t, .t, .t, .f, .t, .f, .f, .t, .t, .t, .t, .t, .a]) (notIn []) rfl rfl (by kernel_rfl) (And.intro (decide_eq_false h0) (And.intro (decide_eq_false h0) (And.intro (decide_eq_false h0) (And.intro h1 (And.intro h1 (And.intro h1 (And.intro (decide_eq_false h0) (And.intro h1 (And.intro (decide_eq_false h0) (And.intro (Bool.eq_false_iff.mpr h2) (And.intro (decide_eq_true h3) (And.intro (decide_eq_true h3) (And.intro (decide_eq_true h3) (And.intro (decide_eq_true h3) (And.intro (decide_eq_true h3) True.intro)))))))))))))))
        · skip
          rcases ite_eq h with ⟨h4, h⟩ | ⟨h4, h⟩
          · skip
            rcases ite_eq h with ⟨h5, h⟩ | ⟨h5, h⟩
            · skip
              subst h
              exact call_pathL (gs := [.f, .f, .f, .t, .t, .t, .f, .t, .f, .f, .f, .f, .f, .t, .t, .t, .f, .t, .f, .t]) (notIn []) rfl rfl (by kernel_rfl) (And.intro (decide_eq_false h0) (And.intro (decide_eq_false h0) (And.intro (decide_eq_false h0) (And.intro h1 (And.intro h1 (And.intro h1 (And.intro (decide_eq_false h0) (And.intro h1 (And.intro (decide_eq_false h0) (And.intro (Bool.eq_false_iff.mpr h2) (And.intro (decide_eq_false h3) (And.intro (decide_eq_false h3) (And.intro (decide_eq_false h3) (And.intro h4 (And.intro h4 (And.intro h4 (And.intro (decide_eq_false h3) (And.intro h4 (And.intro (decide_eq_false h3) (And.intro h5 True.intro))))))))))))))))))))
            · skip
              subst h
              exact call_pathL (gs := [.f, .f, .f, .t, .t, .t, .f, .t, .f, .f, .f, .f, .f, .t, .t, .t, .f, .t, .f, .f]) (notIn []) rfl rfl (by kernel_rfl) (And.intro (decide_eq_false h0) (And.intro (decide_eq_false h0) (And.intro (decide_eq_false h0) (And.intro h1 (And.intro h1 (And.intro h1 (And.intro (decide_eq_false h0) (And.intro h1 (And.intro (decide_eq_false h0) (And.intro (Bool.eq_false_iff.mpr h2) (And.intro (decide_eq_false h3) (And.intro (decide_eq_false h3) (And.intro (decide_eq_false h3) (And.intro h4 (And.intro h4 (And.intro h4 (And.intro (decide_eq_false h3) (And.intro h4 (And.intro (decide_eq_false h3) (And.intro (Bool.eq_false_iff.mpr h5) True.intro))))))))))))))))))))
          · skip
            subst h
            exact call_pathL (gs := [.f, .f, .f, .t, .t, .t, .f, .t, .f, .f, .f, .f, .f, .f, .f, .f, .f, .f, .f, .a]) (notIn []) rfl rfl (by kernel_rfl) (And.intro (decide_eq_false h0) (And.intro (decide_eq_false h0) (And.intro (decide_eq_false h0) (And.intro h1 (And.intro h1 (And.intro h1 (And.intro (decide_eq_false h0) (And.intro h1 (And.intro (decide_eq_false h0) (And.intro (Bool.eq_false_iff.mpr h2) (And.intro (decide_eq_false h3) (And.intro (decide_eq_false h3) (And.intro (decide_eq_false h3) (And.intro (Bool.eq_false_iff.mpr h4) (And.intro (Bool.eq_false_iff.mpr h4) (And.intro (Bool.eq_false_iff.mpr h4) (And.intro (decide_eq_false h3) (And.intro (Bool.eq_false_iff.mpr h4) (And.intro (decide_eq_false h3) True.intro)))))))))))))))))))
    · skip
      rcases ite_eq h with ⟨h2, h⟩ | ⟨h2, h⟩
      · skip
        subst h
        exact call_pathL (gs := [.f, .f, .f, .f, .f, .f, .f, .f, .f, .a, .t, .t, .t, .t, .t, .a]) (notIn []) rfl rfl (by kernel_rfl) (And.intro (decide_eq_false h0) (And.intro (decide_eq_false h0) (And.intro (decide_eq_false h0) (And.intro (Bool.eq_false_iff.mpr h1) (And.intro (Bool.eq_false_iff.mpr h1) (And.intro (Bool.eq_false_iff.mpr h1) (And.intro (decide_eq_false h0) (And.intro (Bool.eq_false_iff.mpr h1) (And.intro (decide_eq_false h0) (And.intro (decide_eq_true h2) (And.intro (decide_eq_true h2) (And.intro (decide_eq_true h2) (And.intro (decide_eq_true h2) (And.intro (decide_eq_true h2) True.intro))))))))))))))
      · skip
        rcases ite_eq h with ⟨h3, h⟩ | ⟨h3, h⟩
        · skip
          rcases ite_eq h with ⟨h4, h⟩ | ⟨h4, h⟩
          · skip
            subst h
            exact call_pathL (gs := [.f, .f, .f, .f, .f, .f, .f, .f, .f, .a, .f, .f, .f, .t, .t, .t, .f, .t, .f, .t]) (notIn []) rfl rfl (by kernel_rfl) (And.intro (decide_eq_false h0) (And.intro (decide_eq_false h0) (And.intro (decide_eq_false h0) (And.intro (Bool.eq_false_iff.mpr h1) (And.intro (Bool.eq_false_iff.mpr h1) (And.intro (Bool.eq_false_iff.mpr h1) (And.intro (decide_eq_false h0) (And.intro (Bool.eq_false_iff.mpr h1) (And.intro (decide_eq_false h0) (And.intro (decide_eq_false h2) (And.intro (decide_eq_false h2) (And.intro (decide_eq_false h2) (And.intro h3 (And.intro h3 (And.intro h3 (And.intro (decide_eq_false h2) (And.intro h3 (And.intro (decide_eq_false h2) (And.intro h4 True.intro)))))))))))))))))))
          · skip
            subst h
            exact call_pathL (gs := [.f, .f, .f, .f, .f, .f, .f, .f, .f, .a, .f, .f, .f, .t, .t, .t, .f, .t, .f, .f]) (notIn []) rfl rfl (by kernel_rfl) (And.intro (decide_eq_false h0) (And.intro (decide_eq_false h0) (And.intro (decide_eq_false h0) (And.intro (Bool.eq_false_iff.mpr h1) (And.intro (Bool.eq_false_iff.mpr h1) (And.intro (Bool.eq_false_iff.mpr h1) (And.intro (decide_eq_false h0) (And.intro (Bool.eq_false_iff.mpr h1) (And.intro (decide_eq_false h0) (And.intro (decide_eq_false h2) (And.intro (decide_eq_false h2) (And.intro (decide_eq_false h2) (And.intro h3 (And.intro h3 (And.intro h3 (And.intro (decide_eq_false h2) (And.intro h3 (And.intro (decide_eq_false h2) (And.intro (Bool.eq_false_iff.mpr h4) True.intro)))))))))))))))))))
        · skip
          subst h
          exact call_pathL (gs := [.f, .f, .f, .f, .f, .f, .f, .f, .f, .a, .f, .f, .f, .f, .f, .f, .f, .f, .f, .a]) (notIn []) rfl rfl (by kernel_rfl) (And.intro (decide_eq_false h0) (And.intro (decide_eq_false h0) (And.intro (decide_eq_false h0) (And.intro (Bool.eq_false_iff.mpr h1) (And.intro (Bool.eq_false_iff.mpr h1) (And.intro (Bool.eq_false_iff.mpr h1) (And.intro (decide_eq_false h0) (And.intro (Bool.eq_false_iff.mpr h1) (And.intro (decide_eq_false h0) (And.intro (decide_eq_false h2) (And.intro (decide_eq_false h2) (And.intro (decide_eq_false h2) (And.intro (Bool.eq_false_iff.mpr h3) (And.intro (Bool.eq_false_iff.mpr h3) (And.intro (Bool.eq_false_iff.mpr h3) (And.intro (decide_eq_false h2) (And.intro (Bool.eq_false_iff.mpr h3) (And.intro (decide_eq_false h2) True.intro))))))))))))))))))
/-! ## 63 -/
inductive A63 where
  | a0 (z354 : Int)
@[reducible] def A63.out : A63 → V × Store
  | .a0 z354 => (i64 z354, [])
def F63 (z322 : Int) (z323 : Int) : Option A63 :=
  bnd (F57 (z322)) fun z336 =>
  bnd (F57 (z323)) fun z337 =>
  (F93 (z336) (z337)).bind fun r => match r with
  | .a0 z345 z346 =>
   bnd (F92 (z345) (z346)) fun z352 =>
   bnd (F57 (z352)) fun z353 =>
   some (A63.a0 (z353))
theorem F63_ok (m : Nat) (z322 : Int) (z323 : Int) (r : A63) (h : F63 z322 z323 = some r) : call Try.prog X O0 100000 (m + 3) 63 ([i64 z322, i64 z323]) ([]) = some r.out := by
  unfold F63 at h
  obtain ⟨z336, h0, h⟩ := bnd_eq h
  obtain ⟨z337, h1, h⟩ := bnd_eq h
  obtain ⟨r2, h2, h⟩ := Option.bind_eq_some_iff.mp h
  have h2 := F93_ok (m + 0) (z336) (z337) r2 h2
  cases r2 with
  | a0 z345 z346 =>
    obtain ⟨z352, h3, h⟩ := bnd_eq h
    obtain ⟨z353, h4, h⟩ := bnd_eq h
    cases h
    exact call_pathL (gs := [.an (i64 z336) [], .an (i64 z337) [], .an (V.tup [V.int IntKind.u64 z345, V.int IntKind.u64 z346]) [], .an (i64 z352) [], .an (i64 z353) []]) (notIn []) rfl rfl (by kernel_rfl) (And.intro (F57_ok (m + 0) (z322) z336 h0) (And.intro (F57_ok (m + 0) (z323) z337 h1) (And.intro h2 (And.intro (F92_ok (m + 1) (z345) (z346) z352 h3) (And.intro (F57_ok (m + 0) (z352) z353 h4) True.intro)))))
/-! ## 56 -/
def F56 (z357 : Int) (z358 : Int) : Int :=
  bnd (F57 (z357)) fun z360 =>
  bnd (F57 (z358)) fun z361 =>
  bnd (F57 (w64 (z360 + z361))) fun z362 =>
  z362
theorem F56_ok (m : Nat) (z357 : Int) (z358 : Int) (z364 : Int) (h : F56 z357 z358 = z364) : call Try.prog X O0 100000 (m + 3) 56 ([i64 z357, i64 z358]) ([]) = some (i64 z364, []) := by
  unfold F56 at h
  obtain ⟨z360, h0, h⟩ := bnd_eq h
  obtain ⟨z361, h1, h⟩ := bnd_eq h
  obtain ⟨z362, h2, h⟩ := bnd_eq h
  subst h
  exact call_pathL (gs := [.an (i64 z360) [], .an (i64 z361) [], .an (i64 z362) []]) (notIn []) rfl rfl (by kernel_rfl) (And.intro (F57_ok (m + 0) (z357) z360 h0) (And.intro (F57_ok (m + 0) (z358) z361 h1) (And.intro (F57_ok (m + 0) (w64 (z360 + z361)) z362 h2) True.intro)))
/-! ## 99 -/
inductive A99 where
  | a0 (z366 : Int)
@[reducible] def A99.out : A99 → V × Store
  | .a0 z366 => (i64 z366, [])
def F99 (z317 : Int) (z318 : Int) (z319 : Int) (z320 : Int) : Option A99 :=
  (F63 (z317) (z318)).bind fun r => match r with
  | .a0 z355 =>
   (F63 (z319) (z320)).bind fun r => match r with
   | .a0 z356 =>
    bnd (F56 (z355) (z356)) fun z365 =>
    some (A99.a0 (z365))
theorem F99_ok (m : Nat) (z317 : Int) (z318 : Int) (z319 : Int) (z320 : Int) (r : A99) (h : F99 z317 z318 z319 z320 = some r) : call Try.prog X O0 100000 (m + 4) 99 ([i64 z317, i64 z318, i64 z319, i64 z320]) ([]) = some r.out := by
  unfold F99 at h
  obtain ⟨r0, h0, h⟩ := Option.bind_eq_some_iff.mp h
  have h0 := F63_ok (m + 0) (z317) (z318) r0 h0
  cases r0 with
  | a0 z355 =>
    obtain ⟨r1, h1, h⟩ := Option.bind_eq_some_iff.mp h
    have h1 := F63_ok (m + 0) (z319) (z320) r1 h1
    cases r1 with
    | a0 z356 =>
      obtain ⟨z365, h2, h⟩ := bnd_eq h
      cases h
      exact call_pathL (gs := [.an (i64 z355) [], .an (i64 z356) [], .an (i64 z365) []]) (notIn []) rfl rfl (by kernel_rfl) (And.intro h0 (And.intro h1 (And.intro (F56_ok (m + 0) (z355) (z356) z365 h2) True.intro)))
/-! ## 98 -/
def F98 (z369 : Int) : Int :=
  bnd (F90 (z369) (-536870912) (536870912)) fun z371 =>
  z371
theorem F98_ok (m : Nat) (z369 : Int) (z373 : Int) (h : F98 z369 = z373) : call Try.prog X O0 100000 (m + 2) 98 ([i64 z369]) ([]) = some (i64 z373, []) := by
  unfold F98 at h
  obtain ⟨z371, h0, h⟩ := bnd_eq h
  subst h
  exact call_pathL (gs := [.an (i64 z371) []]) (notIn []) rfl rfl (by kernel_rfl) (And.intro (F90_ok (m + 0) (z369) (-536870912) (536870912) z371 h0) True.intro)
/-! ## 69 -/
inductive A69 where
  | a0 (z378 : Int) (z379 : Int)
@[reducible] def A69.out : A69 → V × Store
  | .a0 z378 z379 => (V.agg [i64 z378, i64 z379], [])
def F69 (z308 : Int) (z309 : Int) (z310 : Int) (z311 : Int) (z312 : Int) (z313 : Int) (z314 : Int) (z315 : Int) : Option A69 :=
  (F99 (z308) (z314) (z310) (z315)).bind fun r => match r with
  | .a0 z367 =>
   bnd (F56 (z367) (z312)) fun z368 =>
   bnd (F98 (z368)) fun z374 =>
   (F99 (z309) (z314) (z311) (z315)).bind fun r => match r with
   | .a0 z375 =>
    bnd (F56 (z375) (z313)) fun z376 =>
    bnd (F98 (z376)) fun z377 =>
    some (A69.a0 (z374) (z377))
theorem F69_ok (m : Nat) (z308 : Int) (z309 : Int) (z310 : Int) (z311 : Int) (z312 : Int) (z313 : Int) (z314 : Int) (z315 : Int) (r : A69) (h : F69 z308 z309 z310 z311 z312 z313 z314 z315 = some r) : call Try.prog X O0 100000 (m + 5) 69 ([V.agg [i64 z308, i64 z309, i64 z310, i64 z311, i64 z312, i64 z313], V.agg [i64 z314, i64 z315]]) ([]) = some r.out := by
  unfold F69 at h
  obtain ⟨r0, h0, h⟩ := Option.bind_eq_some_iff.mp h
  have h0 := F99_ok (m + 0) (z308) (z314) (z310) (z315) r0 h0
  cases r0 with
  | a0 z367 =>
    obtain ⟨z368, h1, h⟩ := bnd_eq h
    obtain ⟨z374, h2, h⟩ := bnd_eq h
    obtain ⟨r3, h3, h⟩ := Option.bind_eq_some_iff.mp h
    have h3 := F99_ok (m + 0) (z309) (z314) (z311) (z315) r3 h3
    cases r3 with
    | a0 z375 =>
      obtain ⟨z376, h4, h⟩ := bnd_eq h
      obtain ⟨z377, h5, h⟩ := bnd_eq h
      cases h
      exact call_pathL (gs := [.a, .a, .a, .a, .an (i64 z367) [], .a, .an (i64 z368) [], .an (i64 z374) [], .a, .a, .a, .a, .an (i64 z375) [], .a, .an (i64 z376) [], .an (i64 z377) [], .a, .ft [⟨0, [0], []⟩, ⟨1, [0], []⟩, ⟨2, [1], []⟩, ⟨3, [1], []⟩, ⟨4, [0], []⟩, ⟨5, [0], []⟩, ⟨6, [1], []⟩, ⟨7, [1], []⟩, ⟨8, [], []⟩, ⟨9, [0], []⟩, ⟨10, [0], []⟩, ⟨11, [], []⟩, ⟨12, [], []⟩, ⟨13, [0], []⟩, ⟨14, [0], []⟩, ⟨15, [1], []⟩, ⟨16, [1], []⟩, ⟨17, [0], []⟩, ⟨18, [0], []⟩, ⟨19, [1], []⟩, ⟨20, [1], []⟩, ⟨21, [], []⟩, ⟨22, [0], []⟩, ⟨23, [0], []⟩, ⟨24, [], []⟩, ⟨25, [], []⟩, ⟨26, [], []⟩, ⟨27, [2], [2]⟩]]) (notIn []) rfl rfl (by kernel_rfl) (And.intro h0 (And.intro (F56_ok (m + 1) (z367) (z312) z368 h1) (And.intro (F98_ok (m + 2) (z368) z374 h2) (And.intro h3 (And.intro (F56_ok (m + 1) (z375) (z313) z376 h4) (And.intro (F98_ok (m + 2) (z376) z377 h5) (And.intro (Eq.refl ([⟨0, [0], []⟩, ⟨1, [0], []⟩, ⟨2, [1], []⟩, ⟨3, [1], []⟩, ⟨4, [0], []⟩, ⟨5, [0], []⟩, ⟨6, [1], []⟩, ⟨7, [1], []⟩, ⟨8, [], []⟩, ⟨9, [0], []⟩, ⟨10, [0], []⟩, ⟨11, [], []⟩, ⟨12, [], []⟩, ⟨13, [0], []⟩, ⟨14, [0], []⟩, ⟨15, [1], []⟩, ⟨16, [1], []⟩, ⟨17, [0], []⟩, ⟨18, [0], []⟩, ⟨19, [1], []⟩, ⟨20, [1], []⟩, ⟨21, [], []⟩, ⟨22, [0], []⟩, ⟨23, [0], []⟩, ⟨24, [], []⟩, ⟨25, [], []⟩, ⟨26, [], []⟩, ⟨27, [2], [2]⟩] : List Foot)) True.intro)))))))
/-! ## 34 -/
noncomputable abbrev B34 : Code := (Try.f34.body).getD .skip
inductive R34_0 where
  | e0 (k424 : Nat) (b434 : Bool) (l435 : List (List V))
@[reducible] def s34_0_0 (k424 : Nat) (z425 : Int) (z426 : Int) (b427 : Bool) (z428 : Int) (z429 : Int) (z430 : Int) (z431 : Int) (z432 : Int) (z433 : Int) (b434 : Bool) (l435 : List (List V)) : S := { T := U :: U :: V.ptr 0 0 0 :: U :: V.ptr 1 0 0 :: V.ptr 2 0 0 :: un 5 (V.hs 3 0 k424 :: i64 z425 :: i64 z426 :: vb b427 :: un 12 []), σ := [Ob.cells true false 6 [[i64 z428, i64 z429, i64 z430, i64 z431, i64 z432, i64 z433]], Ob.cells true false 2 [[vb false, V.nilS]], Ob.cells true false 2 [[vb b434, V.hs 3 0 k424]], Ob.cells true true 2 l435] }
def R34_0.St : R34_0 → VX × S → Prop
  | .e0 k424 b434 l435, p => ∃ z425 : Int, ∃ z426 : Int, ∃ b427 : Bool, ∃ z428 : Int, ∃ z429 : Int, ∃ z430 : Int, ∃ z431 : Int, ∃ z432 : Int, ∃ z433 : Int, p = (VX.exit 0, s34_0_0 k424 z425 z426 b427 z428 z429 z430 z431 z432 z433 b434 l435)
def L34_0 : Nat → Nat → Int → Int → Int → Int → Int → Int → Int → Int → Bool → List (List V) → Option R34_0
  | 0, _, _, _, _, _, _, _, _, _, _, _ => none
  | n + 1, k382, z383, z384, z385, z386, z387, z388, z389, z390, b391, l392 =>
    if z384 < z383 then
     if 0 ≤ z384 ∧ z384 < (↑k382 : Int) then
      ((l392[(0 : Nat) + Int.toNat z384]?).bind W34.dec).bind fun e421 =>
      (F69 (z385) (z386) (z387) (z388) (z389) (z390) (e421.c0) (e421.c1)).bind fun r => match r with
      | .a0 z422 z423 =>
       L34_0 n (k382) (z383) (w64 (z384 + 1)) (z385) (z386) (z387) (z388) (z389) (z390) (b391) (List.set l392 (0 + Int.toNat z384) [i64 z422, i64 z423])
     else
      none -- none
    else
     some (R34_0.e0 (k382) (b391) (l392))
theorem L34_0_ok (m : Nat) : ∀ (n : Nat) (k382 : Nat) (z383 : Int) (z384 : Int) (z385 : Int) (z386 : Int) (z387 : Int) (z388 : Int) (z389 : Int) (z390 : Int) (b391 : Bool) (l392 : List (List V)) (r : R34_0), L34_0 n k382 z383 z384 z385 z386 z387 z388 z389 z390 b391 l392 = some r → ∃ st, loopFrom Try.prog X (call Try.prog X O0 100000 (m + 5)) 34 (0) 100000 B34 0 n ({ T := U :: U :: V.ptr 0 0 0 :: U :: V.ptr 1 0 0 :: V.ptr 2 0 0 :: un 5 (V.hs 3 0 k382 :: i64 z383 :: i64 z384 :: un 13 []), σ := [Ob.cells true false 6 [[i64 z385, i64 z386, i64 z387, i64 z388, i64 z389, i64 z390]], Ob.cells true false 2 [[vb false, V.nilS]], Ob.cells true false 2 [[vb b391, V.hs 3 0 k382]], Ob.cells true true 2 l392] }) = some st ∧ r.St st
  | 0, _, _, _, _, _, _, _, _, _, _, _, r, h => by cases h
  | n + 1, k382, z383, z384, z385, z386, z387, z388, z389, z390, b391, l392, r, h => by
    rw [L34_0] at h
    rcases ite_eq h with ⟨h0, h⟩ | ⟨h0, h⟩
    · skip
      rcases ite_eq h with ⟨h1, h⟩ | ⟨h1, h⟩
      · skip
        obtain ⟨e421, h2, h⟩ := Option.bind_eq_some_iff.mp h
        obtain ⟨r3, h3, h⟩ := Option.bind_eq_some_iff.mp h
        have h3 := F69_ok (m + 0) (z385) (z386) (z387) (z388) (z389) (z390) (e421.c0) (e421.c1) r3 h3
        cases r3 with
        | a0 z422 z423 =>
          obtain ⟨st, hs, hr⟩ := L34_0_ok m n (k382) (z383) (w64 (z384 + 1)) (z385) (z386) (z387) (z388) (z389) (z390) (b391) (List.set l392 (0 + Int.toNat z384) [i64 z422, i64 z423]) r h
          exact ⟨st, (round_on (gs := [.t, .t, .el (W34.cells e421), .a, .a, .a, .a, .an (V.agg [i64 z422, i64 z423]) [], .t, .el (W34.cells e421), .ft [⟨0, [2], []⟩, ⟨1, [2], []⟩, ⟨2, [], []⟩, ⟨3, [0], []⟩, ⟨4, [4], []⟩, ⟨5, [], []⟩, ⟨6, [3], []⟩, ⟨7, [3], [3]⟩]]) (notIn []) (by kernel_rfl) (And.intro (decide_eq_true h0) (And.intro (decide_eq_true h1) (And.intro (W34.dec_ok h2) (And.intro h3 (And.intro (decide_eq_true h1) (And.intro (W34.dec_ok h2) (And.intro (Eq.refl ([⟨0, [2], []⟩, ⟨1, [2], []⟩, ⟨2, [], []⟩, ⟨3, [0], []⟩, ⟨4, [4], []⟩, ⟨5, [], []⟩, ⟨6, [3], []⟩, ⟨7, [3], [3]⟩] : List Foot)) True.intro))))))) n).trans hs, hr⟩
      · skip
        cases h
    · skip
      cases h
      exact ⟨_, round_out (gs := [.f]) (notIn []) (by kernel_rfl) rfl (And.intro (decide_eq_false h0) True.intro) n, z383, z384, decide (z384 < z383), z385, z386, z387, z388, z389, z390, rfl⟩
inductive A34 where
  | a0 (b448 : Bool) (k449 : Nat) (l450 : List (List V))
@[reducible] def A34.out : A34 → V × Store
  | .a0 b448 k449 l450 => (V.agg [vb b448, V.hs 0 0 k449], [Ob.cells true true 2 l450])
def F34 (z273 : Int) (z274 : Int) (z275 : Int) (z276 : Int) (z277 : Int) (z278 : Int) (b279 : Bool) (l280 : List (List V)) : Option A34 :=
  (F68 (b279) (l280)).bind fun r => match r with
  | .a0 b418 k419 l420 =>
   (L34_0 100000 (k419) ((↑k419 : Int)) (0) (z273) (z274) (z275) (z276) (z277) (z278) (b418) (l420)).bind fun r => match r with
   | .e0 k436 b446 l447 =>
    some (A34.a0 (b446) (k436) (l447))
theorem F34_ok (m : Nat) (z273 : Int) (z274 : Int) (z275 : Int) (z276 : Int) (z277 : Int) (z278 : Int) (b279 : Bool) (l280 : List (List V)) (r : A34) (h : F34 z273 z274 z275 z276 z277 z278 b279 l280 = some r) : call Try.prog X O0 100000 (m + 6) 34 ([V.agg [i64 z273, i64 z274, i64 z275, i64 z276, i64 z277, i64 z278], V.agg [vb b279, V.list 2 l280]]) ([]) = some r.out := by
  unfold F34 at h
  obtain ⟨r0, h0, h⟩ := Option.bind_eq_some_iff.mp h
  have h0 := F68_ok (m + 3) (b279) (l280) r0 h0
  cases r0 with
  | a0 b418 k419 l420 =>
    obtain ⟨r1, h1, h⟩ := Option.bind_eq_some_iff.mp h
    obtain ⟨st1, h1, hr1⟩ := L34_0_ok m 100000 (k419) ((↑k419 : Int)) (0) (z273) (z274) (z275) (z276) (z277) (z278) (b418) (l420) r1 h1
    have h1 : loopRun Try.prog X (call Try.prog X O0 100000 (m + 5)) 34 (0) 100000 B34 0 ({ T := V.agg [i64 z273, i64 z274, i64 z275, i64 z276, i64 z277, i64 z278] :: V.agg [vb b279, V.list 2 l280] :: V.ptr 0 0 0 :: V.ptr 1 0 0 :: V.ptr 2 0 0 :: V.ptr 4 0 0 :: U :: U :: V.agg [vb b279, V.list 2 l280] :: V.agg [vb b418, V.hs 3 0 k419] :: V.ptr 4 0 1 :: V.hs 3 0 k419 :: i64 (↑k419 : Int) :: i64 0 :: un 13 [], σ := [Ob.cells true false 6 [[i64 z273, i64 z274, i64 z275, i64 z276, i64 z277, i64 z278]], Ob.cells true false 2 [[vb b279, V.list 2 l280]], Ob.cells true false 2 [[vb false, V.nilS]], Ob.cells true true 2 l420, Ob.cells true false 2 [[vb b418, V.hs 3 0 k419]]] }) = some st1 := by
      rw [loopRun_from, show prep (0) (X.keep 34 0) ({ T := V.agg [i64 z273, i64 z274, i64 z275, i64 z276, i64 z277, i64 z278] :: V.agg [vb b279, V.list 2 l280] :: V.ptr 0 0 0 :: V.ptr 1 0 0 :: V.ptr 2 0 0 :: V.ptr 4 0 0 :: U :: U :: V.agg [vb b279, V.list 2 l280] :: V.agg [vb b418, V.hs 3 0 k419] :: V.ptr 4 0 1 :: V.hs 3 0 k419 :: i64 (↑k419 : Int) :: i64 0 :: un 13 [], σ := [Ob.cells true false 6 [[i64 z273, i64 z274, i64 z275, i64 z276, i64 z277, i64 z278]], Ob.cells true false 2 [[vb b279, V.list 2 l280]], Ob.cells true false 2 [[vb false, V.nilS]], Ob.cells true true 2 l420, Ob.cells true false 2 [[vb b418, V.hs 3 0 k419]]] }) = { T := U :: U :: V.ptr 0 0 0 :: U :: V.ptr 1 0 0 :: V.ptr 2 0 0 :: un 5 (V.hs 3 0 k419 :: i64 (↑k419 : Int) :: i64 0 :: un 13 []), σ := [Ob.cells true false 6 [[i64 z273, i64 z274, i64 z275, i64 z276, i64 z277, i64 z278]], Ob.cells true false 2 [[vb false, V.nilS]], Ob.cells true false 2 [[vb b418, V.hs 3 0 k419]], Ob.cells true true 2 l420] } by kernel_rfl]
      exact h1
    cases r1 with
    | e0 k436 b446 l447 =>
      obtain ⟨z437, z438, b439, z440, z441, z442, z443, z444, z445, rfl⟩ := hr1
      cases h
      exact call_pathL (gs := [.a, .an (V.agg [vb b418, V.hs 0 0 k419]) [Ob.cells true true 2 l420], .a, .a, .lp (VX.exit 0) (s34_0_0 k436 z437 z438 b439 z440 z441 z442 z443 z444 z445 b446 l447), .a, .a]) (notIn []) rfl rfl (by kernel_rfl) (And.intro h0 (And.intro h1 True.intro))
/-! ## 35 -/
inductive A35 where
  | a0 (z455 : Int) (z456 : Int) (z457 : Int) (z458 : Int) (z459 : Int) (z460 : Int)
@[reducible] def A35.out : A35 → V × Store
  | .a0 z455 z456 z457 z458 z459 z460 => (V.agg [i64 z455, i64 z456, i64 z457, i64 z458, i64 z459, i64 z460], [])
def F35 : Option A35 :=
  some (A35.a0 (65536) (0) (0) (65536) (0) (0))
theorem F35_ok (m : Nat) (r : A35) (h : F35 = some r) : call Try.prog X O0 100000 (m + 1) 35 ([]) ([]) = some r.out := by
  unfold F35 at h
  cases h
  exact call_pathL (gs := [.a]) (notIn []) rfl rfl (by kernel_rfl) True.intro
/-! ## 52 -/
noncomputable abbrev B52 : Code := (Try.f52.body).getD .skip
inductive R52_0 where
  | e0
  | e1
@[reducible] def s52_0_0 (l517 : List (List V)) (l518 : List (List V)) (z519 : Int) (z520 : Int) (b521 : Bool) (z522 : Int) (z523 : Int) (z524 : Int) (z525 : Int) (b526 : Bool) : S := { T := V.list 2 l517 :: V.list 2 l518 :: U :: U :: vb false :: i64 z519 :: un 6 [i64 z520, i64 z519, vb b521, i64 z519, V.list 2 l517, i64 z519, V.pp [i64 z522, i64 z523], V.agg [i64 z522, i64 z523], V.list 2 l518, i64 z519, V.pp [i64 z524, i64 z525], V.agg [i64 z524, i64 z525], vb b526, U], σ := [] }
@[reducible] def s52_0_1 (l527 : List (List V)) (l528 : List (List V)) (z529 : Int) (z530 : Int) (b531 : Bool) : S := { T := V.list 2 l527 :: V.list 2 l528 :: un 10 (i64 z529 :: i64 z530 :: vb b531 :: un 11 []), σ := [] }
def R52_0.St : R52_0 → VX × S → Prop
  | .e0, p => ∃ l517 : List (List V), ∃ l518 : List (List V), ∃ z519 : Int, ∃ z520 : Int, ∃ b521 : Bool, ∃ z522 : Int, ∃ z523 : Int, ∃ z524 : Int, ∃ z525 : Int, ∃ b526 : Bool, p = (VX.ret, s52_0_0 l517 l518 z519 z520 b521 z522 z523 z524 z525 b526)
  | .e1, p => ∃ l527 : List (List V), ∃ l528 : List (List V), ∃ z529 : Int, ∃ z530 : Int, ∃ b531 : Bool, p = (VX.exit 0, s52_0_1 l527 l528 z529 z530 b531)
def L52_0 : Nat → List (List V) → List (List V) → Int → Int → Option R52_0
  | 0, _, _, _, _ => none
  | n + 1, l493, l494, z495, z496 =>
    if z496 < z495 then
     if 0 ≤ z496 then
      ((l493[Int.toNat z496]?).bind W34.dec).bind fun e515 =>
      ((l494[Int.toNat z496]?).bind W34.dec).bind fun e516 =>
      if (!(e515.c0 == e516.c0 && (e515.c1 == e516.c1 && true))) = true then
       some (R52_0.e0)
      else
       L52_0 n (l493) (l494) (z495) (w64 (z496 + 1))
     else
      none -- none
    else
     some (R52_0.e1)
theorem L52_0_ok (m : Nat) : ∀ (n : Nat) (l493 : List (List V)) (l494 : List (List V)) (z495 : Int) (z496 : Int) (r : R52_0), L52_0 n l493 l494 z495 z496 = some r → ∃ st, loopFrom Try.prog X (call Try.prog X O0 100000 (m + 0)) 52 (0) 100000 B52 0 n ({ T := V.list 2 l493 :: V.list 2 l494 :: un 10 (i64 z495 :: i64 z496 :: un 12 []), σ := [] }) = some st ∧ r.St st
  | 0, _, _, _, _, r, h => by cases h
  | n + 1, l493, l494, z495, z496, r, h => by
    rw [L52_0] at h
    rcases ite_eq h with ⟨h0, h⟩ | ⟨h0, h⟩
    · skip
      rcases ite_eq h with ⟨h1, h⟩ | ⟨h1, h⟩
      · skip
        obtain ⟨e515, h2, h⟩ := Option.bind_eq_some_iff.mp h
        obtain ⟨e516, h3, h⟩ := Option.bind_eq_some_iff.mp h
        rcases ite_eq h with ⟨h4, h⟩ | ⟨h4, h⟩
        · skip
          cases h
          exact ⟨_, round_out (gs := [.t, .t, .el (W34.cells e515), .t, .el (W34.cells e516), .ft [⟨0, [], []⟩, ⟨1, [], []⟩, ⟨2, [], []⟩, ⟨3, [], []⟩, ⟨4, [], []⟩, ⟨5, [], []⟩, ⟨6, [], []⟩, ⟨7, [], []⟩, ⟨8, [], []⟩], .t]) (notIn []) (by kernel_rfl) rfl (And.intro (decide_eq_true h0) (And.intro (decide_eq_true h1) (And.intro (W34.dec_ok h2) (And.intro (decide_eq_true h1) (And.intro (W34.dec_ok h3) (And.intro (Eq.refl ([⟨0, [], []⟩, ⟨1, [], []⟩, ⟨2, [], []⟩, ⟨3, [], []⟩, ⟨4, [], []⟩, ⟨5, [], []⟩, ⟨6, [], []⟩, ⟨7, [], []⟩, ⟨8, [], []⟩] : List Foot)) (And.intro h4 True.intro))))))) n, l493, l494, z496, z495, decide (z496 < z495), e515.c0, e515.c1, e516.c0, e516.c1, !(e515.c0 == e516.c0 && (e515.c1 == e516.c1 && true)), rfl⟩
        · skip
          obtain ⟨st, hs, hr⟩ := L52_0_ok m n (l493) (l494) (z495) (w64 (z496 + 1)) r h
          exact ⟨st, (round_on (gs := [.t, .t, .el (W34.cells e515), .t, .el (W34.cells e516), .ft [⟨0, [], []⟩, ⟨1, [], []⟩, ⟨2, [], []⟩, ⟨3, [], []⟩, ⟨4, [], []⟩, ⟨5, [], []⟩, ⟨6, [], []⟩, ⟨7, [], []⟩, ⟨8, [], []⟩], .f]) (notIn []) (by kernel_rfl) (And.intro (decide_eq_true h0) (And.intro (decide_eq_true h1) (And.intro (W34.dec_ok h2) (And.intro (decide_eq_true h1) (And.intro (W34.dec_ok h3) (And.intro (Eq.refl ([⟨0, [], []⟩, ⟨1, [], []⟩, ⟨2, [], []⟩, ⟨3, [], []⟩, ⟨4, [], []⟩, ⟨5, [], []⟩, ⟨6, [], []⟩, ⟨7, [], []⟩, ⟨8, [], []⟩] : List Foot)) (And.intro (Bool.eq_false_iff.mpr h4) True.intro))))))) n).trans hs, hr⟩
      · skip
        cases h
    · skip
      cases h
      exact ⟨_, round_out (gs := [.f]) (notIn []) (by kernel_rfl) rfl (And.intro (decide_eq_false h0) True.intro) n, l493, l494, z495, z496, decide (z496 < z495), rfl⟩
inductive A52 where
  | a0 (b514 : Bool)
@[reducible] def A52.out : A52 → V × Store
  | .a0 b514 => (vb b514, [])
def F52 (l475 : List (List V)) (l476 : List (List V)) : Option A52 :=
  if ((↑(List.length l475) : Int) != (↑(List.length l476) : Int)) = true then
   some (A52.a0 (false))
  else
   (L52_0 100000 (l475) (l476) ((↑(List.length l475) : Int)) (0)).bind fun r => match r with
   | .e0 =>
    some (A52.a0 (false))
   | .e1 =>
    some (A52.a0 (true))
theorem F52_ok (m : Nat) (l475 : List (List V)) (l476 : List (List V)) (r : A52) (h : F52 l475 l476 = some r) : call Try.prog X O0 100000 (m + 1) 52 ([V.list 2 l475, V.list 2 l476]) ([]) = some r.out := by
  unfold F52 at h
  rcases ite_eq h with ⟨h0, h⟩ | ⟨h0, h⟩
  · skip
    cases h
    exact call_pathL (gs := [.t]) (notIn []) rfl rfl (by kernel_rfl) (And.intro h0 True.intro)
  · skip
    obtain ⟨r1, h1, h⟩ := Option.bind_eq_some_iff.mp h
    obtain ⟨st1, h1, hr1⟩ := L52_0_ok m 100000 (l475) (l476) ((↑(List.length l475) : Int)) (0) r1 h1
    have h1 : loopRun Try.prog X (call Try.prog X O0 100000 (m + 0)) 52 (0) 100000 B52 0 ({ T := V.list 2 l475 :: V.list 2 l476 :: U :: U :: vb false :: U :: V.list 2 l475 :: i64 (↑(List.length l475) : Int) :: V.list 2 l476 :: i64 (↑(List.length l476) : Int) :: vb ((↑(List.length l475) : Int) != (↑(List.length l476) : Int)) :: V.list 2 l475 :: i64 (↑(List.length l475) : Int) :: i64 0 :: un 12 [], σ := [] }) = some st1 := by
      rw [loopRun_from, show prep (0) (X.keep 52 0) ({ T := V.list 2 l475 :: V.list 2 l476 :: U :: U :: vb false :: U :: V.list 2 l475 :: i64 (↑(List.length l475) : Int) :: V.list 2 l476 :: i64 (↑(List.length l476) : Int) :: vb ((↑(List.length l475) : Int) != (↑(List.length l476) : Int)) :: V.list 2 l475 :: i64 (↑(List.length l475) : Int) :: i64 0 :: un 12 [], σ := [] }) = { T := V.list 2 l475 :: V.list 2 l476 :: un 10 (i64 (↑(List.length l475) : Int) :: i64 0 :: un 12 []), σ := [] } by kernel_rfl]
      exact h1
    cases r1 with
    | e0 =>
      obtain ⟨l532, l533, z534, z535, b536, z537, z538, z539, z540, b541, rfl⟩ := hr1
      cases h
      exact call_pathL (gs := [.f, .lp (VX.ret) (s52_0_0 l532 l533 z534 z535 b536 z537 z538 z539 z540 b541)]) (notIn []) rfl rfl (by kernel_rfl) (And.intro (Bool.eq_false_iff.mpr h0) (And.intro h1 True.intro))
    | e1 =>
      obtain ⟨l542, l543, z544, z545, b546, rfl⟩ := hr1
      cases h
      exact call_pathL (gs := [.f, .lp (VX.exit 0) (s52_0_1 l542 l543 z544 z545 b546)]) (notIn []) rfl rfl (by kernel_rfl) (And.intro (Bool.eq_false_iff.mpr h0) (And.intro h1 True.intro))
/-! ## 20 -/
inductive A20 where
  | a0 (b548 : Bool)
@[reducible] def A20.out : A20 → V × Store
  | .a0 b548 => (vb b548, [])
def F20 (b470 : Bool) (l471 : List (List V)) (b472 : Bool) (l473 : List (List V)) : Option A20 :=
  if (b470 == b472) = true then
   (F52 (l471) (l473)).bind fun r => match r with
   | .a0 b547 =>
    some (A20.a0 (b547))
  else
   some (A20.a0 (false))
theorem F20_ok (m : Nat) (b470 : Bool) (l471 : List (List V)) (b472 : Bool) (l473 : List (List V)) (r : A20) (h : F20 b470 l471 b472 l473 = some r) : call Try.prog X O0 100000 (m + 2) 20 ([V.agg [vb b470, V.list 2 l471], V.agg [vb b472, V.list 2 l473]]) ([]) = some r.out := by
  unfold F20 at h
  rcases ite_eq h with ⟨h0, h⟩ | ⟨h0, h⟩
  · skip
    obtain ⟨r1, h1, h⟩ := Option.bind_eq_some_iff.mp h
    have h1 := F52_ok (m + 0) (l471) (l473) r1 h1
    cases r1 with
    | a0 b547 =>
      cases h
      exact call_pathL (gs := [.a, .a, .t, .t, .a, .t, .t, .a, .t, .an (vb b547) [], .t]) (notIn []) rfl rfl (by kernel_rfl) (And.intro h0 (And.intro h0 (And.intro h0 (And.intro h0 (And.intro h0 (And.intro h1 (And.intro h0 True.intro)))))))
  · skip
    cases h
    exact call_pathL (gs := [.a, .a, .f, .f, .f, .f, .f, .f]) (notIn []) rfl rfl (by kernel_rfl) (And.intro (Bool.eq_false_iff.mpr h0) (And.intro (Bool.eq_false_iff.mpr h0) (And.intro (Bool.eq_false_iff.mpr h0) (And.intro (Bool.eq_false_iff.mpr h0) (And.intro (Bool.eq_false_iff.mpr h0) (And.intro (Bool.eq_false_iff.mpr h0) True.intro))))))
/-! ## 36 -/
def F36 (b625 : Bool) (l626 : List (List V)) (b627 : Bool) (l628 : List (List V)) : Bool :=
  if ((↑(List.length l626) : Int) == (↑(List.length l628) : Int)) = true then
   b625 == b627
  else
   false
theorem F36_ok (m : Nat) (b625 : Bool) (l626 : List (List V)) (b627 : Bool) (l628 : List (List V)) (b631 : Bool) (h : F36 b625 l626 b627 l628 = b631) : call Try.prog X O0 100000 (m + 1) 36 ([V.agg [vb b625, V.list 2 l626], V.agg [vb b627, V.list 2 l628]]) ([]) = some (vb b631, []) := by
  unfold F36 at h
  rcases ite_eq h with ⟨h0, h⟩ | ⟨h0, h⟩
  · skip
    subst h
    exact call_pathL (gs := [.a, .a, .t, .t, .a, .t, .t, .a, .t, .t]) (notIn []) rfl rfl (by kernel_rfl) (And.intro h0 (And.intro h0 (And.intro h0 (And.intro h0 (And.intro h0 (And.intro h0 True.intro))))))
  · skip
    subst h
    exact call_pathL (gs := [.a, .a, .f, .f, .f, .f, .f, .f]) (notIn []) rfl rfl (by kernel_rfl) (And.intro (Bool.eq_false_iff.mpr h0) (And.intro (Bool.eq_false_iff.mpr h0) (And.intro (Bool.eq_false_iff.mpr h0) (And.intro (Bool.eq_false_iff.mpr h0) (And.intro (Bool.eq_false_iff.mpr h0) (And.intro (Bool.eq_false_iff.mpr h0) True.intro))))))
/-! ## 51 -/
def F51 (z648 : Int) : Bool :=
  if z648 ≥ -67108864 then
   decide (z648 ≤ 67108864)
  else
   false
theorem F51_ok (m : Nat) (z648 : Int) (b651 : Bool) (h : F51 z648 = b651) : call Try.prog X O0 100000 (m + 1) 51 ([i64 z648]) ([]) = some (vb b651, []) := by
  unfold F51 at h
  rcases ite_eq h with ⟨h0, h⟩ | ⟨h0, h⟩
  · skip
    subst h
    exact call_pathL (gs := [.t, .t, .t]) (notIn []) rfl rfl (by kernel_rfl) (And.intro (decide_eq_true h0) (And.intro (decide_eq_true h0) (And.intro (decide_eq_true h0) True.intro)))
  · skip
    subst h
    exact call_pathL (gs := [.f, .f, .f]) (notIn []) rfl rfl (by kernel_rfl) (And.intro (decide_eq_false h0) (And.intro (decide_eq_false h0) (And.intro (decide_eq_false h0) True.intro)))
/-! ## 50 -/
def F50 (z645 : Int) (z646 : Int) : Bool :=
  bnd (F51 (z645)) fun b652 =>
  if (!b652) = true then
   true
  else
   bnd (F51 (z646)) fun b654 =>
   !b654
theorem F50_ok (m : Nat) (z645 : Int) (z646 : Int) (b655 : Bool) (h : F50 z645 z646 = b655) : call Try.prog X O0 100000 (m + 2) 50 ([V.agg [i64 z645, i64 z646]]) ([]) = some (vb b655, []) := by
  unfold F50 at h
  obtain ⟨b652, h0, h⟩ := bnd_eq h
  rcases ite_eq h with ⟨h1, h⟩ | ⟨h1, h⟩
  · skip
    subst h
    exact call_pathL (gs := [.a, .an (vb b652) [], .t, .t, .t, .t, .t]) (notIn []) rfl rfl (by kernel_rfl) (And.intro (F51_ok (m + 0) (z645) b652 h0) (And.intro h1 (And.intro h1 (And.intro h1 (And.intro h1 (And.intro h1 True.intro))))))
  · skip
    obtain ⟨b654, h2, h⟩ := bnd_eq h
    subst h
    exact call_pathL (gs := [.a, .an (vb b652) [], .f, .f, .a, .f, .an (vb b654) [], .f, .f]) (notIn []) rfl rfl (by kernel_rfl) (And.intro (F51_ok (m + 0) (z645) b652 h0) (And.intro (Bool.eq_false_iff.mpr h1) (And.intro (Bool.eq_false_iff.mpr h1) (And.intro (Bool.eq_false_iff.mpr h1) (And.intro (F51_ok (m + 0) (z646) b654 h2) (And.intro (Bool.eq_false_iff.mpr h1) (And.intro (Bool.eq_false_iff.mpr h1) True.intro)))))))
/-! ## 88 -/
noncomputable abbrev B88 : Code := (Try.f88.body).getD .skip
inductive R88_0 where
  | e0 (z682 : Int)
  | e1
@[reducible] def s88_0_0 (l681 : List (List V)) (z682 : Int) (z683 : Int) (b684 : Bool) (z685 : Int) (z686 : Int) (b687 : Bool) : S := { T := [V.list 2 l681, V.fn 50 [], U, U, i64 z682, i64 z682, U, i64 z683, i64 z682, vb b684, i64 z682, V.fn 50 [], V.list 2 l681, i64 z682, V.pp [i64 z685, i64 z686], V.agg [i64 z685, i64 z686], vb b687, i64 z682, U], σ := [] }
@[reducible] def s88_0_1 (l688 : List (List V)) (z689 : Int) (z690 : Int) (b691 : Bool) : S := { T := V.list 2 l688 :: V.fn 50 [] :: un 5 (i64 z689 :: i64 z690 :: vb b691 :: un 9 []), σ := [] }
def R88_0.St : R88_0 → VX × S → Prop
  | .e0 z682, p => ∃ l681 : List (List V), ∃ z683 : Int, ∃ b684 : Bool, ∃ z685 : Int, ∃ z686 : Int, ∃ b687 : Bool, p = (VX.ret, s88_0_0 l681 z682 z683 b684 z685 z686 b687)
  | .e1, p => ∃ l688 : List (List V), ∃ z689 : Int, ∃ z690 : Int, ∃ b691 : Bool, p = (VX.exit 0, s88_0_1 l688 z689 z690 b691)
def L88_0 : Nat → List (List V) → Int → Int → Option R88_0
  | 0, _, _, _ => none
  | n + 1, l663, z664, z665 =>
    if z665 < z664 then
     if 0 ≤ z665 then
      ((l663[Int.toNat z665]?).bind W34.dec).bind fun e679 =>
      bnd (F50 (e679.c0) (e679.c1)) fun b680 =>
      if (b680) = true then
       some (R88_0.e0 (z665))
      else
       L88_0 n (l663) (z664) (w64 (z665 + 1))
     else
      none -- none
    else
     some (R88_0.e1)
theorem L88_0_ok (m : Nat) : ∀ (n : Nat) (l663 : List (List V)) (z664 : Int) (z665 : Int) (r : R88_0), L88_0 n l663 z664 z665 = some r → ∃ st, loopFrom Try.prog X (call Try.prog X O0 100000 (m + 2)) 88 (0) 100000 B88 0 n ({ T := V.list 2 l663 :: V.fn 50 [] :: un 5 (i64 z664 :: i64 z665 :: un 10 []), σ := [] }) = some st ∧ r.St st
  | 0, _, _, _, r, h => by cases h
  | n + 1, l663, z664, z665, r, h => by
    rw [L88_0] at h
    rcases ite_eq h with ⟨h0, h⟩ | ⟨h0, h⟩
    · skip
      rcases ite_eq h with ⟨h1, h⟩ | ⟨h1, h⟩
      · skip
        obtain ⟨e679, h2, h⟩ := Option.bind_eq_some_iff.mp h
        obtain ⟨b680, h3, h⟩ := bnd_eq h
        rcases ite_eq h with ⟨h4, h⟩ | ⟨h4, h⟩
        · skip
          cases h
          exact ⟨_, round_out (gs := [.t, .t, .el (W34.cells e679), .an (vb b680) [], .t]) (notIn []) (by kernel_rfl) rfl (And.intro (decide_eq_true h0) (And.intro (decide_eq_true h1) (And.intro (W34.dec_ok h2) (And.intro (F50_ok (m + 0) (e679.c0) (e679.c1) b680 h3) (And.intro h4 True.intro))))) n, l663, z664, decide (z665 < z664), e679.c0, e679.c1, b680, rfl⟩
        · skip
          obtain ⟨st, hs, hr⟩ := L88_0_ok m n (l663) (z664) (w64 (z665 + 1)) r h
          exact ⟨st, (round_on (gs := [.t, .t, .el (W34.cells e679), .an (vb b680) [], .f]) (notIn []) (by kernel_rfl) (And.intro (decide_eq_true h0) (And.intro (decide_eq_true h1) (And.intro (W34.dec_ok h2) (And.intro (F50_ok (m + 0) (e679.c0) (e679.c1) b680 h3) (And.intro (Bool.eq_false_iff.mpr h4) True.intro))))) n).trans hs, hr⟩
      · skip
        cases h
    · skip
      cases h
      exact ⟨_, round_out (gs := [.f]) (notIn []) (by kernel_rfl) rfl (And.intro (decide_eq_false h0) True.intro) n, l663, z664, z665, decide (z665 < z664), rfl⟩
inductive A88 where
  | a0 (z699 : Int)
@[reducible] def A88.out : A88 → V × Store
  | .a0 z699 => (i64 z699, [])
def F88 (l640 : List (List V)) : Option A88 :=
  (L88_0 100000 (l640) ((↑(List.length l640) : Int)) (0)).bind fun r => match r with
  | .e0 z693 =>
   some (A88.a0 (z693))
  | .e1 =>
   some (A88.a0 (-1))
theorem F88_ok (m : Nat) (l640 : List (List V)) (r : A88) (h : F88 l640 = some r) : call Try.prog X O0 100000 (m + 3) 88 ([V.list 2 l640, V.fn 50 []]) ([]) = some r.out := by
  unfold F88 at h
  obtain ⟨r0, h0, h⟩ := Option.bind_eq_some_iff.mp h
  obtain ⟨st0, h0, hr0⟩ := L88_0_ok m 100000 (l640) ((↑(List.length l640) : Int)) (0) r0 h0
  have h0 : loopRun Try.prog X (call Try.prog X O0 100000 (m + 2)) 88 (0) 100000 B88 0 ({ T := V.list 2 l640 :: V.fn 50 [] :: U :: U :: i64 0 :: U :: V.list 2 l640 :: i64 (↑(List.length l640) : Int) :: i64 0 :: un 10 [], σ := [] }) = some st0 := by
    rw [loopRun_from, show prep (0) (X.keep 88 0) ({ T := V.list 2 l640 :: V.fn 50 [] :: U :: U :: i64 0 :: U :: V.list 2 l640 :: i64 (↑(List.length l640) : Int) :: i64 0 :: un 10 [], σ := [] }) = { T := V.list 2 l640 :: V.fn 50 [] :: un 5 (i64 (↑(List.length l640) : Int) :: i64 0 :: un 10 []), σ := [] } by kernel_rfl]
    exact h0
  cases r0 with
  | e0 z693 =>
    obtain ⟨l692, z694, b695, z696, z697, b698, rfl⟩ := hr0
    cases h
    exact call_pathL (gs := [.lp (VX.ret) (s88_0_0 l692 z693 z694 b695 z696 z697 b698)]) (notIn []) rfl rfl (by kernel_rfl) (And.intro h0 True.intro)
  | e1 =>
    obtain ⟨l700, z701, z702, b703, rfl⟩ := hr0
    cases h
    exact call_pathL (gs := [.lp (VX.exit 0) (s88_0_1 l700 z701 z702 b703)]) (notIn []) rfl rfl (by kernel_rfl) (And.intro h0 True.intro)
/-! ## 49 -/
inductive A49 where
  | a0 (b705 : Bool)
@[reducible] def A49.out : A49 → V × Store
  | .a0 b705 => (vb b705, [])
def F49 (l638 : List (List V)) : Option A49 :=
  (F88 (l638)).bind fun r => match r with
  | .a0 z704 =>
   some (A49.a0 (decide (z704 ≥ 0)))
theorem F49_ok (m : Nat) (l638 : List (List V)) (r : A49) (h : F49 l638 = some r) : call Try.prog X O0 100000 (m + 4) 49 ([V.list 2 l638, V.fn 50 []]) ([]) = some r.out := by
  unfold F49 at h
  obtain ⟨r0, h0, h⟩ := Option.bind_eq_some_iff.mp h
  have h0 := F88_ok (m + 0) (l638) r0 h0
  cases r0 with
  | a0 z704 =>
    cases h
    exact call_pathL (gs := [.an (i64 z704) []]) (notIn []) rfl rfl (by kernel_rfl) (And.intro h0 True.intro)
/-! ## 19 -/
inductive A19 where
  | a0 (b637 : Bool)
@[reducible] def A19.out : A19 → V × Store
  | .a0 b637 => (vb b637, [])
def F19 (b634 : Bool) (l635 : List (List V)) : Option A19 :=
  if ((↑(List.length l635) : Int) == 0) = true then
   some (A19.a0 (!b634))
  else
   if (↑(List.length l635) : Int) ≥ 4 then
    if (↑(List.length l635) : Int) ≤ 97 then
     if (Int.tmod (↑(List.length l635) : Int) 3 == 1) = true then
      (F49 (l635)).bind fun r => match r with
      | .a0 b706 =>
       some (A19.a0 (!b706))
     else
      some (A19.a0 (false))
    else
     some (A19.a0 (false))
   else
    some (A19.a0 (false))
theorem F19_ok (m : Nat) (b634 : Bool) (l635 : List (List V)) (r : A19) (h : F19 b634 l635 = some r) : call Try.prog X O0 100000 (m + 5) 19 ([V.agg [vb b634, V.list 2 l635]]) ([]) = some r.out := by
  unfold F19 at h
  rcases ite_eq h with ⟨h0, h⟩ | ⟨h0, h⟩
  · skip
    cases h
    exact call_pathL (gs := [.a, .t, .a]) (notIn []) rfl rfl (by kernel_rfl) (And.intro h0 True.intro)
  · skip
    rcases ite_eq h with ⟨h1, h⟩ | ⟨h1, h⟩
    · skip
      rcases ite_eq h with ⟨h2, h⟩ | ⟨h2, h⟩
      · skip
        rcases ite_eq h with ⟨h3, h⟩ | ⟨h3, h⟩
        · skip
          obtain ⟨r4, h4, h⟩ := Option.bind_eq_some_iff.mp h
          have h4 := F49_ok (m + 0) (l635) r4 h4
          cases r4 with
          | a0 b706 =>
            cases h
            exact call_pathL (gs := [.a, .f, .t, .t, .t, .t, .t, .a, .t, .t, .t, .t, .a, .t, .an (vb b706) [], .t, .t]) (notIn []) rfl rfl (by kernel_rfl) (And.intro (Bool.eq_false_iff.mpr h0) (And.intro (decide_eq_true h1) (And.intro (decide_eq_true h1) (And.intro (decide_eq_true h1) (And.intro (decide_eq_true h2) (And.intro (decide_eq_true h2) (And.intro (decide_eq_true h2) (And.intro (decide_eq_true h2) (And.intro h3 (And.intro h3 (And.intro h3 (And.intro h4 (And.intro h3 (And.intro h3 True.intro))))))))))))))
        · skip
          cases h
          exact call_pathL (gs := [.a, .f, .t, .t, .t, .t, .t, .a, .t, .t, .f, .f, .f, .f, .f]) (notIn []) rfl rfl (by kernel_rfl) (And.intro (Bool.eq_false_iff.mpr h0) (And.intro (decide_eq_true h1) (And.intro (decide_eq_true h1) (And.intro (decide_eq_true h1) (And.intro (decide_eq_true h2) (And.intro (decide_eq_true h2) (And.intro (decide_eq_true h2) (And.intro (decide_eq_true h2) (And.intro (Bool.eq_false_iff.mpr h3) (And.intro (Bool.eq_false_iff.mpr h3) (And.intro (Bool.eq_false_iff.mpr h3) (And.intro (Bool.eq_false_iff.mpr h3) (And.intro (Bool.eq_false_iff.mpr h3) True.intro)))))))))))))
      · skip
        cases h
        exact call_pathL (gs := [.a, .f, .t, .t, .t, .f, .f, .f, .f, .a, .a, .a, .a, .a]) (notIn []) rfl rfl (by kernel_rfl) (And.intro (Bool.eq_false_iff.mpr h0) (And.intro (decide_eq_true h1) (And.intro (decide_eq_true h1) (And.intro (decide_eq_true h1) (And.intro (decide_eq_false h2) (And.intro (decide_eq_false h2) (And.intro (decide_eq_false h2) (And.intro (decide_eq_false h2) True.intro))))))))
    · skip
      cases h
      exact call_pathL (gs := [.a, .f, .f, .f, .f, .a, .a, .a, .a, .a, .a, .a, .a, .a]) (notIn []) rfl rfl (by kernel_rfl) (And.intro (Bool.eq_false_iff.mpr h0) (And.intro (decide_eq_false h1) (And.intro (decide_eq_false h1) (And.intro (decide_eq_false h1) True.intro))))
/-! ## 53 -/
def F53 (b709 : Bool) : Bool :=
  true
theorem F53_ok (m : Nat) (b709 : Bool) (b712 : Bool) (h : F53 b709 = b712) : call Try.prog X O0 100000 (m + 1) 53 ([V.agg [vb b709, V.nilS]]) ([]) = some (vb b712, []) := by
  unfold F53 at h
  subst h
  exact call_pathL (gs := [.a]) (notIn []) rfl rfl (by kernel_rfl) True.intro
/-! ## 48 -/
inductive A48 where
  | a0 (z744 : Int)
@[reducible] def A48.out : A48 → V × Store
  | .a0 z744 => (i64 z744, [])
def F48 (z736 : Int) (z737 : Int) (z738 : Int) : Option A48 :=
  bnd (F57 (z736)) fun z740 =>
  bnd (F56 (z737) (w64 (0 - z740))) fun z741 =>
  (F63 (z741) (z738)).bind fun r => match r with
  | .a0 z742 =>
   bnd (F56 (z740) (z742)) fun z743 =>
   some (A48.a0 (z743))
theorem F48_ok (m : Nat) (z736 : Int) (z737 : Int) (z738 : Int) (r : A48) (h : F48 z736 z737 z738 = some r) : call Try.prog X O0 100000 (m + 4) 48 ([i64 z736, i64 z737, i64 z738]) ([]) = some r.out := by
  unfold F48 at h
  obtain ⟨z740, h0, h⟩ := bnd_eq h
  obtain ⟨z741, h1, h⟩ := bnd_eq h
  obtain ⟨r2, h2, h⟩ := Option.bind_eq_some_iff.mp h
  have h2 := F63_ok (m + 0) (z741) (z738) r2 h2
  cases r2 with
  | a0 z742 =>
    obtain ⟨z743, h3, h⟩ := bnd_eq h
    cases h
    exact call_pathL (gs := [.an (i64 z740) [], .an (i64 z741) [], .an (i64 z742) [], .an (i64 z743) []]) (notIn []) rfl rfl (by kernel_rfl) (And.intro (F57_ok (m + 1) (z736) z740 h0) (And.intro (F56_ok (m + 0) (z737) (w64 (0 - z740)) z741 h1) (And.intro h2 (And.intro (F56_ok (m + 0) (z740) (z742) z743 h3) True.intro))))
/-! ## 18 -/
noncomputable abbrev B18 : Code := (Try.f18.body).getD .skip
inductive R18_0 where
  | e0 (b788 : Bool) (k790 : Nat) (l791 : List (List V))
@[reducible] def s18_0_0 (z783 : Int) (l784 : List (List V)) (z785 : Int) (z786 : Int) (b787 : Bool) (b788 : Bool) (l789 : List (List V)) (k790 : Nat) (l791 : List (List V)) : S := { T := U :: U :: i64 z783 :: V.ptr 0 0 0 :: U :: U :: V.ptr 1 0 0 :: V.ptr 2 0 0 :: un 14 (V.list 2 l784 :: i64 z785 :: i64 z786 :: vb b787 :: un 30 []), σ := [Ob.cells true false 2 [[vb b788, V.list 2 l789]], Ob.cells true false 2 [[vb false, V.nilS]], Ob.cells true false 2 [[vb b788, V.hs 3 0 k790]], Ob.cells true true 2 l791] }
def R18_0.St : R18_0 → VX × S → Prop
  | .e0 b788 k790 l791, p => ∃ z783 : Int, ∃ l784 : List (List V), ∃ z785 : Int, ∃ z786 : Int, ∃ b787 : Bool, ∃ l789 : List (List V), p = (VX.exit 0, s18_0_0 z783 l784 z785 z786 b787 b788 l789 k790 l791)
def L18_0 : Nat → Int → List (List V) → Int → Int → Bool → List (List V) → Nat → List (List V) → Option R18_0
  | 0, _, _, _, _, _, _, _, _ => none
  | n + 1, z748, l749, z750, z751, b752, l753, k754, l755 =>
    if z751 < z750 then
     if 0 ≤ z751 then
      ((l749[Int.toNat z751]?).bind W34.dec).bind fun e778 =>
      ((l753[Int.toNat z751]?).bind W34.dec).bind fun e779 =>
      (F48 (e779.c0) (e778.c0) (z748)).bind fun r => match r with
      | .a0 z780 =>
       (F48 (e779.c1) (e778.c1) (z748)).bind fun r => match r with
       | .a0 z781 =>
        if 0 ≤ z751 ∧ z751 < (↑k754 : Int) then
         ((l755[(0 : Nat) + Int.toNat z751]?).bind W34.dec).bind fun e782 =>
         L18_0 n (z748) (l749) (z750) (w64 (z751 + 1)) (b752) (l753) (k754) (List.set l755 (0 + Int.toNat z751) [i64 z780, i64 z781])
        else
         none -- none
     else
      none -- none
    else
     some (R18_0.e0 (b752) (k754) (l755))
theorem L18_0_ok (m : Nat) : ∀ (n : Nat) (z748 : Int) (l749 : List (List V)) (z750 : Int) (z751 : Int) (b752 : Bool) (l753 : List (List V)) (k754 : Nat) (l755 : List (List V)) (r : R18_0), L18_0 n z748 l749 z750 z751 b752 l753 k754 l755 = some r → ∃ st, loopFrom Try.prog X (call Try.prog X O0 100000 (m + 4)) 18 (0) 100000 B18 0 n ({ T := U :: U :: i64 z748 :: V.ptr 0 0 0 :: U :: U :: V.ptr 1 0 0 :: V.ptr 2 0 0 :: un 14 (V.list 2 l749 :: i64 z750 :: i64 z751 :: un 31 []), σ := [Ob.cells true false 2 [[vb b752, V.list 2 l753]], Ob.cells true false 2 [[vb false, V.nilS]], Ob.cells true false 2 [[vb b752, V.hs 3 0 k754]], Ob.cells true true 2 l755] }) = some st ∧ r.St st
  | 0, _, _, _, _, _, _, _, _, r, h => by cases h
  | n + 1, z748, l749, z750, z751, b752, l753, k754, l755, r, h => by
    rw [L18_0] at h
    rcases ite_eq h with ⟨h0, h⟩ | ⟨h0, h⟩
    · skip
      rcases ite_eq h with ⟨h1, h⟩ | ⟨h1, h⟩
      · skip
        obtain ⟨e778, h2, h⟩ := Option.bind_eq_some_iff.mp h
        obtain ⟨e779, h3, h⟩ := Option.bind_eq_some_iff.mp h
        obtain ⟨r4, h4, h⟩ := Option.bind_eq_some_iff.mp h
        have h4 := F48_ok (m + 0) (e779.c0) (e778.c0) (z748) r4 h4
        cases r4 with
        | a0 z780 =>
          obtain ⟨r5, h5, h⟩ := Option.bind_eq_some_iff.mp h
          have h5 := F48_ok (m + 0) (e779.c1) (e778.c1) (z748) r5 h5
          cases r5 with
          | a0 z781 =>
            rcases ite_eq h with ⟨h6, h⟩ | ⟨h6, h⟩
            · skip
              obtain ⟨e782, h7, h⟩ := Option.bind_eq_some_iff.mp h
              obtain ⟨st, hs, hr⟩ := L18_0_ok m n (z748) (l749) (z750) (w64 (z751 + 1)) (b752) (l753) (k754) (List.set l755 (0 + Int.toNat z751) [i64 z780, i64 z781]) r h
              exact ⟨st, (round_on (gs := [.t, .t, .el (W34.cells e778), .a, .a, .a, .t, .el (W34.cells e779), .a, .an (i64 z780) [], .a, .t, .el (W34.cells e779), .a, .an (i64 z781) [], .t, .el (W34.cells e782), .ft [⟨0, [2], []⟩, ⟨1, [2], []⟩, ⟨2, [], []⟩, ⟨3, [0], []⟩, ⟨4, [0], []⟩, ⟨5, [], []⟩, ⟨6, [], []⟩, ⟨7, [], []⟩, ⟨8, [], []⟩, ⟨9, [4], []⟩, ⟨10, [4], []⟩, ⟨11, [], []⟩, ⟨12, [], []⟩, ⟨13, [0], []⟩, ⟨14, [0], []⟩, ⟨15, [], []⟩, ⟨16, [], []⟩, ⟨17, [], []⟩, ⟨18, [], []⟩, ⟨19, [4], []⟩, ⟨20, [4], []⟩, ⟨21, [], []⟩, ⟨22, [], []⟩, ⟨23, [], []⟩, ⟨24, [3], []⟩, ⟨25, [3], [3]⟩]]) (notIn []) (by kernel_rfl) (And.intro (decide_eq_true h0) (And.intro (decide_eq_true h1) (And.intro (W34.dec_ok h2) (And.intro (decide_eq_true h1) (And.intro (W34.dec_ok h3) (And.intro h4 (And.intro (decide_eq_true h1) (And.intro (W34.dec_ok h3) (And.intro h5 (And.intro (decide_eq_true h6) (And.intro (W34.dec_ok h7) (And.intro (Eq.refl ([⟨0, [2], []⟩, ⟨1, [2], []⟩, ⟨2, [], []⟩, ⟨3, [0], []⟩, ⟨4, [0], []⟩, ⟨5, [], []⟩, ⟨6, [], []⟩, ⟨7, [], []⟩, ⟨8, [], []⟩, ⟨9, [4], []⟩, ⟨10, [4], []⟩, ⟨11, [], []⟩, ⟨12, [], []⟩, ⟨13, [0], []⟩, ⟨14, [0], []⟩, ⟨15, [], []⟩, ⟨16, [], []⟩, ⟨17, [], []⟩, ⟨18, [], []⟩, ⟨19, [4], []⟩, ⟨20, [4], []⟩, ⟨21, [], []⟩, ⟨22, [], []⟩, ⟨23, [], []⟩, ⟨24, [3], []⟩, ⟨25, [3], [3]⟩] : List Foot)) True.intro)))))))))))) n).trans hs, hr⟩
            · skip
              cases h
      · skip
        cases h
    · skip
      cases h
      exact ⟨_, round_out (gs := [.f]) (notIn []) (by kernel_rfl) rfl (And.intro (decide_eq_false h0) True.intro) n, z748, l749, z750, z751, decide (z751 < z750), l753, rfl⟩
inductive A18 where
  | a0 (b775 : Bool) (k776 : Nat) (l777 : List (List V))
@[reducible] def A18.out : A18 → V × Store
  | .a0 b775 k776 l777 => (V.agg [vb b775, V.hs 0 0 k776], [Ob.cells true true 2 l777])
def F18 (b715 : Bool) (l716 : List (List V)) (b717 : Bool) (l718 : List (List V)) (z719 : Int) : Option A18 :=
  (F47 (l716)).bind fun r => match r with
  | .a0 k772 l773 =>
   bnd (F36 (b715) (l716) (b717) (l718)) fun b774 =>
   if (!b774) = true then
    some (A18.a0 (b715) (k772) (l773))
   else
    (L18_0 100000 (z719) (l718) ((↑(List.length l718) : Int)) (0) (b715) (l716) (k772) (l773)).bind fun r => match r with
    | .e0 b797 k799 l800 =>
     some (A18.a0 (b797) (k799) (l800))
theorem F18_ok (m : Nat) (b715 : Bool) (l716 : List (List V)) (b717 : Bool) (l718 : List (List V)) (z719 : Int) (r : A18) (h : F18 b715 l716 b717 l718 z719 = some r) : call Try.prog X O0 100000 (m + 5) 18 ([V.agg [vb b715, V.list 2 l716], V.agg [vb b717, V.list 2 l718], i64 z719]) ([]) = some r.out := by
  unfold F18 at h
  obtain ⟨r0, h0, h⟩ := Option.bind_eq_some_iff.mp h
  have h0 := F47_ok (m + 3) (l716) r0 h0
  cases r0 with
  | a0 k772 l773 =>
    obtain ⟨b774, h1, h⟩ := bnd_eq h
    rcases ite_eq h with ⟨h2, h⟩ | ⟨h2, h⟩
    · skip
      cases h
      exact call_pathL (gs := [.a, .a, .an (V.hs 0 0 k772) [Ob.cells true true 2 l773], .a, .ft [⟨0, [0], []⟩, ⟨1, [0], []⟩, ⟨2, [0], []⟩, ⟨3, [0], []⟩, ⟨4, [3], [3]⟩, ⟨5, [], []⟩, ⟨6, [4], [4]⟩, ⟨7, [4], [4]⟩], .a, .a, .an (vb b774) [], .t, .a, .a]) (notIn []) rfl rfl (by kernel_rfl) (And.intro h0 (And.intro (Eq.refl ([⟨0, [0], []⟩, ⟨1, [0], []⟩, ⟨2, [0], []⟩, ⟨3, [0], []⟩, ⟨4, [3], [3]⟩, ⟨5, [], []⟩, ⟨6, [4], [4]⟩, ⟨7, [4], [4]⟩] : List Foot)) (And.intro (F36_ok (m + 3) (b715) (l716) (b717) (l718) b774 h1) (And.intro h2 True.intro))))
    · skip
      obtain ⟨r3, h3, h⟩ := Option.bind_eq_some_iff.mp h
      obtain ⟨st3, h3, hr3⟩ := L18_0_ok m 100000 (z719) (l718) ((↑(List.length l718) : Int)) (0) (b715) (l716) (k772) (l773) r3 h3
      have h3 : loopRun Try.prog X (call Try.prog X O0 100000 (m + 4)) 18 (0) 100000 B18 0 ({ T := V.agg [vb b715, V.list 2 l716] :: V.agg [vb b717, V.list 2 l718] :: i64 z719 :: V.ptr 0 0 0 :: V.ptr 1 0 0 :: U :: V.ptr 2 0 0 :: V.ptr 4 0 0 :: U :: U :: V.ptr 0 0 0 :: vb b715 :: V.ptr 0 0 1 :: V.list 2 l716 :: V.hs 3 0 k772 :: V.agg [vb b715, V.hs 3 0 k772] :: V.agg [vb b715, V.list 2 l716] :: V.agg [vb b717, V.list 2 l718] :: vb b774 :: (vb !b774) :: U :: V.ptr 1 0 1 :: V.list 2 l718 :: i64 (↑(List.length l718) : Int) :: i64 0 :: un 31 [], σ := [Ob.cells true false 2 [[vb b715, V.list 2 l716]], Ob.cells true false 2 [[vb b717, V.list 2 l718]], Ob.cells true false 2 [[vb false, V.nilS]], Ob.cells true true 2 l773, Ob.cells true false 2 [[vb b715, V.hs 3 0 k772]]] }) = some st3 := by
        rw [loopRun_from, show prep (0) (X.keep 18 0) ({ T := V.agg [vb b715, V.list 2 l716] :: V.agg [vb b717, V.list 2 l718] :: i64 z719 :: V.ptr 0 0 0 :: V.ptr 1 0 0 :: U :: V.ptr 2 0 0 :: V.ptr 4 0 0 :: U :: U :: V.ptr 0 0 0 :: vb b715 :: V.ptr 0 0 1 :: V.list 2 l716 :: V.hs 3 0 k772 :: V.agg [vb b715, V.hs 3 0 k772] :: V.agg [vb b715, V.list 2 l716] :: V.agg [vb b717, V.list 2 l718] :: vb b774 :: (vb !b774) :: U :: V.ptr 1 0 1 :: V.list 2 l718 :: i64 (↑(List.length l718) : Int) :: i64 0 :: un 31 [], σ := [Ob.cells true false 2 [[vb b715, V.list 2 l716]], Ob.cells true false 2 [[vb b717, V.list 2 l718]], Ob.cells true false 2 [[vb false, V.nilS]], Ob.cells true true 2 l773, Ob.cells true false 2 [[vb b715, V.hs 3 0 k772]]] }) = { T := U :: U :: i64 z719 :: V.ptr 0 0 0 :: U :: U :: V.ptr 1 0 0 :: V.ptr 2 0 0 :: un 14 (V.list 2 l718 :: i64 (↑(List.length l718) : Int) :: i64 0 :: un 31 []), σ := [Ob.cells true false 2 [[vb b715, V.list 2 l716]], Ob.cells true false 2 [[vb false, V.nilS]], Ob.cells true false 2 [[vb b715, V.hs 3 0 k772]], Ob.cells true true 2 l773] } by kernel_rfl]
        exact h3
      cases r3 with
      | e0 b797 k799 l800 =>
        obtain ⟨z792, l793, z794, z795, b796, l798, rfl⟩ := hr3
        cases h
        exact call_pathL (gs := [.a, .a, .an (V.hs 0 0 k772) [Ob.cells true true 2 l773], .a, .ft [⟨0, [0], []⟩, ⟨1, [0], []⟩, ⟨2, [0], []⟩, ⟨3, [0], []⟩, ⟨4, [3], [3]⟩, ⟨5, [], []⟩, ⟨6, [4], [4]⟩, ⟨7, [4], [4]⟩], .a, .a, .an (vb b774) [], .f, .a, .lp (VX.exit 0) (s18_0_0 z792 l793 z794 z795 b796 b797 l798 k799 l800), .a, .a]) (notIn []) rfl rfl (by kernel_rfl) (And.intro h0 (And.intro (Eq.refl ([⟨0, [0], []⟩, ⟨1, [0], []⟩, ⟨2, [0], []⟩, ⟨3, [0], []⟩, ⟨4, [3], [3]⟩, ⟨5, [], []⟩, ⟨6, [4], [4]⟩, ⟨7, [4], [4]⟩] : List Foot)) (And.intro (F36_ok (m + 3) (b715) (l716) (b717) (l718) b774 h1) (And.intro (Bool.eq_false_iff.mpr h2) (And.intro h3 True.intro)))))
/-! ## 21 -/
inductive A21 where
  | a0 (b809 : Bool)
@[reducible] def A21.out : A21 → V × Store
  | .a0 b809 => (vb b809, [])
def F21 : Option A21 :=
  (F19 (false) ([[i64 0, i64 0], [i64 0, i64 0], [i64 0, i64 0], [i64 0, i64 0]])).bind fun r => match r with
  | .a0 b707 =>
   if (b707) = true then
    (F19 (false) ([[i64 0, i64 0], [i64 0, i64 0], [i64 0, i64 0], [i64 0, i64 0], [i64 0, i64 0]])).bind fun r => match r with
    | .a0 b708 =>
     if (!b708) = true then
      bnd (F53 (false)) fun b713 =>
      if (b713) = true then
       bnd (F36 (false) ([[i64 0, i64 0], [i64 0, i64 0], [i64 0, i64 0], [i64 0, i64 0]]) (false) ([[i64 8, i64 0], [i64 8, i64 0], [i64 8, i64 0], [i64 8, i64 0]])) fun b714 =>
       if (b714) = true then
        (F18 (false) ([[i64 0, i64 0], [i64 0, i64 0], [i64 0, i64 0], [i64 0, i64 0]]) (false) ([[i64 8, i64 0], [i64 8, i64 0], [i64 8, i64 0], [i64 8, i64 0]]) (0)).bind fun r => match r with
        | .a0 b801 k802 l803 =>
         if 0 + k802 ≤ List.length l803 then
          (F20 (b801) (List.take k802 l803) (false) ([[i64 0, i64 0], [i64 0, i64 0], [i64 0, i64 0], [i64 0, i64 0]])).bind fun r => match r with
          | .a0 b804 =>
           if (b804) = true then
            (F18 (false) ([[i64 0, i64 0], [i64 0, i64 0], [i64 0, i64 0], [i64 0, i64 0]]) (false) ([[i64 8, i64 0], [i64 8, i64 0], [i64 8, i64 0], [i64 8, i64 0]]) (65536)).bind fun r => match r with
            | .a0 b805 k806 l807 =>
             if 0 + k806 ≤ List.length l807 then
              (F20 (b805) (List.take k806 l807) (false) ([[i64 8, i64 0], [i64 8, i64 0], [i64 8, i64 0], [i64 8, i64 0]])).bind fun r => match r with
              | .a0 b808 =>
               some (A21.a0 (b808))
             else
              none -- none
           else
            some (A21.a0 (false))
         else
          none -- none
       else
        some (A21.a0 (false))
      else
       some (A21.a0 (false))
     else
      some (A21.a0 (false))
   else
    some (A21.a0 (false))
theorem F21_ok (m : Nat) (r : A21) (h : F21 = some r) : call Try.prog X O0 100000 (m + 6) 21 ([]) ([]) = some r.out := by
  unfold F21 at h
  obtain ⟨r0, h0, h⟩ := Option.bind_eq_some_iff.mp h
  have h0 := F19_ok (m + 0) (false) ([[i64 0, i64 0], [i64 0, i64 0], [i64 0, i64 0], [i64 0, i64 0]]) r0 h0
  cases r0 with
  | a0 b707 =>
    rcases ite_eq h with ⟨h1, h⟩ | ⟨h1, h⟩
    · skip
      obtain ⟨r2, h2, h⟩ := Option.bind_eq_some_iff.mp h
      have h2 := F19_ok (m + 0) (false) ([[i64 0, i64 0], [i64 0, i64 0], [i64 0, i64 0], [i64 0, i64 0], [i64 0, i64 0]]) r2 h2
      cases r2 with
      | a0 b708 =>
        rcases ite_eq h with ⟨h3, h⟩ | ⟨h3, h⟩
        · skip
          obtain ⟨b713, h4, h⟩ := bnd_eq h
          rcases ite_eq h with ⟨h5, h⟩ | ⟨h5, h⟩
          · skip
            obtain ⟨b714, h6, h⟩ := bnd_eq h
            rcases ite_eq h with ⟨h7, h⟩ | ⟨h7, h⟩
            · skip
              obtain ⟨r8, h8, h⟩ := Option.bind_eq_some_iff.mp h
              have h8 := F18_ok (m + 0) (false) ([[i64 0, i64 0], [i64 0, i64 0], [i64 0, i64 0], [i64 0, i64 0]]) (false) ([[i64 8, i64 0], [i64 8, i64 0], [i64 8, i64 0], [i64 8, i64 0]]) (0) r8 h8
              cases r8 with
              | a0 b801 k802 l803 =>
                rcases ite_eq h with ⟨h9, h⟩ | ⟨h9, h⟩
                · skip
                  obtain ⟨r10, h10, h⟩ := Option.bind_eq_some_iff.mp h
                  have h10 := F20_ok (m + 3) (b801) (List.take k802 l803) (false) ([[i64 0, i64 0], [i64 0, i64 0], [i64 0, i64 0], [i64 0, i64 0]]) r10 h10
                  cases r10 with
                  | a0 b804 =>
                    rcases ite_eq h with ⟨h11, h⟩ | ⟨h11, h⟩
                    · skip
                      obtain ⟨r12, h12, h⟩ := Option.bind_eq_some_iff.mp h
                      have h12 := F18_ok (m + 0) (false) ([[i64 0, i64 0], [i64 0, i64 0], [i64 0, i64 0], [i64 0, i64 0]]) (false) ([[i64 8, i64 0], [i64 8, i64 0], [i64 8, i64 0], [i64 8, i64 0]]) (65536) r12 h12
                      cases r12 with
                      | a0 b805 k806 l807 =>
                        rcases ite_eq h with ⟨h13, h⟩ | ⟨h13, h⟩
                        · skip
                          obtain ⟨r14, h14, h⟩ := Option.bind_eq_some_iff.mp h
                          have h14 := F20_ok (m + 3) (b805) (List.take k806 l807) (false) ([[i64 8, i64 0], [i64 8, i64 0], [i64 8, i64 0], [i64 8, i64 0]]) r14 h14
                          cases r14 with
                          | a0 b808 =>
                            cases h
                            exact call_pathL (gs := [.a, .a, .a, .a, .a, .an (vb b707) [], .t, .a, .t, .t, .a, .an (vb b708) [], .t, .t, .t, .t, .an (vb b713) [], .t, .t, .a, .t, .a, .t, .a, .a, .an (vb b714) [], .t, .t, .a, .t, .a, .t, .a, .a, .an (V.agg [vb b801, V.hs 0 0 k802]) [Ob.cells true true 2 l803], .t, .a, .t, .t, .a, .an (vb b804) [], .t, .t, .a, .t, .a, .t, .a, .a, .an (V.agg [vb b805, V.hs 0 0 k806]) [Ob.cells true true 2 l807], .t, .a, .t, .t, .a, .an (vb b808) [], .t, .ft [⟨0, [1], []⟩, ⟨1, [0], []⟩, ⟨2, [], []⟩, ⟨3, [4], [4]⟩, ⟨4, [], []⟩, ⟨5, [4], []⟩, ⟨6, [], []⟩, ⟨7, [], []⟩, ⟨8, [], []⟩, ⟨9, [], []⟩, ⟨10, [], []⟩, ⟨11, [], []⟩, ⟨12, [], []⟩, ⟨13, [1], []⟩, ⟨14, [3], []⟩, ⟨15, [0, 2], []⟩, ⟨16, [], []⟩, ⟨17, [], []⟩, ⟨18, [1], []⟩, ⟨19, [3], []⟩, ⟨20, [0, 2, 5], [2, 0, 5]⟩, ⟨21, [1], []⟩, ⟨22, [5, 0], []⟩, ⟨23, [], []⟩, ⟨24, [], []⟩, ⟨25, [1], []⟩, ⟨26, [3], []⟩, ⟨27, [0, 2, 6], [6]⟩, ⟨28, [3], []⟩, ⟨29, [6, 2], []⟩, ⟨30, [], []⟩, ⟨31, [], []⟩]]) (notIn []) rfl rfl (by kernel_rfl) (And.intro h0 (And.intro h1 (And.intro h1 (And.intro h1 (And.intro h2 (And.intro h1 (And.intro h1 (And.intro h3 (And.intro h3 (And.intro (F53_ok (m + 4) (false) b713 h4) (And.intro h3 (And.intro h5 (And.intro h5 (And.intro h5 (And.intro (F36_ok (m + 4) (false) ([[i64 0, i64 0], [i64 0, i64 0], [i64 0, i64 0], [i64 0, i64 0]]) (false) ([[i64 8, i64 0], [i64 8, i64 0], [i64 8, i64 0], [i64 8, i64 0]]) b714 h6) (And.intro h5 (And.intro h7 (And.intro h7 (And.intro h7 (And.intro h8 (And.intro h7 (And.intro h7 (And.intro (decide_eq_true h9) (And.intro h10 (And.intro h7 (And.intro h11 (And.intro h11 (And.intro h11 (And.intro h12 (And.intro h11 (And.intro h11 (And.intro (decide_eq_true h13) (And.intro h14 (And.intro h11 (And.intro (Eq.refl ([⟨0, [1], []⟩, ⟨1, [0], []⟩, ⟨2, [], []⟩, ⟨3, [4], [4]⟩, ⟨4, [], []⟩, ⟨5, [4], []⟩, ⟨6, [], []⟩, ⟨7, [], []⟩, ⟨8, [], []⟩, ⟨9, [], []⟩, ⟨10, [], []⟩, ⟨11, [], []⟩, ⟨12, [], []⟩, ⟨13, [1], []⟩, ⟨14, [3], []⟩, ⟨15, [0, 2], []⟩, ⟨16, [], []⟩, ⟨17, [], []⟩, ⟨18, [1], []⟩, ⟨19, [3], []⟩, ⟨20, [0, 2, 5], [2, 0, 5]⟩, ⟨21, [1], []⟩, ⟨22, [5, 0], []⟩, ⟨23, [], []⟩, ⟨24, [], []⟩, ⟨25, [1], []⟩, ⟨26, [3], []⟩, ⟨27, [0, 2, 6], [6]⟩, ⟨28, [3], []⟩, ⟨29, [6, 2], []⟩, ⟨30, [], []⟩, ⟨31, [], []⟩] : List Foot)) True.intro)))))))))))))))))))))))))))))))))))
                        · skip
                          cases h
                    · skip
                      cases h
                      exact call_pathL (gs := [.a, .a, .a, .a, .a, .an (vb b707) [], .t, .a, .t, .t, .a, .an (vb b708) [], .t, .t, .t, .t, .an (vb b713) [], .t, .t, .a, .t, .a, .t, .a, .a, .an (vb b714) [], .t, .t, .a, .t, .a, .t, .a, .a, .an (V.agg [vb b801, V.hs 0 0 k802]) [Ob.cells true true 2 l803], .t, .a, .t, .t, .a, .an (vb b804) [], .t, .f, .f, .f, .f, .f, .f, .ft [⟨0, [1], []⟩, ⟨1, [0], []⟩, ⟨2, [], []⟩, ⟨3, [4], [4]⟩, ⟨4, [], []⟩, ⟨5, [4], []⟩, ⟨6, [], []⟩, ⟨7, [], []⟩, ⟨8, [], []⟩, ⟨9, [], []⟩, ⟨10, [], []⟩, ⟨11, [], []⟩, ⟨12, [], []⟩, ⟨13, [1], []⟩, ⟨14, [3], []⟩, ⟨15, [0, 2], []⟩, ⟨16, [], []⟩, ⟨17, [], []⟩, ⟨18, [1], []⟩, ⟨19, [3], []⟩, ⟨20, [0, 2, 5], [2, 0, 5]⟩, ⟨21, [1], []⟩, ⟨22, [5, 0], []⟩, ⟨23, [], []⟩, ⟨24, [], []⟩, ⟨25, [], []⟩, ⟨26, [], []⟩, ⟨27, [], []⟩, ⟨28, [], []⟩, ⟨29, [], []⟩, ⟨30, [], []⟩, ⟨31, [], []⟩]]) (notIn []) rfl rfl (by kernel_rfl) (And.intro h0 (And.intro h1 (And.intro h1 (And.intro h1 (And.intro h2 (And.intro h1 (And.intro h1 (And.intro h3 (And.intro h3 (And.intro (F53_ok (m + 4) (false) b713 h4) (And.intro h3 (And.intro h5 (And.intro h5 (And.intro h5 (And.intro (F36_ok (m + 4) (false) ([[i64 0, i64 0], [i64 0, i64 0], [i64 0, i64 0], [i64 0, i64 0]]) (false) ([[i64 8, i64 0], [i64 8, i64 0], [i64 8, i64 0], [i64 8, i64 0]]) b714 h6) (And.intro h5 (And.intro h7 (And.intro h7 (And.intro h7 (And.intro h8 (And.intro h7 (And.intro h7 (And.intro (decide_eq_true h9) (And.intro h10 (And.intro h7 (And.intro (Bool.eq_false_iff.mpr h11) (And.intro (Bool.eq_false_iff.mpr h11) (And.intro (Bool.eq_false_iff.mpr h11) (And.intro (Bool.eq_false_iff.mpr h11) (And.intro (Bool.eq_false_iff.mpr h11) (And.intro (Bool.eq_false_iff.mpr h11) (And.intro (Eq.refl ([⟨0, [1], []⟩, ⟨1, [0], []⟩, ⟨2, [], []⟩, ⟨3, [4], [4]⟩, ⟨4, [], []⟩, ⟨5, [4], []⟩, ⟨6, [], []⟩, ⟨7, [], []⟩, ⟨8, [], []⟩, ⟨9, [], []⟩, ⟨10, [], []⟩, ⟨11, [], []⟩, ⟨12, [], []⟩, ⟨13, [1], []⟩, ⟨14, [3], []⟩, ⟨15, [0, 2], []⟩, ⟨16, [], []⟩, ⟨17, [], []⟩, ⟨18, [1], []⟩, ⟨19, [3], []⟩, ⟨20, [0, 2, 5], [2, 0, 5]⟩, ⟨21, [1], []⟩, ⟨22, [5, 0], []⟩, ⟨23, [], []⟩, ⟨24, [], []⟩, ⟨25, [], []⟩, ⟨26, [], []⟩, ⟨27, [], []⟩, ⟨28, [], []⟩, ⟨29, [], []⟩, ⟨30, [], []⟩, ⟨31, [], []⟩] : List Foot)) True.intro))))))))))))))))))))))))))))))))
                · skip
                  cases h
            · skip
              cases h
              exact call_pathL (gs := [.a, .a, .a, .a, .a, .an (vb b707) [], .t, .a, .t, .t, .a, .an (vb b708) [], .t, .t, .t, .t, .an (vb b713) [], .t, .t, .a, .t, .a, .t, .a, .a, .an (vb b714) [], .t, .f, .f, .f, .f, .f, .f, .a, .a, .a, .a, .a, .a, .ft [⟨0, [1], []⟩, ⟨1, [0], []⟩, ⟨2, [], []⟩, ⟨3, [4], [4]⟩, ⟨4, [], []⟩, ⟨5, [4], []⟩, ⟨6, [], []⟩, ⟨7, [], []⟩, ⟨8, [], []⟩, ⟨9, [], []⟩, ⟨10, [], []⟩, ⟨11, [], []⟩, ⟨12, [], []⟩, ⟨13, [1], []⟩, ⟨14, [3], []⟩, ⟨15, [0, 2], []⟩, ⟨16, [], []⟩, ⟨17, [], []⟩, ⟨18, [], []⟩, ⟨19, [], []⟩, ⟨20, [], []⟩, ⟨21, [], []⟩, ⟨22, [], []⟩, ⟨23, [], []⟩, ⟨24, [], []⟩, ⟨25, [], []⟩, ⟨26, [], []⟩, ⟨27, [], []⟩, ⟨28, [], []⟩, ⟨29, [], []⟩, ⟨30, [], []⟩, ⟨31, [], []⟩]]) (notIn []) rfl rfl (by kernel_rfl) (And.intro h0 (And.intro h1 (And.intro h1 (And.intro h1 (And.intro h2 (And.intro h1 (And.intro h1 (And.intro h3 (And.intro h3 (And.intro (F53_ok (m + 4) (false) b713 h4) (And.intro h3 (And.intro h5 (And.intro h5 (And.intro h5 (And.intro (F36_ok (m + 4) (false) ([[i64 0, i64 0], [i64 0, i64 0], [i64 0, i64 0], [i64 0, i64 0]]) (false) ([[i64 8, i64 0], [i64 8, i64 0], [i64 8, i64 0], [i64 8, i64 0]]) b714 h6) (And.intro h5 (And.intro (Bool.eq_false_iff.mpr h7) (And.intro (Bool.eq_false_iff.mpr h7) (And.intro (Bool.eq_false_iff.mpr h7) (And.intro (Bool.eq_false_iff.mpr h7) (And.intro (Bool.eq_false_iff.mpr h7) (And.intro (Bool.eq_false_iff.mpr h7) (And.intro (Eq.refl ([⟨0, [1], []⟩, ⟨1, [0], []⟩, ⟨2, [], []⟩, ⟨3, [4], [4]⟩, ⟨4, [], []⟩, ⟨5, [4], []⟩, ⟨6, [], []⟩, ⟨7, [], []⟩, ⟨8, [], []⟩, ⟨9, [], []⟩, ⟨10, [], []⟩, ⟨11, [], []⟩, ⟨12, [], []⟩, ⟨13, [1], []⟩, ⟨14, [3], []⟩, ⟨15, [0, 2], []⟩, ⟨16, [], []⟩, ⟨17, [], []⟩, ⟨18, [], []⟩, ⟨19, [], []⟩, ⟨20, [], []⟩, ⟨21, [], []⟩, ⟨22, [], []⟩, ⟨23, [], []⟩, ⟨24, [], []⟩, ⟨25, [], []⟩, ⟨26, [], []⟩, ⟨27, [], []⟩, ⟨28, [], []⟩, ⟨29, [], []⟩, ⟨30, [], []⟩, ⟨31, [], []⟩] : List Foot)) True.intro)))))))))))))))))))))))
          · skip
            cases h
            exact call_pathL (gs := [.a, .a, .a, .a, .a, .an (vb b707) [], .t, .a, .t, .t, .a, .an (vb b708) [], .t, .t, .t, .t, .an (vb b713) [], .t, .f, .f, .f, .f, .a, .a, .a, .a, .a, .a, .a, .a, .a, .a, .a, .a, .ft [⟨0, [1], []⟩, ⟨1, [0], []⟩, ⟨2, [], []⟩, ⟨3, [4], [4]⟩, ⟨4, [], []⟩, ⟨5, [4], []⟩, ⟨6, [], []⟩, ⟨7, [], []⟩, ⟨8, [], []⟩, ⟨9, [], []⟩, ⟨10, [], []⟩, ⟨11, [], []⟩, ⟨12, [], []⟩, ⟨13, [], []⟩, ⟨14, [], []⟩, ⟨15, [], []⟩, ⟨16, [], []⟩, ⟨17, [], []⟩, ⟨18, [], []⟩, ⟨19, [], []⟩, ⟨20, [], []⟩, ⟨21, [], []⟩, ⟨22, [], []⟩, ⟨23, [], []⟩, ⟨24, [], []⟩, ⟨25, [], []⟩, ⟨26, [], []⟩, ⟨27, [], []⟩, ⟨28, [], []⟩, ⟨29, [], []⟩, ⟨30, [], []⟩, ⟨31, [], []⟩]]) (notIn []) rfl rfl (by kernel_rfl) (And.intro h0 (And.intro h1 (And.intro h1 (And.intro h1 (And.intro h2 (And.intro h1 (And.intro h1 (And.intro h3 (And.intro h3 (And.intro (F53_ok (m + 4) (false) b713 h4) (And.intro h3 (And.intro (Bool.eq_false_iff.mpr h5) (And.intro (Bool.eq_false_iff.mpr h5) (And.intro (Bool.eq_false_iff.mpr h5) (And.intro (Bool.eq_false_iff.mpr h5) (And.intro (Eq.refl ([⟨0, [1], []⟩, ⟨1, [0], []⟩, ⟨2, [], []⟩, ⟨3, [4], [4]⟩, ⟨4, [], []⟩, ⟨5, [4], []⟩, ⟨6, [], []⟩, ⟨7, [], []⟩, ⟨8, [], []⟩, ⟨9, [], []⟩, ⟨10, [], []⟩, ⟨11, [], []⟩, ⟨12, [], []⟩, ⟨13, [], []⟩, ⟨14, [], []⟩, ⟨15, [], []⟩, ⟨16, [], []⟩, ⟨17, [], []⟩, ⟨18, [], []⟩, ⟨19, [], []⟩, ⟨20, [], []⟩, ⟨21, [], []⟩, ⟨22, [], []⟩, ⟨23, [], []⟩, ⟨24, [], []⟩, ⟨25, [], []⟩, ⟨26, [], []⟩, ⟨27, [], []⟩, ⟨28, [], []⟩, ⟨29, [], []⟩, ⟨30, [], []⟩, ⟨31, [], []⟩] : List Foot)) True.intro))))))))))))))))
        · skip
          cases h
          exact call_pathL (gs := [.a, .a, .a, .a, .a, .an (vb b707) [], .t, .a, .t, .t, .a, .an (vb b708) [], .t, .t, .f, .f, .f, .a, .a, .a, .a, .a, .a, .a, .a, .a, .a, .a, .a, .a, .a, .a, .a, .ft [⟨0, [1], []⟩, ⟨1, [0], []⟩, ⟨2, [], []⟩, ⟨3, [4], [4]⟩, ⟨4, [], []⟩, ⟨5, [4], []⟩, ⟨6, [], []⟩, ⟨7, [], []⟩, ⟨8, [], []⟩, ⟨9, [], []⟩, ⟨10, [], []⟩, ⟨11, [], []⟩, ⟨12, [], []⟩, ⟨13, [], []⟩, ⟨14, [], []⟩, ⟨15, [], []⟩, ⟨16, [], []⟩, ⟨17, [], []⟩, ⟨18, [], []⟩, ⟨19, [], []⟩, ⟨20, [], []⟩, ⟨21, [], []⟩, ⟨22, [], []⟩, ⟨23, [], []⟩, ⟨24, [], []⟩, ⟨25, [], []⟩, ⟨26, [], []⟩, ⟨27, [], []⟩, ⟨28, [], []⟩, ⟨29, [], []⟩, ⟨30, [], []⟩, ⟨31, [], []⟩]]) (notIn []) rfl rfl (by kernel_rfl) (And.intro h0 (And.intro h1 (And.intro h1 (And.intro h1 (And.intro h2 (And.intro h1 (And.intro h1 (And.intro (Bool.eq_false_iff.mpr h3) (And.intro (Bool.eq_false_iff.mpr h3) (And.intro (Bool.eq_false_iff.mpr h3) (And.intro (Eq.refl ([⟨0, [1], []⟩, ⟨1, [0], []⟩, ⟨2, [], []⟩, ⟨3, [4], [4]⟩, ⟨4, [], []⟩, ⟨5, [4], []⟩, ⟨6, [], []⟩, ⟨7, [], []⟩, ⟨8, [], []⟩, ⟨9, [], []⟩, ⟨10, [], []⟩, ⟨11, [], []⟩, ⟨12, [], []⟩, ⟨13, [], []⟩, ⟨14, [], []⟩, ⟨15, [], []⟩, ⟨16, [], []⟩, ⟨17, [], []⟩, ⟨18, [], []⟩, ⟨19, [], []⟩, ⟨20, [], []⟩, ⟨21, [], []⟩, ⟨22, [], []⟩, ⟨23, [], []⟩, ⟨24, [], []⟩, ⟨25, [], []⟩, ⟨26, [], []⟩, ⟨27, [], []⟩, ⟨28, [], []⟩, ⟨29, [], []⟩, ⟨30, [], []⟩, ⟨31, [], []⟩] : List Foot)) True.intro)))))))))))
    · skip
      cases h
      exact call_pathL (gs := [.a, .a, .a, .a, .a, .an (vb b707) [], .f, .f, .f, .f, .f, .a, .a, .a, .a, .a, .a, .a, .a, .a, .a, .a, .a, .a, .a, .a, .a, .a, .a, .a, .ft [⟨0, [1], []⟩, ⟨1, [0], []⟩, ⟨2, [], []⟩, ⟨3, [], []⟩, ⟨4, [], []⟩, ⟨5, [], []⟩, ⟨6, [], []⟩, ⟨7, [], []⟩, ⟨8, [], []⟩, ⟨9, [], []⟩, ⟨10, [], []⟩, ⟨11, [], []⟩, ⟨12, [], []⟩, ⟨13, [], []⟩, ⟨14, [], []⟩, ⟨15, [], []⟩, ⟨16, [], []⟩, ⟨17, [], []⟩, ⟨18, [], []⟩, ⟨19, [], []⟩, ⟨20, [], []⟩, ⟨21, [], []⟩, ⟨22, [], []⟩, ⟨23, [], []⟩, ⟨24, [], []⟩, ⟨25, [], []⟩, ⟨26, [], []⟩, ⟨27, [], []⟩, ⟨28, [], []⟩, ⟨29, [], []⟩, ⟨30, [], []⟩, ⟨31, [], []⟩]]) (notIn []) rfl rfl (by kernel_rfl) (And.intro h0 (And.intro (Bool.eq_false_iff.mpr h1) (And.intro (Bool.eq_false_iff.mpr h1) (And.intro (Bool.eq_false_iff.mpr h1) (And.intro (Bool.eq_false_iff.mpr h1) (And.intro (Bool.eq_false_iff.mpr h1) (And.intro (Eq.refl ([⟨0, [1], []⟩, ⟨1, [0], []⟩, ⟨2, [], []⟩, ⟨3, [], []⟩, ⟨4, [], []⟩, ⟨5, [], []⟩, ⟨6, [], []⟩, ⟨7, [], []⟩, ⟨8, [], []⟩, ⟨9, [], []⟩, ⟨10, [], []⟩, ⟨11, [], []⟩, ⟨12, [], []⟩, ⟨13, [], []⟩, ⟨14, [], []⟩, ⟨15, [], []⟩, ⟨16, [], []⟩, ⟨17, [], []⟩, ⟨18, [], []⟩, ⟨19, [], []⟩, ⟨20, [], []⟩, ⟨21, [], []⟩, ⟨22, [], []⟩, ⟨23, [], []⟩, ⟨24, [], []⟩, ⟨25, [], []⟩, ⟨26, [], []⟩, ⟨27, [], []⟩, ⟨28, [], []⟩, ⟨29, [], []⟩, ⟨30, [], []⟩, ⟨31, [], []⟩] : List Foot)) True.intro)))))))
/-! ## 8 -/
noncomputable abbrev B8 : Code := (Try.f8.body).getD .skip
inductive R8_0 where
  | e0
  | e1 (b868 : Bool) (k869 : Nat) (b870 : Bool) (k871 : Nat) (l872 : List (List V)) (l873 : List (List V))
@[reducible] def s8_0_0 (z844 : Int) (z845 : Int) (z846 : Int) (z847 : Int) (b848 : Bool) (k849 : Nat) (k850 : Nat) (z851 : Int) (z852 : Int) (k853 : Nat) (z854 : Int) (z855 : Int) (z856 : Int) (z857 : Int) (b858 : Bool) (b859 : Bool) (b860 : Bool) (l861 : List (List V)) (l862 : List (List V)) : S := { T := un 6 (vb false :: U :: V.ptr 0 0 0 :: i64 z844 :: i64 z845 :: U :: V.ptr 1 0 0 :: i64 z846 :: un 45 (i64 z847 :: i64 z846 :: vb b848 :: i64 z846 :: V.ptr 1 0 1 :: V.hs 3 0 k849 :: i64 z846 :: V.ptr 3 k850 0 :: V.agg [i64 z851, i64 z852] :: V.ptr 0 0 1 :: V.hs 2 0 k853 :: i64 z846 :: V.ptr 2 k850 0 :: V.ptr 2 k850 0 :: i64 z854 :: i64 z844 :: i64 z855 :: V.ptr 0 0 1 :: V.hs 2 0 k853 :: i64 z846 :: V.ptr 2 k850 0 :: V.ptr 2 k850 1 :: i64 z856 :: i64 z845 :: i64 z857 :: V.agg [i64 z855, i64 z857] :: vb b858 :: un 7 [])), σ := [Ob.cells true false 2 [[vb b859, V.hs 2 0 k853]], Ob.cells true false 2 [[vb b860, V.hs 3 0 k849]], Ob.cells false true 2 l861, Ob.cells true true 2 l862] }
@[reducible] def s8_0_1 (z863 : Int) (z864 : Int) (z865 : Int) (z866 : Int) (b867 : Bool) (b868 : Bool) (k869 : Nat) (b870 : Bool) (k871 : Nat) (l872 : List (List V)) (l873 : List (List V)) : S := { T := un 8 (V.ptr 0 0 0 :: i64 z863 :: i64 z864 :: U :: V.ptr 1 0 0 :: un 46 (i64 z865 :: i64 z866 :: vb b867 :: un 31 [])), σ := [Ob.cells true false 2 [[vb b868, V.hs 2 0 k869]], Ob.cells true false 2 [[vb b870, V.hs 3 0 k871]], Ob.cells false true 2 l872, Ob.cells true true 2 l873] }
def R8_0.St : R8_0 → VX × S → Prop
  | .e0, p => ∃ z844 : Int, ∃ z845 : Int, ∃ z846 : Int, ∃ z847 : Int, ∃ b848 : Bool, ∃ k849 : Nat, ∃ k850 : Nat, ∃ z851 : Int, ∃ z852 : Int, ∃ k853 : Nat, ∃ z854 : Int, ∃ z855 : Int, ∃ z856 : Int, ∃ z857 : Int, ∃ b858 : Bool, ∃ b859 : Bool, ∃ b860 : Bool, ∃ l861 : List (List V), ∃ l862 : List (List V), p = (VX.ret, s8_0_0 z844 z845 z846 z847 b848 k849 k850 z851 z852 k853 z854 z855 z856 z857 b858 b859 b860 l861 l862)
  | .e1 b868 k869 b870 k871 l872 l873, p => ∃ z863 : Int, ∃ z864 : Int, ∃ z865 : Int, ∃ z866 : Int, ∃ b867 : Bool, p = (VX.exit 0, s8_0_1 z863 z864 z865 z866 b867 b868 k869 b870 k871 l872 l873)
def L8_0 : Nat → Int → Int → Int → Int → Bool → Nat → Bool → Nat → List (List V) → List (List V) → Option R8_0
  | 0, _, _, _, _, _, _, _, _, _, _ => none
  | n + 1, z578, z579, z580, z581, b582, k583, b584, k585, l586, l587 =>
    if z581 < z580 then
     if 0 ≤ z581 ∧ z581 < (↑k585 : Int) then
      ((l587[(0 : Nat) + Int.toNat z581]?).bind W34.dec).bind fun e842 =>
      if 0 ≤ z581 ∧ z581 < (↑k583 : Int) then
       ((l586[(0 : Nat) + Int.toNat z581]?).bind W34.dec).bind fun e843 =>
       if (!(e842.c0 == w64 (e843.c0 + z578) && (e842.c1 == w64 (e843.c1 + z579) && true))) = true then
        some (R8_0.e0)
       else
        L8_0 n (z578) (z579) (z580) (w64 (z581 + 1)) (b582) (k583) (b584) (k585) (l586) (l587)
      else
       none -- none
     else
      none -- none
    else
     some (R8_0.e1 (b582) (k583) (b584) (k585) (l586) (l587))
theorem L8_0_ok (m : Nat) : ∀ (n : Nat) (z578 : Int) (z579 : Int) (z580 : Int) (z581 : Int) (b582 : Bool) (k583 : Nat) (b584 : Bool) (k585 : Nat) (l586 : List (List V)) (l587 : List (List V)) (r : R8_0), L8_0 n z578 z579 z580 z581 b582 k583 b584 k585 l586 l587 = some r → ∃ st, loopFrom Try.prog X (call Try.prog X O0 100000 (m + 7)) 8 (0) 100000 B8 0 n ({ T := un 8 (V.ptr 0 0 0 :: i64 z578 :: i64 z579 :: U :: V.ptr 1 0 0 :: un 46 (i64 z580 :: i64 z581 :: un 32 [])), σ := [Ob.cells true false 2 [[vb b582, V.hs 2 0 k583]], Ob.cells true false 2 [[vb b584, V.hs 3 0 k585]], Ob.cells false true 2 l586, Ob.cells true true 2 l587] }) = some st ∧ r.St st
  | 0, _, _, _, _, _, _, _, _, _, _, r, h => by cases h
  | n + 1, z578, z579, z580, z581, b582, k583, b584, k585, l586, l587, r, h => by
    rw [L8_0] at h
    rcases ite_eq h with ⟨h0, h⟩ | ⟨h0, h⟩
    · skip
      rcases ite_eq h with ⟨h1, h⟩ | ⟨h1, h⟩
      · skip
        obtain ⟨e842, h2, h⟩ := Option.bind_eq_some_iff.mp h
        rcases ite_eq h with ⟨h3, h⟩ | ⟨h3, h⟩
        · skip
          obtain ⟨e843, h4, h⟩ := Option.bind_eq_some_iff.mp h
          rcases ite_eq h with ⟨h5, h⟩ | ⟨h5, h⟩
          · skip
            cases h
            exact ⟨_, round_out (gs := [.t, .a, .t, .el (W34.cells e842), .a, .t, .el (W34.cells e843), .a, .t, .el (W34.cells e843), .ft [⟨0, [1], []⟩, ⟨1, [1], []⟩, ⟨2, [], []⟩, ⟨3, [3], []⟩, ⟨4, [3], []⟩, ⟨5, [0], []⟩, ⟨6, [0], []⟩, ⟨7, [], []⟩, ⟨8, [2], []⟩, ⟨9, [2], []⟩, ⟨10, [2], []⟩, ⟨11, [], []⟩, ⟨12, [], []⟩, ⟨13, [0], []⟩, ⟨14, [0], []⟩, ⟨15, [], []⟩, ⟨16, [2], []⟩, ⟨17, [2], []⟩, ⟨18, [2], []⟩, ⟨19, [], []⟩, ⟨20, [], []⟩, ⟨21, [], []⟩, ⟨22, [], []⟩], .t]) (notIn []) (by kernel_rfl) rfl (And.intro (decide_eq_true h0) (And.intro (decide_eq_true h1) (And.intro (W34.dec_ok h2) (And.intro (decide_eq_true h3) (And.intro (W34.dec_ok h4) (And.intro (decide_eq_true h3) (And.intro (W34.dec_ok h4) (And.intro (Eq.refl ([⟨0, [1], []⟩, ⟨1, [1], []⟩, ⟨2, [], []⟩, ⟨3, [3], []⟩, ⟨4, [3], []⟩, ⟨5, [0], []⟩, ⟨6, [0], []⟩, ⟨7, [], []⟩, ⟨8, [2], []⟩, ⟨9, [2], []⟩, ⟨10, [2], []⟩, ⟨11, [], []⟩, ⟨12, [], []⟩, ⟨13, [0], []⟩, ⟨14, [0], []⟩, ⟨15, [], []⟩, ⟨16, [2], []⟩, ⟨17, [2], []⟩, ⟨18, [2], []⟩, ⟨19, [], []⟩, ⟨20, [], []⟩, ⟨21, [], []⟩, ⟨22, [], []⟩] : List Foot)) (And.intro h5 True.intro))))))))) n, z578, z579, z581, z580, decide (z581 < z580), k585, 0 + Int.toNat z581, e842.c0, e842.c1, k583, e843.c0, w64 (e843.c0 + z578), e843.c1, w64 (e843.c1 + z579), !(e842.c0 == w64 (e843.c0 + z578) && (e842.c1 == w64 (e843.c1 + z579) && true)), b582, b584, l586, l587, rfl⟩
          · skip
            obtain ⟨st, hs, hr⟩ := L8_0_ok m n (z578) (z579) (z580) (w64 (z581 + 1)) (b582) (k583) (b584) (k585) (l586) (l587) r h
            exact ⟨st, (round_on (gs := [.t, .a, .t, .el (W34.cells e842), .a, .t, .el (W34.cells e843), .a, .t, .el (W34.cells e843), .ft [⟨0, [1], []⟩, ⟨1, [1], []⟩, ⟨2, [], []⟩, ⟨3, [3], []⟩, ⟨4, [3], []⟩, ⟨5, [0], []⟩, ⟨6, [0], []⟩, ⟨7, [], []⟩, ⟨8, [2], []⟩, ⟨9, [2], []⟩, ⟨10, [2], []⟩, ⟨11, [], []⟩, ⟨12, [], []⟩, ⟨13, [0], []⟩, ⟨14, [0], []⟩, ⟨15, [], []⟩, ⟨16, [2], []⟩, ⟨17, [2], []⟩, ⟨18, [2], []⟩, ⟨19, [], []⟩, ⟨20, [], []⟩, ⟨21, [], []⟩, ⟨22, [], []⟩], .f]) (notIn []) (by kernel_rfl) (And.intro (decide_eq_true h0) (And.intro (decide_eq_true h1) (And.intro (W34.dec_ok h2) (And.intro (decide_eq_true h3) (And.intro (W34.dec_ok h4) (And.intro (decide_eq_true h3) (And.intro (W34.dec_ok h4) (And.intro (Eq.refl ([⟨0, [1], []⟩, ⟨1, [1], []⟩, ⟨2, [], []⟩, ⟨3, [3], []⟩, ⟨4, [3], []⟩, ⟨5, [0], []⟩, ⟨6, [0], []⟩, ⟨7, [], []⟩, ⟨8, [2], []⟩, ⟨9, [2], []⟩, ⟨10, [2], []⟩, ⟨11, [], []⟩, ⟨12, [], []⟩, ⟨13, [0], []⟩, ⟨14, [0], []⟩, ⟨15, [], []⟩, ⟨16, [2], []⟩, ⟨17, [2], []⟩, ⟨18, [2], []⟩, ⟨19, [], []⟩, ⟨20, [], []⟩, ⟨21, [], []⟩, ⟨22, [], []⟩] : List Foot)) (And.intro (Bool.eq_false_iff.mpr h5) True.intro))))))))) n).trans hs, hr⟩
        · skip
          cases h
      · skip
        cases h
    · skip
      cases h
      exact ⟨_, round_out (gs := [.f]) (notIn []) (by kernel_rfl) rfl (And.intro (decide_eq_false h0) True.intro) n, z578, z579, z580, z581, decide (z581 < z580), rfl⟩
inductive A8 where
  | a0 (b906 : Bool)
@[reducible] def A8.out : A8 → V × Store
  | .a0 b906 => (vb b906, [])
def F8 (l0 : List (List V)) (z1 : Int) (z2 : Int) : Option A8 :=
  (F15 (5) (l0) (0)).bind fun r => match r with
  | .a0 z812 l813 z814 =>
   (F15 (2) (l813) (z814)).bind fun r => match r with
   | .a0 z815 l816 z817 =>
    (F16 (w64 (1 + z812)) (z815 == 0) (l816) (z817)).bind fun r => match r with
    | .a0 b818 k819 l820 z821 l822 =>
     (F33 (Int.tmod z1 1310720) (Int.tmod z2 1310720) (0) (0) (65536) (65536) (0)).bind fun r => match r with
     | .a0 z823 z824 z825 z826 z827 z828 =>
      if 0 + k819 ≤ List.length l822 then
       (F34 (z823) (z824) (z825) (z826) (z827) (z828) (b818) (List.take k819 l822)).bind fun r => match r with
       | .a0 b829 k830 l831 =>
        (F35).bind fun r => match r with
        | .a0 z832 z833 z834 z835 z836 z837 =>
         (F34 (z832) (z833) (z834) (z835) (z836) (z837) (b818) (List.take k819 l822)).bind fun r => match r with
         | .a0 b838 k839 l840 =>
          if 0 + k839 ≤ List.length l840 then
           (F20 (b838) (List.take k839 l840) (b818) (List.take k819 l822)).bind fun r => match r with
           | .a0 b841 =>
            if (!b841) = true then
             none -- false
            else
             if (!b829 == b818) = true then
              none -- false
             else
              if ((↑k830 : Int) != (↑k819 : Int)) = true then
               none -- false
              else
               (L8_0 100000 (Int.tmod z1 1310720) (Int.tmod z2 1310720) ((↑k830 : Int)) (0) (b818) (k819) (b829) (k830) (l822) (l831)).bind fun r => match r with
               | .e0 =>
                none -- false
               | .e1 b898 k899 b900 k901 l902 l903 =>
                if 0 + k901 ≤ List.length l903 then
                 if 0 + k899 ≤ List.length l902 then
                  bnd (F36 (b900) (List.take k901 l903) (b898) (List.take k899 l902)) fun b904 =>
                  if (b904) = true then
                   (F21).bind fun r => match r with
                   | .a0 b905 =>
                    some (A8.a0 (b905))
                  else
                   none -- false
                 else
                  none -- none
                else
                 none -- none
          else
           none -- none
      else
       none -- none
theorem F8_ok (m : Nat) (l0 : List (List V)) (z1 : Int) (z2 : Int) (r : A8) (h : F8 l0 z1 z2 = some r) : call Try.prog X O0 100000 (m + 8) 8 ([V.list 1 l0, i64 z1, i64 z2]) ([]) = some r.out := by
  unfold F8 at h
  obtain ⟨r0, h0, h⟩ := Option.bind_eq_some_iff.mp h
  have h0 := F15_ok (m + 5) (5) (l0) (0) r0 h0
  cases r0 with
  | a0 z812 l813 z814 =>
    obtain ⟨r1, h1, h⟩ := Option.bind_eq_some_iff.mp h
    have h1 := F15_ok (m + 5) (2) (l813) (z814) r1 h1
    cases r1 with
    | a0 z815 l816 z817 =>
      obtain ⟨r2, h2, h⟩ := Option.bind_eq_some_iff.mp h
      have h2 := F16_ok (m + 2) (w64 (1 + z812)) (z815 == 0) (l816) (z817) r2 h2
      cases r2 with
      | a0 b818 k819 l820 z821 l822 =>
        obtain ⟨r3, h3, h⟩ := Option.bind_eq_some_iff.mp h
        have h3 := F33_ok (m + 0) (Int.tmod z1 1310720) (Int.tmod z2 1310720) (0) (0) (65536) (65536) (0) r3 h3
        cases r3 with
        | a0 z823 z824 z825 z826 z827 z828 =>
          rcases ite_eq h with ⟨h4, h⟩ | ⟨h4, h⟩
          · skip
            obtain ⟨r5, h5, h⟩ := Option.bind_eq_some_iff.mp h
            have h5 := F34_ok (m + 1) (z823) (z824) (z825) (z826) (z827) (z828) (b818) (List.take k819 l822) r5 h5
            cases r5 with
            | a0 b829 k830 l831 =>
              obtain ⟨r6, h6, h⟩ := Option.bind_eq_some_iff.mp h
              have h6 := F35_ok (m + 6) r6 h6
              cases r6 with
              | a0 z832 z833 z834 z835 z836 z837 =>
                obtain ⟨r7, h7, h⟩ := Option.bind_eq_some_iff.mp h
                have h7 := F34_ok (m + 1) (z832) (z833) (z834) (z835) (z836) (z837) (b818) (List.take k819 l822) r7 h7
                cases r7 with
                | a0 b838 k839 l840 =>
                  rcases ite_eq h with ⟨h8, h⟩ | ⟨h8, h⟩
                  · skip
                    obtain ⟨r9, h9, h⟩ := Option.bind_eq_some_iff.mp h
                    have h9 := F20_ok (m + 5) (b838) (List.take k839 l840) (b818) (List.take k819 l822) r9 h9
                    cases r9 with
                    | a0 b841 =>
                      rcases ite_eq h with ⟨h10, h⟩ | ⟨h10, h⟩
                      · skip
                        cases h
                      · skip
                        rcases ite_eq h with ⟨h11, h⟩ | ⟨h11, h⟩
                        · skip
                          cases h
                        · skip
                          rcases ite_eq h with ⟨h12, h⟩ | ⟨h12, h⟩
                          · skip
                            cases h
                          · skip
                            obtain ⟨r13, h13, h⟩ := Option.bind_eq_some_iff.mp h
                            obtain ⟨st13, h13, hr13⟩ := L8_0_ok m 100000 (Int.tmod z1 1310720) (Int.tmod z2 1310720) ((↑k830 : Int)) (0) (b818) (k819) (b829) (k830) (l822) (l831) r13 h13
                            have h13 : loopRun Try.prog X (call Try.prog X O0 100000 (m + 7)) 8 (0) 100000 B8 0 ({ T := V.list 1 l0 :: i64 z1 :: i64 z2 :: U :: U :: U :: vb false :: V.ptr 0 0 0 :: V.ptr 2 0 0 :: i64 (Int.tmod z1 1310720) :: i64 (Int.tmod z2 1310720) :: V.ptr 3 0 0 :: V.ptr 5 0 0 :: U :: V.list 1 l0 :: V.agg [V.list 1 l0, i64 0] :: V.ptr 0 0 0 :: V.ptr 0 0 0 :: V.ptr 0 0 0 :: i64 z812 :: i64 (w64 (1 + z812)) :: V.ptr 0 0 0 :: i64 z815 :: vb (z815 == 0) :: V.agg [vb b818, V.hs 1 0 k819] :: i64 z1 :: i64 (Int.tmod z1 1310720) :: i64 z2 :: i64 (Int.tmod z2 1310720) :: i64 (Int.tmod z1 1310720) :: i64 (Int.tmod z2 1310720) :: V.agg [i64 z823, i64 z824, i64 z825, i64 z826, i64 z827, i64 z828] :: V.agg [i64 z823, i64 z824, i64 z825, i64 z826, i64 z827, i64 z828] :: V.agg [vb b818, V.hs 1 0 k819] :: V.agg [vb b829, V.hs 4 0 k830] :: V.agg [i64 z832, i64 z833, i64 z834, i64 z835, i64 z836, i64 z837] :: V.agg [vb b818, V.hs 1 0 k819] :: V.agg [vb b838, V.hs 6 0 k839] :: V.agg [vb b818, V.hs 1 0 k819] :: vb b841 :: (vb !b841) :: (vb !b841) :: V.ptr 5 0 0 :: vb b829 :: V.ptr 2 0 0 :: vb b818 :: (vb !b829 == b818) :: (vb !b829 == b818) :: (vb !b829 == b818) :: V.ptr 5 0 1 :: V.hs 4 0 k830 :: i64 (↑k830 : Int) :: V.ptr 2 0 1 :: V.hs 1 0 k819 :: i64 (↑k819 : Int) :: vb ((↑k830 : Int) != (↑k819 : Int)) :: vb ((↑k830 : Int) != (↑k819 : Int)) :: V.ptr 5 0 1 :: V.hs 4 0 k830 :: i64 (↑k830 : Int) :: i64 0 :: un 32 [], σ := [Ob.cells true false 2 [[V.list 1 l820, i64 z821]], Ob.cells false true 2 l822, Ob.cells true false 2 [[vb b818, V.hs 1 0 k819]], Ob.cells true false 6 [[i64 z823, i64 z824, i64 z825, i64 z826, i64 z827, i64 z828]], Ob.cells true true 2 l831, Ob.cells true false 2 [[vb b829, V.hs 4 0 k830]], Ob.cells true true 2 l840] }) = some st13 := by
                              rw [loopRun_from, show prep (0) (X.keep 8 0) ({ T := V.list 1 l0 :: i64 z1 :: i64 z2 :: U :: U :: U :: vb false :: V.ptr 0 0 0 :: V.ptr 2 0 0 :: i64 (Int.tmod z1 1310720) :: i64 (Int.tmod z2 1310720) :: V.ptr 3 0 0 :: V.ptr 5 0 0 :: U :: V.list 1 l0 :: V.agg [V.list 1 l0, i64 0] :: V.ptr 0 0 0 :: V.ptr 0 0 0 :: V.ptr 0 0 0 :: i64 z812 :: i64 (w64 (1 + z812)) :: V.ptr 0 0 0 :: i64 z815 :: vb (z815 == 0) :: V.agg [vb b818, V.hs 1 0 k819] :: i64 z1 :: i64 (Int.tmod z1 1310720) :: i64 z2 :: i64 (Int.tmod z2 1310720) :: i64 (Int.tmod z1 1310720) :: i64 (Int.tmod z2 1310720) :: V.agg [i64 z823, i64 z824, i64 z825, i64 z826, i64 z827, i64 z828] :: V.agg [i64 z823, i64 z824, i64 z825, i64 z826, i64 z827, i64 z828] :: V.agg [vb b818, V.hs 1 0 k819] :: V.agg [vb b829, V.hs 4 0 k830] :: V.agg [i64 z832, i64 z833, i64 z834, i64 z835, i64 z836, i64 z837] :: V.agg [vb b818, V.hs 1 0 k819] :: V.agg [vb b838, V.hs 6 0 k839] :: V.agg [vb b818, V.hs 1 0 k819] :: vb b841 :: (vb !b841) :: (vb !b841) :: V.ptr 5 0 0 :: vb b829 :: V.ptr 2 0 0 :: vb b818 :: (vb !b829 == b818) :: (vb !b829 == b818) :: (vb !b829 == b818) :: V.ptr 5 0 1 :: V.hs 4 0 k830 :: i64 (↑k830 : Int) :: V.ptr 2 0 1 :: V.hs 1 0 k819 :: i64 (↑k819 : Int) :: vb ((↑k830 : Int) != (↑k819 : Int)) :: vb ((↑k830 : Int) != (↑k819 : Int)) :: V.ptr 5 0 1 :: V.hs 4 0 k830 :: i64 (↑k830 : Int) :: i64 0 :: un 32 [], σ := [Ob.cells true false 2 [[V.list 1 l820, i64 z821]], Ob.cells false true 2 l822, Ob.cells true false 2 [[vb b818, V.hs 1 0 k819]], Ob.cells true false 6 [[i64 z823, i64 z824, i64 z825, i64 z826, i64 z827, i64 z828]], Ob.cells true true 2 l831, Ob.cells true false 2 [[vb b829, V.hs 4 0 k830]], Ob.cells true true 2 l840] }) = { T := un 8 (V.ptr 0 0 0 :: i64 (Int.tmod z1 1310720) :: i64 (Int.tmod z2 1310720) :: U :: V.ptr 1 0 0 :: un 46 (i64 (↑k830 : Int) :: i64 0 :: un 32 [])), σ := [Ob.cells true false 2 [[vb b818, V.hs 2 0 k819]], Ob.cells true false 2 [[vb b829, V.hs 3 0 k830]], Ob.cells false true 2 l822, Ob.cells true true 2 l831] } by kernel_rfl]
                              exact h13
                            cases r13 with
                            | e0 =>
                              obtain ⟨z874, z875, z876, z877, b878, k879, k880, z881, z882, k883, z884, z885, z886, z887, b888, b889, b890, l891, l892, rfl⟩ := hr13
                              cases h
                            | e1 b898 k899 b900 k901 l902 l903 =>
                              obtain ⟨z893, z894, z895, z896, b897, rfl⟩ := hr13
                              rcases ite_eq h with ⟨h14, h⟩ | ⟨h14, h⟩
                              · skip
                                rcases ite_eq h with ⟨h15, h⟩ | ⟨h15, h⟩
                                · skip
                                  obtain ⟨b904, h16, h⟩ := bnd_eq h
                                  rcases ite_eq h with ⟨h17, h⟩ | ⟨h17, h⟩
                                  · skip
                                    obtain ⟨r18, h18, h⟩ := Option.bind_eq_some_iff.mp h
                                    have h18 := F21_ok (m + 1) r18 h18
                                    cases r18 with
                                    | a0 b905 =>
                                      cases h
                                      exact call_pathL (gs := [.an (i64 z812) [Ob.cells true false 2 [[V.list 1 l813, i64 z814]]], .an (i64 z815) [Ob.cells true false 2 [[V.list 1 l816, i64 z817]]], .an (V.agg [vb b818, V.hs 1 0 k819]) [Ob.cells true false 2 [[V.list 1 l820, i64 z821]], Ob.cells true true 2 l822], .a, .a, .a, .an (V.agg [i64 z823, i64 z824, i64 z825, i64 z826, i64 z827, i64 z828]) [], .a, .a, .a, .t, .an (V.agg [vb b829, V.hs 0 0 k830]) [Ob.cells true true 2 l831], .a, .an (V.agg [i64 z832, i64 z833, i64 z834, i64 z835, i64 z836, i64 z837]) [], .a, .t, .an (V.agg [vb b838, V.hs 0 0 k839]) [Ob.cells true true 2 l840], .a, .t, .t, .an (vb b841) [], .f, .f, .a, .f, .f, .a, .f, .f, .f, .f, .a, .f, .f, .f, .a, .f, .f, .f, .ft [⟨0, [], []⟩, ⟨1, [2], []⟩, ⟨2, [1, 6], [6]⟩, ⟨3, [2], []⟩, ⟨4, [6, 1], []⟩, ⟨5, [], []⟩, ⟨6, [], []⟩, ⟨7, [5], []⟩, ⟨8, [5], []⟩, ⟨9, [2], []⟩, ⟨10, [2], []⟩, ⟨11, [], []⟩, ⟨12, [], []⟩, ⟨13, [], []⟩, ⟨14, [5], []⟩, ⟨15, [5], []⟩, ⟨16, [4], []⟩, ⟨17, [2], []⟩, ⟨18, [2], []⟩, ⟨19, [1], []⟩, ⟨20, [], []⟩, ⟨21, [], []⟩], .f, .a, .lp (VX.exit 0) (s8_0_1 z893 z894 z895 z896 b897 b898 k899 b900 k901 l902 l903), .a, .a, .t, .t, .an (vb b904) [], .t, .an (vb b905) [], .t]) (notIn []) rfl rfl (by kernel_rfl) (And.intro h0 (And.intro h1 (And.intro h2 (And.intro h3 (And.intro (decide_eq_true h4) (And.intro h5 (And.intro h6 (And.intro (decide_eq_true h4) (And.intro h7 (And.intro (decide_eq_true h8) (And.intro (decide_eq_true h4) (And.intro h9 (And.intro (Bool.eq_false_iff.mpr h10) (And.intro (Bool.eq_false_iff.mpr h10) (And.intro (Bool.eq_false_iff.mpr h10) (And.intro (Bool.eq_false_iff.mpr h10) (And.intro (Bool.eq_false_iff.mpr h10) (And.intro (Bool.eq_false_iff.mpr h10) (And.intro (Bool.eq_false_iff.mpr h11) (And.intro (Bool.eq_false_iff.mpr h11) (And.intro (Bool.eq_false_iff.mpr h11) (And.intro (Bool.eq_false_iff.mpr h11) (And.intro (Bool.eq_false_iff.mpr h11) (And.intro (Bool.eq_false_iff.mpr h11) (And.intro (Bool.eq_false_iff.mpr h11) (And.intro (Bool.eq_false_iff.mpr h11) (And.intro (Eq.refl ([⟨0, [], []⟩, ⟨1, [2], []⟩, ⟨2, [1, 6], [6]⟩, ⟨3, [2], []⟩, ⟨4, [6, 1], []⟩, ⟨5, [], []⟩, ⟨6, [], []⟩, ⟨7, [5], []⟩, ⟨8, [5], []⟩, ⟨9, [2], []⟩, ⟨10, [2], []⟩, ⟨11, [], []⟩, ⟨12, [], []⟩, ⟨13, [], []⟩, ⟨14, [5], []⟩, ⟨15, [5], []⟩, ⟨16, [4], []⟩, ⟨17, [2], []⟩, ⟨18, [2], []⟩, ⟨19, [1], []⟩, ⟨20, [], []⟩, ⟨21, [], []⟩] : List Foot)) (And.intro (Bool.eq_false_iff.mpr h12) (And.intro h13 (And.intro (decide_eq_true h14) (And.intro (decide_eq_true h15) (And.intro (F36_ok (m + 6) (b900) (List.take k901 l903) (b898) (List.take k899 l902) b904 h16) (And.intro h17 (And.intro h18 (And.intro h17 True.intro)))))))))))))))))))))))))))))))))))
                                  · skip
                                    cases h
                                · skip
                                  cases h
                              · skip
                                cases h
                  · skip
                    cases h
          · skip
            cases h
end Go.Proofs.Ythohhdcngdmbeaa.H
