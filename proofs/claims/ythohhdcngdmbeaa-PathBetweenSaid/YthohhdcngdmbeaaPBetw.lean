/- What the functions compute, and that they do so over the machine of plain values (printed by this session's program wip/vm/Walk.lean). No condition beyond those stated. -/
import Derived.Test.YthohhdcngdmbeaaWk
import Derived.Test.YthohhdcngdmbeaaRowsR2
set_option linter.unusedVariables false
set_option linter.unusedSimpArgs false
namespace Go.Proofs.Ythohhdcngdmbeaa.H
open Go Go.VM
set_option maxRecDepth 100000
/-! ## 17 -/
inductive A17 where
  | a0 (z16 : Int)
@[reducible] def A17.out : A17 → V × Store
  | .a0 z16 => (i64 z16, [])
def F17 (z12 : Int) (z13 : Int) (z14 : Int) : Option A17 :=
  if z12 ≥ z13 then
   if z12 ≤ z14 then
    some (A17.a0 (z12))
   else
    if w64 (w64 (z14 - z13) + 1) = 0 then
     none -- none
    else
     if Int.tmod z12 (w64 (w64 (z14 - z13) + 1)) < 0 then
      some (A17.a0 (w64 (z13 + w64 (w64 (w64 (Int.tmod z12 (w64 (w64 (z14 - z13) + 1)) + z14) - z13) + 1))))
     else
      some (A17.a0 (w64 (z13 + Int.tmod z12 (w64 (w64 (z14 - z13) + 1)))))
  else
   if w64 (w64 (z14 - z13) + 1) = 0 then
    none -- none
   else
    if Int.tmod z12 (w64 (w64 (z14 - z13) + 1)) < 0 then
     some (A17.a0 (w64 (z13 + w64 (w64 (w64 (Int.tmod z12 (w64 (w64 (z14 - z13) + 1)) + z14) - z13) + 1))))
    else
     some (A17.a0 (w64 (z13 + Int.tmod z12 (w64 (w64 (z14 - z13) + 1)))))
theorem F17_ok (m : Nat) (z12 : Int) (z13 : Int) (z14 : Int) (r : A17) (h : F17 z12 z13 z14 = some r) : call Try.prog X O0 100000 (m + 1) 17 ([i64 z12, i64 z13, i64 z14]) ([]) = some r.out := by
  unfold F17 at h
  rcases ite_eq h with ⟨h0, h⟩ | ⟨h0, h⟩
  · skip
    rcases ite_eq h with ⟨h1, h⟩ | ⟨h1, h⟩
    · skip
      cases h
      exact call_pathL (gs := [.t, .t, .t, .t, .t]) (notIn []) rfl rfl (by kernel_rfl) (And.intro (decide_eq_true h0) (And.intro (decide_eq_true h0) (And.intro (decide_eq_true h0) (And.intro (decide_eq_true h0) (And.intro (decide_eq_true h1) True.intro)))))
    · skip
      rcases ite_eq h with ⟨h2, h⟩ | ⟨h2, h⟩
      · skip
        cases h
      · skip
        rcases ite_eq h with ⟨h3, h⟩ | ⟨h3, h⟩
        · skip
          cases h
          exact call_pathL (gs := [.t, .t, .t, .t, .f, .f, .t]) (notIn []) rfl rfl (by kernel_rfl) (And.intro (decide_eq_true h0) (And.intro (decide_eq_true h0) (And.intro (decide_eq_true h0) (And.intro (decide_eq_true h0) (And.intro (decide_eq_false h1) (And.intro (decide_eq_false h2) (And.intro (decide_eq_true h3) True.intro)))))))
        · skip
          cases h
          exact call_pathL (gs := [.t, .t, .t, .t, .f, .f, .f]) (notIn []) rfl rfl (by kernel_rfl) (And.intro (decide_eq_true h0) (And.intro (decide_eq_true h0) (And.intro (decide_eq_true h0) (And.intro (decide_eq_true h0) (And.intro (decide_eq_false h1) (And.intro (decide_eq_false h2) (And.intro (decide_eq_false h3) True.intro)))))))
  · skip
    rcases ite_eq h with ⟨h1, h⟩ | ⟨h1, h⟩
    · skip
      cases h
    · skip
      rcases ite_eq h with ⟨h2, h⟩ | ⟨h2, h⟩
      · skip
        cases h
        exact call_pathL (gs := [.f, .f, .f, .f, .a, .f, .t]) (notIn []) rfl rfl (by kernel_rfl) (And.intro (decide_eq_false h0) (And.intro (decide_eq_false h0) (And.intro (decide_eq_false h0) (And.intro (decide_eq_false h0) (And.intro (decide_eq_false h1) (And.intro (decide_eq_true h2) True.intro))))))
      · skip
        cases h
        exact call_pathL (gs := [.f, .f, .f, .f, .a, .f, .f]) (notIn []) rfl rfl (by kernel_rfl) (And.intro (decide_eq_false h0) (And.intro (decide_eq_false h0) (And.intro (decide_eq_false h0) (And.intro (decide_eq_false h0) (And.intro (decide_eq_false h1) (And.intro (decide_eq_false h2) True.intro))))))
/-! ## 15 -/
inductive A15 where
  | a0 (z8 : Int) (l9 : List (List V)) (z10 : Int)
@[reducible] def A15.out : A15 → V × Store
  | .a0 z8 l9 z10 => (i64 z8, [Ob.cells true false 2 [[V.list 1 l9, i64 z10]]])
def F15 (z4 : Int) (l5 : List (List V)) (z6 : Int) : Option A15 :=
  if z6 ≥ (↑(List.length l5) : Int) then
   some (A15.a0 (0) (l5) (z6))
  else
   if 0 ≤ w64 (w64 (z6 + 1) - 1) then
    ((l5[Int.toNat (w64 (w64 (z6 + (1 : Int)) - (1 : Int)))]?).bind W3.dec).bind fun e11 =>
    (F17 (e11.c0) (0) (1073741824)).bind fun r => match r with
    | .a0 z17 =>
     if z4 = 0 then
      none -- none
     else
      some (A15.a0 (Int.tmod z17 z4) (l5) (w64 (z6 + 1)))
   else
    none -- none
theorem F15_ok (m : Nat) (z4 : Int) (l5 : List (List V)) (z6 : Int) (r : A15) (h : F15 z4 l5 z6 = some r) : call Try.prog X O0 100000 (m + 2) 15 ([V.ptr 0 0 0, i64 z4]) ([Ob.cells true false 2 [[V.list 1 l5, i64 z6]]]) = some r.out := by
  unfold F15 at h
  rcases ite_eq h with ⟨h0, h⟩ | ⟨h0, h⟩
  · skip
    cases h
    exact call_pathL (gs := [.a, .a, .ft [⟨0, [], []⟩, ⟨1, [0], []⟩, ⟨2, [0], []⟩, ⟨3, [0], []⟩, ⟨4, [], []⟩, ⟨5, [0], []⟩, ⟨6, [0], []⟩, ⟨7, [0], []⟩, ⟨8, [], []⟩, ⟨9, [], []⟩], .t]) (notIn []) rfl rfl (by kernel_rfl) (And.intro (Eq.refl ([⟨0, [], []⟩, ⟨1, [0], []⟩, ⟨2, [0], []⟩, ⟨3, [0], []⟩, ⟨4, [], []⟩, ⟨5, [0], []⟩, ⟨6, [0], []⟩, ⟨7, [0], []⟩, ⟨8, [], []⟩, ⟨9, [], []⟩] : List Foot)) (And.intro (decide_eq_true h0) True.intro))
  · skip
    rcases ite_eq h with ⟨h1, h⟩ | ⟨h1, h⟩
    · skip
      obtain ⟨e11, h2, h⟩ := Option.bind_eq_some_iff.mp h
      obtain ⟨r3, h3, h⟩ := Option.bind_eq_some_iff.mp h
      have h3 := F17_ok (m + 0) (e11.c0) (0) (1073741824) r3 h3
      cases r3 with
      | a0 z17 =>
        rcases ite_eq h with ⟨h4, h⟩ | ⟨h4, h⟩
        · skip
          cases h
        · skip
          cases h
          exact call_pathL (gs := [.a, .a, .ft [⟨0, [], []⟩, ⟨1, [0], []⟩, ⟨2, [0], []⟩, ⟨3, [0], []⟩, ⟨4, [], []⟩, ⟨5, [0], []⟩, ⟨6, [0], []⟩, ⟨7, [0], []⟩, ⟨8, [], []⟩, ⟨9, [], []⟩], .f, .a, .a, .a, .a, .t, .el (W3.cells e11), .an (i64 z17) [], .f, .ft [⟨0, [], []⟩, ⟨1, [0], []⟩, ⟨2, [0], []⟩, ⟨3, [0], []⟩, ⟨4, [], []⟩, ⟨5, [0], []⟩, ⟨6, [0], []⟩, ⟨7, [0], []⟩, ⟨8, [], []⟩, ⟨9, [], []⟩, ⟨10, [], []⟩, ⟨11, [], []⟩, ⟨12, [], []⟩, ⟨13, [], []⟩, ⟨14, [], []⟩]]) (notIn []) rfl rfl (by kernel_rfl) (And.intro (Eq.refl ([⟨0, [], []⟩, ⟨1, [0], []⟩, ⟨2, [0], []⟩, ⟨3, [0], []⟩, ⟨4, [], []⟩, ⟨5, [0], []⟩, ⟨6, [0], []⟩, ⟨7, [0], []⟩, ⟨8, [], []⟩, ⟨9, [], []⟩] : List Foot)) (And.intro (decide_eq_false h0) (And.intro (decide_eq_true h1) (And.intro (W3.dec_ok h2) (And.intro h3 (And.intro (decide_eq_false h4) (And.intro (Eq.refl ([⟨0, [], []⟩, ⟨1, [0], []⟩, ⟨2, [0], []⟩, ⟨3, [0], []⟩, ⟨4, [], []⟩, ⟨5, [0], []⟩, ⟨6, [0], []⟩, ⟨7, [0], []⟩, ⟨8, [], []⟩, ⟨9, [], []⟩, ⟨10, [], []⟩, ⟨11, [], []⟩, ⟨12, [], []⟩, ⟨13, [], []⟩, ⟨14, [], []⟩] : List Foot)) True.intro)))))))
    · skip
      cases h
/-! ## 54 -/
inductive A54 where
  | a0 (z42 : Int) (l43 : List (List V)) (z44 : Int)
@[reducible] def A54.out : A54 → V × Store
  | .a0 z42 l43 z44 => (i64 z42, [Ob.cells true false 2 [[V.list 1 l43, i64 z44]]])
def F54 (z31 : Int) (z32 : Int) (l33 : List (List V)) (z34 : Int) : Option A54 :=
  (F15 (w64 (w64 (z32 - z31) + 1)) (l33) (z34)).bind fun r => match r with
  | .a0 z36 l37 z38 =>
   (F15 (4) (l37) (z38)).bind fun r => match r with
   | .a0 z39 l40 z41 =>
    if (z39 == 0) = true then
     some (A54.a0 (w64 (w64 (w64 (z31 + z36) * 65536) + 32768)) (l40) (z41))
    else
     if (z39 == 1) = true then
      (F15 (65536) (l40) (z41)).bind fun r => match r with
      | .a0 z45 l46 z47 =>
       some (A54.a0 (w64 (w64 (w64 (z31 + z36) * 65536) + z45)) (l46) (z47))
     else
      some (A54.a0 (w64 (w64 (z31 + z36) * 65536)) (l40) (z41))
theorem F54_ok (m : Nat) (z31 : Int) (z32 : Int) (l33 : List (List V)) (z34 : Int) (r : A54) (h : F54 z31 z32 l33 z34 = some r) : call Try.prog X O0 100000 (m + 3) 54 ([V.ptr 0 0 0, i64 z31, i64 z32]) ([Ob.cells true false 2 [[V.list 1 l33, i64 z34]]]) = some r.out := by
  unfold F54 at h
  obtain ⟨r0, h0, h⟩ := Option.bind_eq_some_iff.mp h
  have h0 := F15_ok (m + 0) (w64 (w64 (z32 - z31) + 1)) (l33) (z34) r0 h0
  cases r0 with
  | a0 z36 l37 z38 =>
    obtain ⟨r1, h1, h⟩ := Option.bind_eq_some_iff.mp h
    have h1 := F15_ok (m + 0) (4) (l37) (z38) r1 h1
    cases r1 with
    | a0 z39 l40 z41 =>
      rcases ite_eq h with ⟨h2, h⟩ | ⟨h2, h⟩
      · skip
        cases h
        exact call_pathL (gs := [.an (i64 z36) [Ob.cells true false 2 [[V.list 1 l37, i64 z38]]], .an (i64 z39) [Ob.cells true false 2 [[V.list 1 l40, i64 z41]]], .t]) (notIn []) rfl rfl (by kernel_rfl) (And.intro h0 (And.intro h1 (And.intro h2 True.intro)))
      · skip
        rcases ite_eq h with ⟨h3, h⟩ | ⟨h3, h⟩
        · skip
          obtain ⟨r4, h4, h⟩ := Option.bind_eq_some_iff.mp h
          have h4 := F15_ok (m + 0) (65536) (l40) (z41) r4 h4
          cases r4 with
          | a0 z45 l46 z47 =>
            cases h
            exact call_pathL (gs := [.an (i64 z36) [Ob.cells true false 2 [[V.list 1 l37, i64 z38]]], .an (i64 z39) [Ob.cells true false 2 [[V.list 1 l40, i64 z41]]], .f, .t, .an (i64 z45) [Ob.cells true false 2 [[V.list 1 l46, i64 z47]]]]) (notIn []) rfl rfl (by kernel_rfl) (And.intro h0 (And.intro h1 (And.intro (Bool.eq_false_iff.mpr h2) (And.intro h3 (And.intro h4 True.intro)))))
        · skip
          cases h
          exact call_pathL (gs := [.an (i64 z36) [Ob.cells true false 2 [[V.list 1 l37, i64 z38]]], .an (i64 z39) [Ob.cells true false 2 [[V.list 1 l40, i64 z41]]], .f, .f]) (notIn []) rfl rfl (by kernel_rfl) (And.intro h0 (And.intro h1 (And.intro (Bool.eq_false_iff.mpr h2) (And.intro (Bool.eq_false_iff.mpr h3) True.intro))))
/-! ## 46 -/
inductive A46 where
  | a0 (z54 : Int) (z55 : Int) (l56 : List (List V)) (z57 : Int)
@[reducible] def A46.out : A46 → V × Store
  | .a0 z54 z55 l56 z57 => (V.agg [i64 z54, i64 z55], [Ob.cells true false 2 [[V.list 1 l56, i64 z57]]])
def F46 (z26 : Int) (z27 : Int) (l28 : List (List V)) (z29 : Int) : Option A46 :=
  (F54 (z26) (z27) (l28) (z29)).bind fun r => match r with
  | .a0 z48 l49 z50 =>
   (F54 (z26) (z27) (l49) (z50)).bind fun r => match r with
   | .a0 z51 l52 z53 =>
    some (A46.a0 (z48) (z51) (l52) (z53))
theorem F46_ok (m : Nat) (z26 : Int) (z27 : Int) (l28 : List (List V)) (z29 : Int) (r : A46) (h : F46 z26 z27 l28 z29 = some r) : call Try.prog X O0 100000 (m + 4) 46 ([V.ptr 0 0 0, i64 z26, i64 z27]) ([Ob.cells true false 2 [[V.list 1 l28, i64 z29]]]) = some r.out := by
  unfold F46 at h
  obtain ⟨r0, h0, h⟩ := Option.bind_eq_some_iff.mp h
  have h0 := F54_ok (m + 0) (z26) (z27) (l28) (z29) r0 h0
  cases r0 with
  | a0 z48 l49 z50 =>
    obtain ⟨r1, h1, h⟩ := Option.bind_eq_some_iff.mp h
    have h1 := F54_ok (m + 0) (z26) (z27) (l49) (z50) r1 h1
    cases r1 with
    | a0 z51 l52 z53 =>
      cases h
      exact call_pathL (gs := [.an (i64 z48) [Ob.cells true false 2 [[V.list 1 l49, i64 z50]]], .an (i64 z51) [Ob.cells true false 2 [[V.list 1 l52, i64 z53]]], .a]) (notIn []) rfl rfl (by kernel_rfl) (And.intro h0 (And.intro h1 True.intro))
/-! ## 16 -/
noncomputable abbrev B16 : Code := (Try.f16.body).getD .skip
inductive R16_0 where
  | e0 (l130 : List (List V)) (z131 : Int) (b132 : Bool) (k133 : Nat) (l134 : List (List V))
@[reducible] def s16_0_0 (z127 : Int) (z128 : Int) (b129 : Bool) (l130 : List (List V)) (z131 : Int) (b132 : Bool) (k133 : Nat) (l134 : List (List V)) : S := { T := V.ptr 0 0 0 :: i64 z127 :: un 4 (V.ptr 1 0 0 :: V.ptr 2 0 0 :: i64 z128 :: un 7 (i64 z128 :: i64 z127 :: vb b129 :: un 34 [])), σ := [Ob.cells true false 2 [[V.list 1 l130, i64 z131]], Ob.cells true false 2 [[vb false, V.nilS]], Ob.cells true false 2 [[vb b132, V.hs 3 0 k133]], Ob.cells true true 2 l134] }
def R16_0.St : R16_0 → VX × S → Prop
  | .e0 l130 z131 b132 k133 l134, p => ∃ z127 : Int, ∃ z128 : Int, ∃ b129 : Bool, p = (VX.exit 0, s16_0_0 z127 z128 b129 l130 z131 b132 k133 l134)
def L16_0 : Nat → Int → Int → List (List V) → Int → Bool → Nat → List (List V) → Option R16_0
  | 0, _, _, _, _, _, _, _ => none
  | n + 1, z75, z76, l77, z78, b79, k80, l81 =>
    if z76 < z75 then
     if 0 ≤ w64 ((↑k80 : Int) - 1) ∧ w64 ((↑k80 : Int) - 1) < (↑k80 : Int) then
      ((l81[(0 : Nat) + Int.toNat (w64 ((↑k80 : Int) - (1 : Int)))]?).bind W34.dec).bind fun e111 =>
      (F46 (-2) (14) (l77) (z78)).bind fun r => match r with
      | .a0 z112 z113 l114 z115 =>
       (F15 (2) (l114) (z115)).bind fun r => match r with
       | .a0 z116 l117 z118 =>
        if (z116 == 0) = true then
         if 0 + k80 ≤ List.length l81 ∧ (k80 + 3) * 16 ≤ 140737488355328 ∧ k80 + 3 ≤ 140737488355328 then
          L16_0 n (z75) (w64 (z76 + 1)) (l117) (z118) (b79) (k80 + 3) (List.take k80 l81 ++ [[i64 e111.c0, i64 e111.c1], [i64 z112, i64 z113], [i64 z112, i64 z113]])
         else
          none -- none
        else
         (F46 (-2) (14) (l117) (z118)).bind fun r => match r with
         | .a0 z119 z120 l121 z122 =>
          (F46 (-2) (14) (l121) (z122)).bind fun r => match r with
          | .a0 z123 z124 l125 z126 =>
           if 0 + k80 ≤ List.length l81 ∧ (k80 + 3) * 16 ≤ 140737488355328 ∧ k80 + 3 ≤ 140737488355328 then
            L16_0 n (z75) (w64 (z76 + 1)) (l125) (z126) (b79) (k80 + 3) (List.take k80 l81 ++ [[i64 z119, i64 z120], [i64 z123, i64 z124], [i64 z112, i64 z113]])
           else
            none -- none
     else
      none -- none
    else
     some (R16_0.e0 (l77) (z78) (b79) (k80) (l81))
theorem L16_0_ok (m : Nat) : ∀ (n : Nat) (z75 : Int) (z76 : Int) (l77 : List (List V)) (z78 : Int) (b79 : Bool) (k80 : Nat) (l81 : List (List V)) (r : R16_0), L16_0 n z75 z76 l77 z78 b79 k80 l81 = some r → ∃ st, loopFrom Try.prog X (call Try.prog X O0 100000 (m + 4)) 16 (1) 100000 B16 0 n ({ T := V.ptr 0 0 0 :: i64 z75 :: un 4 (V.ptr 1 0 0 :: V.ptr 2 0 0 :: i64 z76 :: un 44 []), σ := [Ob.cells true false 2 [[V.list 1 l77, i64 z78]], Ob.cells true false 2 [[vb false, V.nilS]], Ob.cells true false 2 [[vb b79, V.hs 3 0 k80]], Ob.cells true true 2 l81] }) = some st ∧ r.St st
  | 0, _, _, _, _, _, _, _, r, h => by cases h
  | n + 1, z75, z76, l77, z78, b79, k80, l81, r, h => by
    rw [L16_0] at h
    rcases ite_eq h with ⟨h0, h⟩ | ⟨h0, h⟩
    · skip
      rcases ite_eq h with ⟨h1, h⟩ | ⟨h1, h⟩
      · skip
        obtain ⟨e111, h2, h⟩ := Option.bind_eq_some_iff.mp h
        obtain ⟨r3, h3, h⟩ := Option.bind_eq_some_iff.mp h
        have h3 := F46_ok (m + 0) (-2) (14) (l77) (z78) r3 h3
        cases r3 with
        | a0 z112 z113 l114 z115 =>
          obtain ⟨r4, h4, h⟩ := Option.bind_eq_some_iff.mp h
          have h4 := F15_ok (m + 2) (2) (l114) (z115) r4 h4
          cases r4 with
          | a0 z116 l117 z118 =>
            rcases ite_eq h with ⟨h5, h⟩ | ⟨h5, h⟩
            · skip
              rcases ite_eq h with ⟨h6, h⟩ | ⟨h6, h⟩
              · skip
                obtain ⟨st, hs, hr⟩ := L16_0_ok m n (z75) (w64 (z76 + 1)) (l117) (z118) (b79) (k80 + 3) (List.take k80 l81 ++ [[i64 e111.c0, i64 e111.c1], [i64 z112, i64 z113], [i64 z112, i64 z113]]) r h
                exact ⟨st, (round_on (gs := [.t, .a, .a, .t, .el (W34.cells e111), .an (V.agg [i64 z112, i64 z113]) [Ob.cells true false 2 [[V.list 1 l114, i64 z115]]], .a, .a, .ft [⟨0, [2], []⟩, ⟨1, [2], []⟩, ⟨2, [2], []⟩, ⟨3, [2], []⟩, ⟨4, [3], []⟩, ⟨5, [], []⟩, ⟨6, [3], []⟩, ⟨7, [3], []⟩, ⟨8, [], []⟩, ⟨9, [0], [0]⟩, ⟨10, [4], [4]⟩, ⟨11, [5], [5]⟩, ⟨12, [4], [4]⟩, ⟨13, [5], [5]⟩], .an (i64 z116) [Ob.cells true false 2 [[V.list 1 l117, i64 z118]]], .t, .a, .a, .a, .a, .a, .t, .a]) (notIn []) (by kernel_rfl) (And.intro (decide_eq_true h0) (And.intro (decide_eq_true h1) (And.intro (W34.dec_ok h2) (And.intro h3 (And.intro (Eq.refl ([⟨0, [2], []⟩, ⟨1, [2], []⟩, ⟨2, [2], []⟩, ⟨3, [2], []⟩, ⟨4, [3], []⟩, ⟨5, [], []⟩, ⟨6, [3], []⟩, ⟨7, [3], []⟩, ⟨8, [], []⟩, ⟨9, [0], [0]⟩, ⟨10, [4], [4]⟩, ⟨11, [5], [5]⟩, ⟨12, [4], [4]⟩, ⟨13, [5], [5]⟩] : List Foot)) (And.intro h4 (And.intro h5 (And.intro (decide_eq_true h6) True.intro)))))))) n).trans hs, hr⟩
              · skip
                cases h
            · skip
              obtain ⟨r6, h6, h⟩ := Option.bind_eq_some_iff.mp h
              have h6 := F46_ok (m + 0) (-2) (14) (l117) (z118) r6 h6
              cases r6 with
              | a0 z119 z120 l121 z122 =>
                obtain ⟨r7, h7, h⟩ := Option.bind_eq_some_iff.mp h
                have h7 := F46_ok (m + 0) (-2) (14) (l121) (z122) r7 h7
                cases r7 with
                | a0 z123 z124 l125 z126 =>
                  rcases ite_eq h with ⟨h8, h⟩ | ⟨h8, h⟩
                  · skip
                    obtain ⟨st, hs, hr⟩ := L16_0_ok m n (z75) (w64 (z76 + 1)) (l125) (z126) (b79) (k80 + 3) (List.take k80 l81 ++ [[i64 z119, i64 z120], [i64 z123, i64 z124], [i64 z112, i64 z113]]) r h
                    exact ⟨st, (round_on (gs := [.t, .a, .a, .t, .el (W34.cells e111), .an (V.agg [i64 z112, i64 z113]) [Ob.cells true false 2 [[V.list 1 l114, i64 z115]]], .a, .a, .ft [⟨0, [2], []⟩, ⟨1, [2], []⟩, ⟨2, [2], []⟩, ⟨3, [2], []⟩, ⟨4, [3], []⟩, ⟨5, [], []⟩, ⟨6, [3], []⟩, ⟨7, [3], []⟩, ⟨8, [], []⟩, ⟨9, [0], [0]⟩, ⟨10, [4], [4]⟩, ⟨11, [5], [5]⟩, ⟨12, [4], [4]⟩, ⟨13, [5], [5]⟩], .an (i64 z116) [Ob.cells true false 2 [[V.list 1 l117, i64 z118]]], .f, .a, .an (V.agg [i64 z119, i64 z120]) [Ob.cells true false 2 [[V.list 1 l121, i64 z122]]], .an (V.agg [i64 z123, i64 z124]) [Ob.cells true false 2 [[V.list 1 l125, i64 z126]]], .a, .a, .t, .a, .ft [⟨0, [2], []⟩, ⟨1, [2], []⟩, ⟨2, [], []⟩, ⟨3, [0], [0]⟩, ⟨4, [], []⟩, ⟨5, [0], [0]⟩, ⟨6, [5], []⟩, ⟨7, [6], [6]⟩, ⟨8, [6, 7, 3], [3, 7]⟩, ⟨9, [2], []⟩, ⟨10, [2], [2]⟩]]) (notIn []) (by kernel_rfl) (And.intro (decide_eq_true h0) (And.intro (decide_eq_true h1) (And.intro (W34.dec_ok h2) (And.intro h3 (And.intro (Eq.refl ([⟨0, [2], []⟩, ⟨1, [2], []⟩, ⟨2, [2], []⟩, ⟨3, [2], []⟩, ⟨4, [3], []⟩, ⟨5, [], []⟩, ⟨6, [3], []⟩, ⟨7, [3], []⟩, ⟨8, [], []⟩, ⟨9, [0], [0]⟩, ⟨10, [4], [4]⟩, ⟨11, [5], [5]⟩, ⟨12, [4], [4]⟩, ⟨13, [5], [5]⟩] : List Foot)) (And.intro h4 (And.intro (Bool.eq_false_iff.mpr h5) (And.intro h6 (And.intro h7 (And.intro (decide_eq_true h8) (And.intro (Eq.refl ([⟨0, [2], []⟩, ⟨1, [2], []⟩, ⟨2, [], []⟩, ⟨3, [0], [0]⟩, ⟨4, [], []⟩, ⟨5, [0], [0]⟩, ⟨6, [5], []⟩, ⟨7, [6], [6]⟩, ⟨8, [6, 7, 3], [3, 7]⟩, ⟨9, [2], []⟩, ⟨10, [2], [2]⟩] : List Foot)) True.intro))))))))))) n).trans hs, hr⟩
                  · skip
                    cases h
      · skip
        cases h
    · skip
      cases h
      exact ⟨_, round_out (gs := [.f]) (notIn []) (by kernel_rfl) rfl (And.intro (decide_eq_false h0) True.intro) n, z75, z76, decide (z76 < z75), rfl⟩
inductive A16 where
  | a0 (b143 : Bool) (k144 : Nat) (l145 : List (List V)) (z146 : Int) (l147 : List (List V))
@[reducible] def A16.out : A16 → V × Store
  | .a0 b143 k144 l145 z146 l147 => (V.agg [vb b143, V.hs 1 0 k144], [Ob.cells true false 2 [[V.list 1 l145, i64 z146]], Ob.cells true true 2 l147])
def F16 (z21 : Int) (b22 : Bool) (l23 : List (List V)) (z24 : Int) : Option A16 :=
  (F46 (-2) (14) (l23) (z24)).bind fun r => match r with
  | .a0 z107 z108 l109 z110 =>
   (L16_0 100000 (z21) (0) (l109) (z110) (b22) (1) ([[i64 z107, i64 z108]])).bind fun r => match r with
   | .e0 l138 z139 b140 k141 l142 =>
    some (A16.a0 (b140) (k141) (l138) (z139) (l142))
theorem F16_ok (m : Nat) (z21 : Int) (b22 : Bool) (l23 : List (List V)) (z24 : Int) (r : A16) (h : F16 z21 b22 l23 z24 = some r) : call Try.prog X O0 100000 (m + 5) 16 ([V.ptr 0 0 0, i64 z21, vb b22]) ([Ob.cells true false 2 [[V.list 1 l23, i64 z24]]]) = some r.out := by
  unfold F16 at h
  obtain ⟨r0, h0, h⟩ := Option.bind_eq_some_iff.mp h
  have h0 := F46_ok (m + 0) (-2) (14) (l23) (z24) r0 h0
  cases r0 with
  | a0 z107 z108 l109 z110 =>
    obtain ⟨r1, h1, h⟩ := Option.bind_eq_some_iff.mp h
    obtain ⟨st1, h1, hr1⟩ := L16_0_ok m 100000 (z21) (0) (l109) (z110) (b22) (1) ([[i64 z107, i64 z108]]) r1 h1
    have h1 : loopRun Try.prog X (call Try.prog X O0 100000 (m + 4)) 16 (1) 100000 B16 0 ({ T := V.ptr 0 0 0 :: i64 z21 :: vb b22 :: U :: U :: U :: V.ptr 1 0 0 :: V.ptr 3 0 0 :: i64 0 :: U :: U :: vb b22 :: V.ptr 0 0 0 :: V.agg [i64 z107, i64 z108] :: V.hs 2 0 1 :: V.agg [vb b22, V.hs 2 0 1] :: un 37 [], σ := [Ob.cells true false 2 [[V.list 1 l109, i64 z110]], Ob.cells true false 2 [[vb false, V.nilS]], Ob.cells true true 2 [[i64 z107, i64 z108]], Ob.cells true false 2 [[vb b22, V.hs 2 0 1]]] }) = some st1 := by
      rw [loopRun_from, show prep (1) (X.keep 16 0) ({ T := V.ptr 0 0 0 :: i64 z21 :: vb b22 :: U :: U :: U :: V.ptr 1 0 0 :: V.ptr 3 0 0 :: i64 0 :: U :: U :: vb b22 :: V.ptr 0 0 0 :: V.agg [i64 z107, i64 z108] :: V.hs 2 0 1 :: V.agg [vb b22, V.hs 2 0 1] :: un 37 [], σ := [Ob.cells true false 2 [[V.list 1 l109, i64 z110]], Ob.cells true false 2 [[vb false, V.nilS]], Ob.cells true true 2 [[i64 z107, i64 z108]], Ob.cells true false 2 [[vb b22, V.hs 2 0 1]]] }) = { T := V.ptr 0 0 0 :: i64 z21 :: un 4 (V.ptr 1 0 0 :: V.ptr 2 0 0 :: i64 0 :: un 44 []), σ := [Ob.cells true false 2 [[V.list 1 l109, i64 z110]], Ob.cells true false 2 [[vb false, V.nilS]], Ob.cells true false 2 [[vb b22, V.hs 3 0 1]], Ob.cells true true 2 [[i64 z107, i64 z108]]] } by kernel_rfl]
      exact h1
    cases r1 with
    | e0 l138 z139 b140 k141 l142 =>
      obtain ⟨z135, z136, b137, rfl⟩ := hr1
      cases h
      exact call_pathL (gs := [.an (V.agg [i64 z107, i64 z108]) [Ob.cells true false 2 [[V.list 1 l109, i64 z110]]], .a, .lp (VX.exit 0) (s16_0_0 z135 z136 b137 l138 z139 b140 k141 l142), .a, .a]) (notIn []) rfl rfl (by kernel_rfl) (And.intro h0 (And.intro h1 True.intro))
/-! ## 47 -/
inductive A47 where
  | a0 (k167 : Nat) (l168 : List (List V))
@[reducible] def A47.out : A47 → V × Store
  | .a0 k167 l168 => (V.hs 0 0 k167, [Ob.cells true true 2 l168])
def F47 (l165 : List (List V)) : Option A47 :=
  if 0 < List.length l165 then
   if (0 : Nat) ≤ (0 : Nat) ∧ ((0 : Nat) + List.length l165) * (16 : Nat) ≤ (140737488355328 : Nat) ∧ (0 : Nat) + List.length l165 ≤ (140737488355328 : Nat) then
    some (A47.a0 (0 + List.length l165) ([] ++ l165))
   else
    none -- none
  else
   none -- none
theorem F47_ok (m : Nat) (l165 : List (List V)) (r : A47) (h : F47 l165 = some r) : call Try.prog X O0 100000 (m + 1) 47 ([V.list 2 l165]) ([]) = some r.out := by
  unfold F47 at h
  rcases ite_eq h with ⟨h0, h⟩ | ⟨h0, h⟩
  · skip
    rcases ite_eq h with ⟨h1, h⟩ | ⟨h1, h⟩
    · skip
      cases h
      exact call_pathL (gs := [.t, .a, .t]) (notIn []) rfl rfl (by kernel_rfl) (And.intro (decide_eq_true h0) (And.intro (decide_eq_true h1) True.intro))
    · skip
      cases h
  · skip
    cases h
/-! ## 36 -/
def F36 (b171 : Bool) (l172 : List (List V)) (b173 : Bool) (l174 : List (List V)) : Bool :=
  if ((↑(List.length l172) : Int) == (↑(List.length l174) : Int)) = true then
   b171 == b173
  else
   false
theorem F36_ok (m : Nat) (b171 : Bool) (l172 : List (List V)) (b173 : Bool) (l174 : List (List V)) (b177 : Bool) (h : F36 b171 l172 b173 l174 = b177) : call Try.prog X O0 100000 (m + 1) 36 ([V.agg [vb b171, V.list 2 l172], V.agg [vb b173, V.list 2 l174]]) ([]) = some (vb b177, []) := by
  unfold F36 at h
  rcases ite_eq h with ⟨h0, h⟩ | ⟨h0, h⟩
  · skip
    subst h
    exact call_pathL (gs := [.a, .a, .t, .t, .a, .t, .t, .a, .t, .t]) (notIn []) rfl rfl (by kernel_rfl) (And.intro h0 (And.intro h0 (And.intro h0 (And.intro h0 (And.intro h0 (And.intro h0 True.intro))))))
  · skip
    subst h
    exact call_pathL (gs := [.a, .a, .f, .f, .f, .f, .f, .f]) (notIn []) rfl rfl (by kernel_rfl) (And.intro (Bool.eq_false_iff.mpr h0) (And.intro (Bool.eq_false_iff.mpr h0) (And.intro (Bool.eq_false_iff.mpr h0) (And.intro (Bool.eq_false_iff.mpr h0) (And.intro (Bool.eq_false_iff.mpr h0) (And.intro (Bool.eq_false_iff.mpr h0) True.intro))))))
/-! ## 90 -/
def F90 (z197 : Int) (z198 : Int) (z199 : Int) : Int :=
  if z197 < z198 then
   z198
  else
   if z197 > z199 then
    z199
   else
    z197
theorem F90_ok (m : Nat) (z197 : Int) (z198 : Int) (z199 : Int) (z202 : Int) (h : F90 z197 z198 z199 = z202) : call Try.prog X O0 100000 (m + 1) 90 ([i64 z197, i64 z198, i64 z199]) ([]) = some (i64 z202, []) := by
  unfold F90 at h
  rcases ite_eq h with ⟨h0, h⟩ | ⟨h0, h⟩
  · skip
    subst h
    exact call_pathL (gs := [.t]) (notIn []) rfl rfl (by kernel_rfl) (And.intro (decide_eq_true h0) True.intro)
  · skip
    rcases ite_eq h with ⟨h1, h⟩ | ⟨h1, h⟩
    · skip
      subst h
      exact call_pathL (gs := [.f, .t]) (notIn []) rfl rfl (by kernel_rfl) (And.intro (decide_eq_false h0) (And.intro (decide_eq_true h1) True.intro))
    · skip
      subst h
      exact call_pathL (gs := [.f, .f]) (notIn []) rfl rfl (by kernel_rfl) (And.intro (decide_eq_false h0) (And.intro (decide_eq_false h1) True.intro))
/-! ## 57 -/
def F57 (z195 : Int) : Int :=
  bnd (F90 (z195) (-1099511627776) (1099511627776)) fun z203 =>
  z203
theorem F57_ok (m : Nat) (z195 : Int) (z205 : Int) (h : F57 z195 = z205) : call Try.prog X O0 100000 (m + 2) 57 ([i64 z195]) ([]) = some (i64 z205, []) := by
  unfold F57 at h
  obtain ⟨z203, h0, h⟩ := bnd_eq h
  subst h
  exact call_pathL (gs := [.an (i64 z203) []]) (notIn []) rfl rfl (by kernel_rfl) (And.intro (F90_ok (m + 0) (z195) (-1099511627776) (1099511627776) z203 h0) True.intro)
/-! ## 56 -/
def F56 (z207 : Int) (z208 : Int) : Int :=
  bnd (F57 (z207)) fun z210 =>
  bnd (F57 (z208)) fun z211 =>
  bnd (F57 (w64 (z210 + z211))) fun z212 =>
  z212
theorem F56_ok (m : Nat) (z207 : Int) (z208 : Int) (z214 : Int) (h : F56 z207 z208 = z214) : call Try.prog X O0 100000 (m + 3) 56 ([i64 z207, i64 z208]) ([]) = some (i64 z214, []) := by
  unfold F56 at h
  obtain ⟨z210, h0, h⟩ := bnd_eq h
  obtain ⟨z211, h1, h⟩ := bnd_eq h
  obtain ⟨z212, h2, h⟩ := bnd_eq h
  subst h
  exact call_pathL (gs := [.an (i64 z210) [], .an (i64 z211) [], .an (i64 z212) []]) (notIn []) rfl rfl (by kernel_rfl) (And.intro (F57_ok (m + 0) (z207) z210 h0) (And.intro (F57_ok (m + 0) (z208) z211 h1) (And.intro (F57_ok (m + 0) (w64 (z210 + z211)) z212 h2) True.intro)))
/-! ## 96 -/
inductive A96 where
  | a0 (z227 : Int) (z228 : Int)
@[reducible] def A96.out : A96 → V × Store
  | .a0 z227 z228 => (V.tup [V.int IntKind.u64 z227, V.int IntKind.u64 z228], [])
def F96 (z224 : Int) (z225 : Int) : Option A96 :=
  some (A96.a0 (IntKind.wrap IntKind.u64 (IntKind.wrap IntKind.u64 (IntKind.wrap IntKind.u64 (Int.fdiv z224 4294967296 * Int.fdiv z225 4294967296) + Int.fdiv (IntKind.wrap IntKind.u64 (IntKind.wrap IntKind.u64 (Int.fdiv z224 4294967296 * IntKind.wrap IntKind.u64 (↑(BitVec.toNat (BitVec.ofInt (IntKind.bits IntKind.u64) z225 &&& BitVec.ofInt (IntKind.bits IntKind.u64) 4294967295)) : Int)) + Int.fdiv (IntKind.wrap IntKind.u64 (IntKind.wrap IntKind.u64 (↑(BitVec.toNat (BitVec.ofInt (IntKind.bits IntKind.u64) z224 &&& BitVec.ofInt (IntKind.bits IntKind.u64) 4294967295)) : Int) * IntKind.wrap IntKind.u64 (↑(BitVec.toNat (BitVec.ofInt (IntKind.bits IntKind.u64) z225 &&& BitVec.ofInt (IntKind.bits IntKind.u64) 4294967295)) : Int))) 4294967296)) 4294967296) + Int.fdiv (IntKind.wrap IntKind.u64 (IntKind.wrap IntKind.u64 (↑(BitVec.toNat (BitVec.ofInt (IntKind.bits IntKind.u64) (IntKind.wrap IntKind.u64 (IntKind.wrap IntKind.u64 (Int.fdiv z224 4294967296 * IntKind.wrap IntKind.u64 (↑(BitVec.toNat (BitVec.ofInt (IntKind.bits IntKind.u64) z225 &&& BitVec.ofInt (IntKind.bits IntKind.u64) 4294967295)) : Int)) + Int.fdiv (IntKind.wrap IntKind.u64 (IntKind.wrap IntKind.u64 (↑(BitVec.toNat (BitVec.ofInt (IntKind.bits IntKind.u64) z224 &&& BitVec.ofInt (IntKind.bits IntKind.u64) 4294967295)) : Int) * IntKind.wrap IntKind.u64 (↑(BitVec.toNat (BitVec.ofInt (IntKind.bits IntKind.u64) z225 &&& BitVec.ofInt (IntKind.bits IntKind.u64) 4294967295)) : Int))) 4294967296)) &&& BitVec.ofInt (IntKind.bits IntKind.u64) 4294967295)) : Int) + IntKind.wrap IntKind.u64 (IntKind.wrap IntKind.u64 (↑(BitVec.toNat (BitVec.ofInt (IntKind.bits IntKind.u64) z224 &&& BitVec.ofInt (IntKind.bits IntKind.u64) 4294967295)) : Int) * Int.fdiv z225 4294967296))) 4294967296)) (IntKind.wrap IntKind.u64 (z224 * z225)))
theorem F96_ok (m : Nat) (z224 : Int) (z225 : Int) (r : A96) (h : F96 z224 z225 = some r) : call Try.prog X O0 100000 (m + 1) 96 ([V.int IntKind.u64 z224, V.int IntKind.u64 z225]) ([]) = some r.out := by
  unfold F96 at h
  cases h
  exact call_pathL (gs := []) (notIn []) rfl rfl (by kernel_rfl) True.intro
/-! ## 93 -/
inductive A93 where
  | a0 (z231 : Int) (z232 : Int)
@[reducible] def A93.out : A93 → V × Store
  | .a0 z231 z232 => (V.tup [V.int IntKind.u64 z231, V.int IntKind.u64 z232], [])
def F93 (z221 : Int) (z222 : Int) : Option A93 :=
  (F96 (IntKind.wrap IntKind.u64 z221) (IntKind.wrap IntKind.u64 z222)).bind fun r => match r with
  | .a0 z229 z230 =>
   if z221 < 0 then
    if z222 < 0 then
     some (A93.a0 (IntKind.wrap IntKind.u64 (IntKind.wrap IntKind.u64 (z229 - IntKind.wrap IntKind.u64 z222) - IntKind.wrap IntKind.u64 z221)) (z230))
    else
     some (A93.a0 (IntKind.wrap IntKind.u64 (z229 - IntKind.wrap IntKind.u64 z222)) (z230))
   else
    if z222 < 0 then
     some (A93.a0 (IntKind.wrap IntKind.u64 (z229 - IntKind.wrap IntKind.u64 z221)) (z230))
    else
     some (A93.a0 (z229) (z230))
theorem F93_ok (m : Nat) (z221 : Int) (z222 : Int) (r : A93) (h : F93 z221 z222 = some r) : call Try.prog X O0 100000 (m + 2) 93 ([i64 z221, i64 z222]) ([]) = some r.out := by
  unfold F93 at h
  obtain ⟨r0, h0, h⟩ := Option.bind_eq_some_iff.mp h
  have h0 := F96_ok (m + 0) (IntKind.wrap IntKind.u64 z221) (IntKind.wrap IntKind.u64 z222) r0 h0
  cases r0 with
  | a0 z229 z230 =>
    rcases ite_eq h with ⟨h1, h⟩ | ⟨h1, h⟩
    · skip
      rcases ite_eq h with ⟨h2, h⟩ | ⟨h2, h⟩
      · skip
        cases h
        exact call_pathL (gs := [.an (V.tup [V.int IntKind.u64 z229, V.int IntKind.u64 z230]) [], .t, .t]) (notIn []) rfl rfl (by kernel_rfl) (And.intro h0 (And.intro (decide_eq_true h1) (And.intro (decide_eq_true h2) True.intro)))
      · skip
        cases h
        exact call_pathL (gs := [.an (V.tup [V.int IntKind.u64 z229, V.int IntKind.u64 z230]) [], .t, .f]) (notIn []) rfl rfl (by kernel_rfl) (And.intro h0 (And.intro (decide_eq_true h1) (And.intro (decide_eq_false h2) True.intro)))
    · skip
      rcases ite_eq h with ⟨h2, h⟩ | ⟨h2, h⟩
      · skip
        cases h
        exact call_pathL (gs := [.an (V.tup [V.int IntKind.u64 z229, V.int IntKind.u64 z230]) [], .f, .t]) (notIn []) rfl rfl (by kernel_rfl) (And.intro h0 (And.intro (decide_eq_false h1) (And.intro (decide_eq_true h2) True.intro)))
      · skip
        cases h
        exact call_pathL (gs := [.an (V.tup [V.int IntKind.u64 z229, V.int IntKind.u64 z230]) [], .f, .f]) (notIn []) rfl rfl (by kernel_rfl) (And.intro h0 (And.intro (decide_eq_false h1) (And.intro (decide_eq_false h2) True.intro)))
/-! ## 92 -/
def F92 (z235 : Int) (z236 : Int) : Int :=
  if Int.fdiv (w64 z235) 65536 < -1 then
   -9223372036854775808
  else
   if (Int.fdiv (w64 z235) 65536 == -1) = true then
    if (Int.fdiv (IntKind.wrap IntKind.u64 (↑(BitVec.toNat (BitVec.ofInt (IntKind.bits IntKind.u64) (IntKind.wrap IntKind.u64 (z235 * 2 ^ min (Int.toNat 48) (IntKind.bits IntKind.u64))) ||| BitVec.ofInt (IntKind.bits IntKind.u64) (Int.fdiv z236 (2 ^ min (Int.toNat 16) (IntKind.bits IntKind.u64))))) : Int)) 9223372036854775808 == 0) = true then
     -9223372036854775808
    else
     if Int.fdiv (w64 z235) 65536 > 0 then
      9223372036854775807
     else
      if (Int.fdiv (w64 z235) 65536 == 0) = true then
       if (Int.fdiv (IntKind.wrap IntKind.u64 (↑(BitVec.toNat (BitVec.ofInt (IntKind.bits IntKind.u64) (IntKind.wrap IntKind.u64 (z235 * 2 ^ min (Int.toNat 48) (IntKind.bits IntKind.u64))) ||| BitVec.ofInt (IntKind.bits IntKind.u64) (Int.fdiv z236 (2 ^ min (Int.toNat 16) (IntKind.bits IntKind.u64))))) : Int)) 9223372036854775808 != 0) = true then
        9223372036854775807
       else
        w64 (IntKind.wrap IntKind.u64 (↑(BitVec.toNat (BitVec.ofInt (IntKind.bits IntKind.u64) (IntKind.wrap IntKind.u64 (z235 * 2 ^ min (Int.toNat 48) (IntKind.bits IntKind.u64))) ||| BitVec.ofInt (IntKind.bits IntKind.u64) (Int.fdiv z236 (2 ^ min (Int.toNat 16) (IntKind.bits IntKind.u64))))) : Int))
      else
       w64 (IntKind.wrap IntKind.u64 (↑(BitVec.toNat (BitVec.ofInt (IntKind.bits IntKind.u64) (IntKind.wrap IntKind.u64 (z235 * 2 ^ min (Int.toNat 48) (IntKind.bits IntKind.u64))) ||| BitVec.ofInt (IntKind.bits IntKind.u64) (Int.fdiv z236 (2 ^ min (Int.toNat 16) (IntKind.bits IntKind.u64))))) : Int))
   else
    if Int.fdiv (w64 z235) 65536 > 0 then
     9223372036854775807
    else
     if (Int.fdiv (w64 z235) 65536 == 0) = true then
      if (Int.fdiv (IntKind.wrap IntKind.u64 (↑(BitVec.toNat (BitVec.ofInt (IntKind.bits IntKind.u64) (IntKind.wrap IntKind.u64 (z235 * 2 ^ min (Int.toNat 48) (IntKind.bits IntKind.u64))) ||| BitVec.ofInt (IntKind.bits IntKind.u64) (Int.fdiv z236 (2 ^ min (Int.toNat 16) (IntKind.bits IntKind.u64))))) : Int)) 9223372036854775808 != 0) = true then
       9223372036854775807
      else
       w64 (IntKind.wrap IntKind.u64 (↑(BitVec.toNat (BitVec.ofInt (IntKind.bits IntKind.u64) (IntKind.wrap IntKind.u64 (z235 * 2 ^ min (Int.toNat 48) (IntKind.bits IntKind.u64))) ||| BitVec.ofInt (IntKind.bits IntKind.u64) (Int.fdiv z236 (2 ^ min (Int.toNat 16) (IntKind.bits IntKind.u64))))) : Int))
     else
      w64 (IntKind.wrap IntKind.u64 (↑(BitVec.toNat (BitVec.ofInt (IntKind.bits IntKind.u64) (IntKind.wrap IntKind.u64 (z235 * 2 ^ min (Int.toNat 48) (IntKind.bits IntKind.u64))) ||| BitVec.ofInt (IntKind.bits IntKind.u64) (Int.fdiv z236 (2 ^ min (Int.toNat 16) (IntKind.bits IntKind.u64))))) : Int))
theorem F92_ok (m : Nat) (z235 : Int) (z236 : Int) (z239 : Int) (h : F92 z235 z236 = z239) : call Try.prog X O0 100000 (m + 1) 92 ([V.int IntKind.u64 z235, V.int IntKind.u64 z236]) ([]) = some (i64 z239, []) := by
  unfold F92 at h
  rcases ite_eq h with ⟨h0, h⟩ | ⟨h0, h⟩
  · skip
    subst h
    exact call_pathL (gs := [.t, .t, .t, .t, .t, .a]) (notIn []) rfl rfl (by kernel_rfl) (And.intro (decide_eq_true h0) (And.intro (decide_eq_true h0) (And.intro (decide_eq_true h0) (And.intro (decide_eq_true h0) (And.intro (decide_eq_true h0) True.intro)))))
  · skip
    rcases ite_eq h with ⟨h1, h⟩ | ⟨h1, h⟩
    · skip
      rcases ite_eq h with ⟨h2, h⟩ | ⟨h2, h⟩
      · skip
        subst h
        exact call_pathL (gs := [.f, .f, .f, .t, .t, .t, .f, .t, .f, .t]) (notIn []) rfl rfl (by kernel_rfl) (And.intro (decide_eq_false h0) (And.intro (decide_eq_false h0) (And.intro (decide_eq_false h0) (And.intro h1 (And.intro h1 (And.intro h1 (And.intro (decide_eq_false h0) (And.intro h1 (And.intro (decide_eq_false h0) (And.intro h2 True.intro))))))))))
      · skip
        rcases ite_eq h with ⟨h3, h⟩ | ⟨h3, h⟩
        · skip
          subst h
          exact call_pathL (gs := [.f, .f, .f, .t, .t, .t, .f, .t, .f, .f, .t, .t, .t, .t, .t, .a]) (notIn []) rfl rfl (by kernel_rfl) (And.intro (decide_eq_false h0) (And.intro (decide_eq_false h0) (And.intro (decide_eq_false h0) (And.intro h1 (And.intro h1 (And.intro h1 (And.intro (decide_eq_false h0) (And.intro h1 (And.intro (decide_eq_false h0) (And.intro (Bool.eq_false_iff.mpr h2) (And.intro (decide_eq_true h3) (And.intro (decide_eq_true h3) (And.intro (decide_eq_true h3) (And.intro (decide_eq_true h3) (And.intro (decide_eq_true h3) True.intro)))))))))))))))
        · skip
          rcases ite_eq h with ⟨h4, h⟩ | ⟨h4, h⟩
          · skip
            rcases ite_eq h with ⟨h5, h⟩ | ⟨h5, h⟩
            · skip
              subst h
              exact call_pathL (gs := [.f, .f, .f, .t, .t, .t, .f, .t, .f, .f, .f, .f, .f, .t, .t, .t, .f, .t, .f, .t]) (notIn []) rfl rfl (by kernel_rfl) (And.intro (decide_eq_false h0) (And.intro (decide_eq_false h0) (And.intro (decide_eq_false h0) (And.intro h1 (And.intro h1 (And.intro h1 (And.intro (decide_eq_false h0) (And.intro h1 (And.intro (decide_eq_false h0) (And.intro (Bool.eq_false_iff.mpr h2) (And.intro (decide_eq_false h3) (And.intro (decide_eq_false h3) (And.intro (decide_eq_false h3) (And.intro h4 (And.intro h4 (And.intro h4 (And.intro (decide_eq_false h3) (And.intro h4 (And.intro (decide_eq_false h3) (And.intro h5 True.intro))))))))))))))))))))
            · skip
              subst h
              exact call_pathL (gs := [.f, .f, .f, .t, .t, .t, .f, .t, .f, .f, .f, .f, .f, .t, .t, .t, .f, .t, .f, .f]) (notIn []) rfl rfl (by kernel_rfl) (And.intro (decide_eq_false h0) (And.intro (decide_eq_false h0) (And.intro (decide_eq_false h0) (And.intro h1 (And.intro h1 (And.intro h1 (And.intro (decide_eq_false h0) (And.intro h1 (And.intro (decide_eq_false h0) (And.intro (Bool.eq_false_iff.mpr h2) (And.intro (decide_eq_false h3) (And.intro (decide_eq_false h3) (And.intro (decide_eq_false h3) (And.intro h4 (And.intro h4 (And.intro h4 (And.intro (decide_eq_false h3) (And.intro h4 (And.intro (decide_eq_false h3) (And.intro (Bool.eq_false_iff.mpr h5) True.intro))))))))))))))))))))
          · skip
            subst h
            exact call_pathL (gs := [.f, .f, .f, .t, .t, .t, .f, .t, .f, .f, .f, .f, .f, .f, .f, .f, .f, .f, .f, .a]) (notIn []) rfl rfl (by kernel_rfl) (And.intro (decide_eq_false h0) (And.intro (decide_eq_false h0) (And.intro (decide_eq_false h0) (And.intro h1 (And.intro h1 (And.intro h1 (And.intro (decide_eq_false h0) (And.intro h1 (And.intro (decide_eq_false h0) (And.intro (Bool.eq_false_iff.mpr h2) (And.intro (decide_eq_false h3) (And.intro (decide_eq_false h3) (And.intro (decide_eq_false h3) (And.intro (Bool.eq_false_iff.mpr h4) (And.intro (Bool.eq_false_iff.mpr h4) (And.intro (Bool.eq_false_iff.mpr h4) (And.intro (decide_eq_false h3) (And.intro (Bool.eq_false_iff.mpr h4) (And.intro (decide_eq_false h3) True.intro)))))))))))))))))))
    · skip
      rcases ite_eq h with ⟨h2, h⟩ | ⟨h2, h⟩
      · skip
        subst h
        exact call_pathL (gs := [.f, .f, .f, .f, .f, .f, .f, .f, .f, .a, .t, .t, .t, .t, .t, .a]) (notIn []) rfl rfl (by kernel_rfl) (And.intro (decide_eq_false h0) (And.intro (decide_eq_false h0) (And.intro (decide_eq_false h0) (And.intro (Bool.eq_false_iff.mpr h1) (And.intro (Bool.eq_false_iff.mpr h1) (And.intro (Bool.eq_false_iff.mpr h1) (And.intro (decide_eq_false h0) (And.intro (Bool.eq_false_iff.mpr h1) (And.intro (decide_eq_false h0) (And.intro (decide_eq_true h2) (And.intro (decide_eq_true h2) (And.intro (decide_eq_true h2) (And.intro (decide_eq_true h2) (And.intro (decide_eq_true h2) True.intro))))))))))))))
      · skip
        rcases ite_eq h with ⟨h3, h⟩ | ⟨h3, h⟩
        · skip
          rcases ite_eq h with ⟨h4, h⟩ | ⟨h4, h⟩
          · skip
            subst h
            exact call_pathL (gs := [.f, .f, .f, .f, .f, .f, .f, .f, .f, .a, .f, .f, .f, .t, .t, .t, .f, .t, .f, .t]) (notIn []) rfl rfl (by kernel_rfl) (And.intro (decide_eq_false h0) (And.intro (decide_eq_false h0) (And.intro (decide_eq_false h0) (And.intro (Bool.eq_false_iff.mpr h1) (And.intro (Bool.eq_false_iff.mpr h1) (And.intro (Bool.eq_false_iff.mpr h1) (And.intro (decide_eq_false h0) (And.intro (Bool.eq_false_iff.mpr h1) (And.intro (decide_eq_false h0) (And.intro (decide_eq_false h2) (And.intro (decide_eq_false h2) (And.intro (decide_eq_false h2) (And.intro h3 (And.intro h3 (And.intro h3 (And.intro (decide_eq_false h2) (And.intro h3 (And.intro (decide_eq_false h2) (And.intro h4 True.intro)))))))))))))))))))
          · skip
            subst h
            exact call_pathL (gs := [.f, .f, .f, .f, .f, .f, .f, .f, .f, .a, .f, .f, .f, .t, .t, .t, .f, .t, .f, .f]) (notIn []) rfl rfl (by kernel_rfl) (And.intro (decide_eq_false h0) (And.intro (decide_eq_false h0) (And.intro (decide_eq_false h0) (And.intro (Bool.eq_false_iff.mpr h1) (And.intro (Bool.eq_false_iff.mpr h1) (And.intro (Bool.eq_false_iff.mpr h1) (And.intro (decide_eq_false h0) (And.intro (Bool.eq_false_iff.mpr h1) (And.intro (decide_eq_false h0) (And.intro (decide_eq_false h2) (And.intro (decide_eq_false h2) (And.intro (decide_eq_false h2) (And.intro h3 (And.intro h3 (And.intro h3 (And.intro (decide_eq_false h2) (And.intro h3 (And.intro (decide_eq_false h2) (And.intro (Bool.eq_false_iff.mpr h4) True.intro)))))))))))))))))))
        · skip
          subst h
          exact call_pathL (gs := [.f, .f, .f, .f, .f, .f, .f, .f, .f, .a, .f, .f, .f, .f, .f, .f, .f, .f, .f, .a]) (notIn []) rfl rfl (by kernel_rfl) (And.intro (decide_eq_false h0) (And.intro (decide_eq_false h0) (And.intro (decide_eq_false h0) (And.intro (Bool.eq_false_iff.mpr h1) (And.intro (Bool.eq_false_iff.mpr h1) (And.intro (Bool.eq_false_iff.mpr h1) (And.intro (decide_eq_false h0) (And.intro (Bool.eq_false_iff.mpr h1) (And.intro (decide_eq_false h0) (And.intro (decide_eq_false h2) (And.intro (decide_eq_false h2) (And.intro (decide_eq_false h2) (And.intro (Bool.eq_false_iff.mpr h3) (And.intro (Bool.eq_false_iff.mpr h3) (And.intro (Bool.eq_false_iff.mpr h3) (And.intro (decide_eq_false h2) (And.intro (Bool.eq_false_iff.mpr h3) (And.intro (decide_eq_false h2) True.intro))))))))))))))))))
/-! ## 63 -/
inductive A63 where
  | a0 (z242 : Int)
@[reducible] def A63.out : A63 → V × Store
  | .a0 z242 => (i64 z242, [])
def F63 (z216 : Int) (z217 : Int) : Option A63 :=
  bnd (F57 (z216)) fun z219 =>
  bnd (F57 (z217)) fun z220 =>
  (F93 (z219) (z220)).bind fun r => match r with
  | .a0 z233 z234 =>
   bnd (F92 (z233) (z234)) fun z240 =>
   bnd (F57 (z240)) fun z241 =>
   some (A63.a0 (z241))
theorem F63_ok (m : Nat) (z216 : Int) (z217 : Int) (r : A63) (h : F63 z216 z217 = some r) : call Try.prog X O0 100000 (m + 3) 63 ([i64 z216, i64 z217]) ([]) = some r.out := by
  unfold F63 at h
  obtain ⟨z219, h0, h⟩ := bnd_eq h
  obtain ⟨z220, h1, h⟩ := bnd_eq h
  obtain ⟨r2, h2, h⟩ := Option.bind_eq_some_iff.mp h
  have h2 := F93_ok (m + 0) (z219) (z220) r2 h2
  cases r2 with
  | a0 z233 z234 =>
    obtain ⟨z240, h3, h⟩ := bnd_eq h
    obtain ⟨z241, h4, h⟩ := bnd_eq h
    cases h
    exact call_pathL (gs := [.an (i64 z219) [], .an (i64 z220) [], .an (V.tup [V.int IntKind.u64 z233, V.int IntKind.u64 z234]) [], .an (i64 z240) [], .an (i64 z241) []]) (notIn []) rfl rfl (by kernel_rfl) (And.intro (F57_ok (m + 0) (z216) z219 h0) (And.intro (F57_ok (m + 0) (z217) z220 h1) (And.intro h2 (And.intro (F92_ok (m + 1) (z233) (z234) z240 h3) (And.intro (F57_ok (m + 0) (z240) z241 h4) True.intro)))))
/-! ## 48 -/
inductive A48 where
  | a0 (z245 : Int)
@[reducible] def A48.out : A48 → V × Store
  | .a0 z245 => (i64 z245, [])
def F48 (z191 : Int) (z192 : Int) (z193 : Int) : Option A48 :=
  bnd (F57 (z191)) fun z206 =>
  bnd (F56 (z192) (w64 (0 - z206))) fun z215 =>
  (F63 (z215) (z193)).bind fun r => match r with
  | .a0 z243 =>
   bnd (F56 (z206) (z243)) fun z244 =>
   some (A48.a0 (z244))
theorem F48_ok (m : Nat) (z191 : Int) (z192 : Int) (z193 : Int) (r : A48) (h : F48 z191 z192 z193 = some r) : call Try.prog X O0 100000 (m + 4) 48 ([i64 z191, i64 z192, i64 z193]) ([]) = some r.out := by
  unfold F48 at h
  obtain ⟨z206, h0, h⟩ := bnd_eq h
  obtain ⟨z215, h1, h⟩ := bnd_eq h
  obtain ⟨r2, h2, h⟩ := Option.bind_eq_some_iff.mp h
  have h2 := F63_ok (m + 0) (z215) (z193) r2 h2
  cases r2 with
  | a0 z243 =>
    obtain ⟨z244, h3, h⟩ := bnd_eq h
    cases h
    exact call_pathL (gs := [.an (i64 z206) [], .an (i64 z215) [], .an (i64 z243) [], .an (i64 z244) []]) (notIn []) rfl rfl (by kernel_rfl) (And.intro (F57_ok (m + 1) (z191) z206 h0) (And.intro (F56_ok (m + 0) (z192) (w64 (0 - z206)) z215 h1) (And.intro h2 (And.intro (F56_ok (m + 0) (z206) (z243) z244 h3) True.intro))))
/-! ## 18 -/
noncomputable abbrev B18 : Code := (Try.f18.body).getD .skip
inductive R18_0 where
  | e0 (b289 : Bool) (k291 : Nat) (l292 : List (List V))
@[reducible] def s18_0_0 (z284 : Int) (l285 : List (List V)) (z286 : Int) (z287 : Int) (b288 : Bool) (b289 : Bool) (l290 : List (List V)) (k291 : Nat) (l292 : List (List V)) : S := { T := U :: U :: i64 z284 :: V.ptr 0 0 0 :: U :: U :: V.ptr 1 0 0 :: V.ptr 2 0 0 :: un 14 (V.list 2 l285 :: i64 z286 :: i64 z287 :: vb b288 :: un 30 []), σ := [Ob.cells true false 2 [[vb b289, V.list 2 l290]], Ob.cells true false 2 [[vb false, V.nilS]], Ob.cells true false 2 [[vb b289, V.hs 3 0 k291]], Ob.cells true true 2 l292] }
def R18_0.St : R18_0 → VX × S → Prop
  | .e0 b289 k291 l292, p => ∃ z284 : Int, ∃ l285 : List (List V), ∃ z286 : Int, ∃ z287 : Int, ∃ b288 : Bool, ∃ l290 : List (List V), p = (VX.exit 0, s18_0_0 z284 l285 z286 z287 b288 b289 l290 k291 l292)
def L18_0 : Nat → Int → List (List V) → Int → Int → Bool → List (List V) → Nat → List (List V) → Option R18_0
  | 0, _, _, _, _, _, _, _, _ => none
  | n + 1, z249, l250, z251, z252, b253, l254, k255, l256 =>
    if z252 < z251 then
     if 0 ≤ z252 then
      ((l250[Int.toNat z252]?).bind W34.dec).bind fun e279 =>
      ((l254[Int.toNat z252]?).bind W34.dec).bind fun e280 =>
      (F48 (e280.c0) (e279.c0) (z249)).bind fun r => match r with
      | .a0 z281 =>
       (F48 (e280.c1) (e279.c1) (z249)).bind fun r => match r with
       | .a0 z282 =>
        if 0 ≤ z252 ∧ z252 < (↑k255 : Int) then
         ((l256[(0 : Nat) + Int.toNat z252]?).bind W34.dec).bind fun e283 =>
         L18_0 n (z249) (l250) (z251) (w64 (z252 + 1)) (b253) (l254) (k255) (List.set l256 (0 + Int.toNat z252) [i64 z281, i64 z282])
        else
         none -- none
     else
      none -- none
    else
     some (R18_0.e0 (b253) (k255) (l256))
theorem L18_0_ok (m : Nat) : ∀ (n : Nat) (z249 : Int) (l250 : List (List V)) (z251 : Int) (z252 : Int) (b253 : Bool) (l254 : List (List V)) (k255 : Nat) (l256 : List (List V)) (r : R18_0), L18_0 n z249 l250 z251 z252 b253 l254 k255 l256 = some r → ∃ st, loopFrom Try.prog X (call Try.prog X O0 100000 (m + 4)) 18 (0) 100000 B18 0 n ({ T := U :: U :: i64 z249 :: V.ptr 0 0 0 :: U :: U :: V.ptr 1 0 0 :: V.ptr 2 0 0 :: un 14 (V.list 2 l250 :: i64 z251 :: i64 z252 :: un 31 []), σ := [Ob.cells true false 2 [[vb b253, V.list 2 l254]], Ob.cells true false 2 [[vb false, V.nilS]], Ob.cells true false 2 [[vb b253, V.hs 3 0 k255]], Ob.cells true true 2 l256] }) = some st ∧ r.St st
  | 0, _, _, _, _, _, _, _, _, r, h => by cases h
  | n + 1, z249, l250, z251, z252, b253, l254, k255, l256, r, h => by
    rw [L18_0] at h
    rcases ite_eq h with ⟨h0, h⟩ | ⟨h0, h⟩
    · skip
      rcases ite_eq h with ⟨h1, h⟩ | ⟨h1, h⟩
      · skip
        obtain ⟨e279, h2, h⟩ := Option.bind_eq_some_iff.mp h
        obtain ⟨e280, h3, h⟩ := Option.bind_eq_some_iff.mp h
        obtain ⟨r4, h4, h⟩ := Option.bind_eq_some_iff.mp h
        have h4 := F48_ok (m + 0) (e280.c0) (e279.c0) (z249) r4 h4
        cases r4 with
        | a0 z281 =>
          obtain ⟨r5, h5, h⟩ := Option.bind_eq_some_iff.mp h
          have h5 := F48_ok (m + 0) (e280.c1) (e279.c1) (z249) r5 h5
          cases r5 with
          | a0 z282 =>
            rcases ite_eq h with ⟨h6, h⟩ | ⟨h6, h⟩
            · skip
              obtain ⟨e283, h7, h⟩ := Option.bind_eq_some_iff.mp h
              obtain ⟨st, hs, hr⟩ := L18_0_ok m n (z249) (l250) (z251) (w64 (z252 + 1)) (b253) (l254) (k255) (List.set l256 (0 + Int.toNat z252) [i64 z281, i64 z282]) r h
              exact ⟨st, (round_on (gs := [.t, .t, .el (W34.cells e279), .a, .a, .a, .t, .el (W34.cells e280), .a, .an (i64 z281) [], .a, .t, .el (W34.cells e280), .a, .an (i64 z282) [], .t, .el (W34.cells e283), .ft [⟨0, [2], []⟩, ⟨1, [2], []⟩, ⟨2, [], []⟩, ⟨3, [0], []⟩, ⟨4, [0], []⟩, ⟨5, [], []⟩, ⟨6, [], []⟩, ⟨7, [], []⟩, ⟨8, [], []⟩, ⟨9, [4], []⟩, ⟨10, [4], []⟩, ⟨11, [], []⟩, ⟨12, [], []⟩, ⟨13, [0], []⟩, ⟨14, [0], []⟩, ⟨15, [], []⟩, ⟨16, [], []⟩, ⟨17, [], []⟩, ⟨18, [], []⟩, ⟨19, [4], []⟩, ⟨20, [4], []⟩, ⟨21, [], []⟩, ⟨22, [], []⟩, ⟨23, [], []⟩, ⟨24, [3], []⟩, ⟨25, [3], [3]⟩]]) (notIn []) (by kernel_rfl) (And.intro (decide_eq_true h0) (And.intro (decide_eq_true h1) (And.intro (W34.dec_ok h2) (And.intro (decide_eq_true h1) (And.intro (W34.dec_ok h3) (And.intro h4 (And.intro (decide_eq_true h1) (And.intro (W34.dec_ok h3) (And.intro h5 (And.intro (decide_eq_true h6) (And.intro (W34.dec_ok h7) (And.intro (Eq.refl ([⟨0, [2], []⟩, ⟨1, [2], []⟩, ⟨2, [], []⟩, ⟨3, [0], []⟩, ⟨4, [0], []⟩, ⟨5, [], []⟩, ⟨6, [], []⟩, ⟨7, [], []⟩, ⟨8, [], []⟩, ⟨9, [4], []⟩, ⟨10, [4], []⟩, ⟨11, [], []⟩, ⟨12, [], []⟩, ⟨13, [0], []⟩, ⟨14, [0], []⟩, ⟨15, [], []⟩, ⟨16, [], []⟩, ⟨17, [], []⟩, ⟨18, [], []⟩, ⟨19, [4], []⟩, ⟨20, [4], []⟩, ⟨21, [], []⟩, ⟨22, [], []⟩, ⟨23, [], []⟩, ⟨24, [3], []⟩, ⟨25, [3], [3]⟩] : List Foot)) True.intro)))))))))))) n).trans hs, hr⟩
            · skip
              cases h
      · skip
        cases h
    · skip
      cases h
      exact ⟨_, round_out (gs := [.f]) (notIn []) (by kernel_rfl) rfl (And.intro (decide_eq_false h0) True.intro) n, z249, l250, z251, z252, decide (z252 < z251), l254, rfl⟩
inductive A18 where
  | a0 (b276 : Bool) (k277 : Nat) (l278 : List (List V))
@[reducible] def A18.out : A18 → V × Store
  | .a0 b276 k277 l278 => (V.agg [vb b276, V.hs 0 0 k277], [Ob.cells true true 2 l278])
def F18 (b159 : Bool) (l160 : List (List V)) (b161 : Bool) (l162 : List (List V)) (z163 : Int) : Option A18 :=
  (F47 (l160)).bind fun r => match r with
  | .a0 k273 l274 =>
   bnd (F36 (b159) (l160) (b161) (l162)) fun b275 =>
   if (!b275) = true then
    some (A18.a0 (b159) (k273) (l274))
   else
    (L18_0 100000 (z163) (l162) ((↑(List.length l162) : Int)) (0) (b159) (l160) (k273) (l274)).bind fun r => match r with
    | .e0 b298 k300 l301 =>
     some (A18.a0 (b298) (k300) (l301))
theorem F18_ok (m : Nat) (b159 : Bool) (l160 : List (List V)) (b161 : Bool) (l162 : List (List V)) (z163 : Int) (r : A18) (h : F18 b159 l160 b161 l162 z163 = some r) : call Try.prog X O0 100000 (m + 5) 18 ([V.agg [vb b159, V.list 2 l160], V.agg [vb b161, V.list 2 l162], i64 z163]) ([]) = some r.out := by
  unfold F18 at h
  obtain ⟨r0, h0, h⟩ := Option.bind_eq_some_iff.mp h
  have h0 := F47_ok (m + 3) (l160) r0 h0
  cases r0 with
  | a0 k273 l274 =>
    obtain ⟨b275, h1, h⟩ := bnd_eq h
    rcases ite_eq h with ⟨h2, h⟩ | ⟨h2, h⟩
    · skip
      cases h
      exact call_pathL (gs := [.a, .a, .an (V.hs 0 0 k273) [Ob.cells true true 2 l274], .a, .ft [⟨0, [0], []⟩, ⟨1, [0], []⟩, ⟨2, [0], []⟩, ⟨3, [0], []⟩, ⟨4, [3], [3]⟩, ⟨5, [], []⟩, ⟨6, [4], [4]⟩, ⟨7, [4], [4]⟩], .a, .a, .an (vb b275) [], .t, .a, .a]) (notIn []) rfl rfl (by kernel_rfl) (And.intro h0 (And.intro (Eq.refl ([⟨0, [0], []⟩, ⟨1, [0], []⟩, ⟨2, [0], []⟩, ⟨3, [0], []⟩, ⟨4, [3], [3]⟩, ⟨5, [], []⟩, ⟨6, [4], [4]⟩, ⟨7, [4], [4]⟩] : List Foot)) (And.intro (F36_ok (m + 3) (b159) (l160) (b161) (l162) b275 h1) (And.intro h2 True.intro))))
    · skip
      obtain ⟨r3, h3, h⟩ := Option.bind_eq_some_iff.mp h
      obtain ⟨st3, h3, hr3⟩ := L18_0_ok m 100000 (z163) (l162) ((↑(List.length l162) : Int)) (0) (b159) (l160) (k273) (l274) r3 h3
      have h3 : loopRun Try.prog X (call Try.prog X O0 100000 (m + 4)) 18 (0) 100000 B18 0 ({ T := V.agg [vb b159, V.list 2 l160] :: V.agg [vb b161, V.list 2 l162] :: i64 z163 :: V.ptr 0 0 0 :: V.ptr 1 0 0 :: U :: V.ptr 2 0 0 :: V.ptr 4 0 0 :: U :: U :: V.ptr 0 0 0 :: vb b159 :: V.ptr 0 0 1 :: V.list 2 l160 :: V.hs 3 0 k273 :: V.agg [vb b159, V.hs 3 0 k273] :: V.agg [vb b159, V.list 2 l160] :: V.agg [vb b161, V.list 2 l162] :: vb b275 :: (vb !b275) :: U :: V.ptr 1 0 1 :: V.list 2 l162 :: i64 (↑(List.length l162) : Int) :: i64 0 :: un 31 [], σ := [Ob.cells true false 2 [[vb b159, V.list 2 l160]], Ob.cells true false 2 [[vb b161, V.list 2 l162]], Ob.cells true false 2 [[vb false, V.nilS]], Ob.cells true true 2 l274, Ob.cells true false 2 [[vb b159, V.hs 3 0 k273]]] }) = some st3 := by
        rw [loopRun_from, show prep (0) (X.keep 18 0) ({ T := V.agg [vb b159, V.list 2 l160] :: V.agg [vb b161, V.list 2 l162] :: i64 z163 :: V.ptr 0 0 0 :: V.ptr 1 0 0 :: U :: V.ptr 2 0 0 :: V.ptr 4 0 0 :: U :: U :: V.ptr 0 0 0 :: vb b159 :: V.ptr 0 0 1 :: V.list 2 l160 :: V.hs 3 0 k273 :: V.agg [vb b159, V.hs 3 0 k273] :: V.agg [vb b159, V.list 2 l160] :: V.agg [vb b161, V.list 2 l162] :: vb b275 :: (vb !b275) :: U :: V.ptr 1 0 1 :: V.list 2 l162 :: i64 (↑(List.length l162) : Int) :: i64 0 :: un 31 [], σ := [Ob.cells true false 2 [[vb b159, V.list 2 l160]], Ob.cells true false 2 [[vb b161, V.list 2 l162]], Ob.cells true false 2 [[vb false, V.nilS]], Ob.cells true true 2 l274, Ob.cells true false 2 [[vb b159, V.hs 3 0 k273]]] }) = { T := U :: U :: i64 z163 :: V.ptr 0 0 0 :: U :: U :: V.ptr 1 0 0 :: V.ptr 2 0 0 :: un 14 (V.list 2 l162 :: i64 (↑(List.length l162) : Int) :: i64 0 :: un 31 []), σ := [Ob.cells true false 2 [[vb b159, V.list 2 l160]], Ob.cells true false 2 [[vb false, V.nilS]], Ob.cells true false 2 [[vb b159, V.hs 3 0 k273]], Ob.cells true true 2 l274] } by kernel_rfl]
        exact h3
      cases r3 with
      | e0 b298 k300 l301 =>
        obtain ⟨z293, l294, z295, z296, b297, l299, rfl⟩ := hr3
        cases h
        exact call_pathL (gs := [.a, .a, .an (V.hs 0 0 k273) [Ob.cells true true 2 l274], .a, .ft [⟨0, [0], []⟩, ⟨1, [0], []⟩, ⟨2, [0], []⟩, ⟨3, [0], []⟩, ⟨4, [3], [3]⟩, ⟨5, [], []⟩, ⟨6, [4], [4]⟩, ⟨7, [4], [4]⟩], .a, .a, .an (vb b275) [], .f, .a, .lp (VX.exit 0) (s18_0_0 z293 l294 z295 z296 b297 b298 l299 k300 l301), .a, .a]) (notIn []) rfl rfl (by kernel_rfl) (And.intro h0 (And.intro (Eq.refl ([⟨0, [0], []⟩, ⟨1, [0], []⟩, ⟨2, [0], []⟩, ⟨3, [0], []⟩, ⟨4, [3], [3]⟩, ⟨5, [], []⟩, ⟨6, [4], [4]⟩, ⟨7, [4], [4]⟩] : List Foot)) (And.intro (F36_ok (m + 3) (b159) (l160) (b161) (l162) b275 h1) (And.intro (Bool.eq_false_iff.mpr h2) (And.intro h3 True.intro)))))
/-! ## 51 -/
def F51 (z577 : Int) : Bool :=
  if z577 ≥ -67108864 then
   decide (z577 ≤ 67108864)
  else
   false
theorem F51_ok (m : Nat) (z577 : Int) (b580 : Bool) (h : F51 z577 = b580) : call Try.prog X O0 100000 (m + 1) 51 ([i64 z577]) ([]) = some (vb b580, []) := by
  unfold F51 at h
  rcases ite_eq h with ⟨h0, h⟩ | ⟨h0, h⟩
  · skip
    subst h
    exact call_pathL (gs := [.t, .t, .t]) (notIn []) rfl rfl (by kernel_rfl) (And.intro (decide_eq_true h0) (And.intro (decide_eq_true h0) (And.intro (decide_eq_true h0) True.intro)))
  · skip
    subst h
    exact call_pathL (gs := [.f, .f, .f]) (notIn []) rfl rfl (by kernel_rfl) (And.intro (decide_eq_false h0) (And.intro (decide_eq_false h0) (And.intro (decide_eq_false h0) True.intro)))
/-! ## 50 -/
def F50 (z574 : Int) (z575 : Int) : Bool :=
  bnd (F51 (z574)) fun b581 =>
  if (!b581) = true then
   true
  else
   bnd (F51 (z575)) fun b583 =>
   !b583
theorem F50_ok (m : Nat) (z574 : Int) (z575 : Int) (b584 : Bool) (h : F50 z574 z575 = b584) : call Try.prog X O0 100000 (m + 2) 50 ([V.agg [i64 z574, i64 z575]]) ([]) = some (vb b584, []) := by
  unfold F50 at h
  obtain ⟨b581, h0, h⟩ := bnd_eq h
  rcases ite_eq h with ⟨h1, h⟩ | ⟨h1, h⟩
  · skip
    subst h
    exact call_pathL (gs := [.a, .an (vb b581) [], .t, .t, .t, .t, .t]) (notIn []) rfl rfl (by kernel_rfl) (And.intro (F51_ok (m + 0) (z574) b581 h0) (And.intro h1 (And.intro h1 (And.intro h1 (And.intro h1 (And.intro h1 True.intro))))))
  · skip
    obtain ⟨b583, h2, h⟩ := bnd_eq h
    subst h
    exact call_pathL (gs := [.a, .an (vb b581) [], .f, .f, .a, .f, .an (vb b583) [], .f, .f]) (notIn []) rfl rfl (by kernel_rfl) (And.intro (F51_ok (m + 0) (z574) b581 h0) (And.intro (Bool.eq_false_iff.mpr h1) (And.intro (Bool.eq_false_iff.mpr h1) (And.intro (Bool.eq_false_iff.mpr h1) (And.intro (F51_ok (m + 0) (z575) b583 h2) (And.intro (Bool.eq_false_iff.mpr h1) (And.intro (Bool.eq_false_iff.mpr h1) True.intro)))))))
/-! ## 88 -/
noncomputable abbrev B88 : Code := (Try.f88.body).getD .skip
inductive R88_0 where
  | e0 (z611 : Int)
  | e1
@[reducible] def s88_0_0 (l610 : List (List V)) (z611 : Int) (z612 : Int) (b613 : Bool) (z614 : Int) (z615 : Int) (b616 : Bool) : S := { T := [V.list 2 l610, V.fn 50 [], U, U, i64 z611, i64 z611, U, i64 z612, i64 z611, vb b613, i64 z611, V.fn 50 [], V.list 2 l610, i64 z611, V.pp [i64 z614, i64 z615], V.agg [i64 z614, i64 z615], vb b616, i64 z611, U], σ := [] }
@[reducible] def s88_0_1 (l617 : List (List V)) (z618 : Int) (z619 : Int) (b620 : Bool) : S := { T := V.list 2 l617 :: V.fn 50 [] :: un 5 (i64 z618 :: i64 z619 :: vb b620 :: un 9 []), σ := [] }
def R88_0.St : R88_0 → VX × S → Prop
  | .e0 z611, p => ∃ l610 : List (List V), ∃ z612 : Int, ∃ b613 : Bool, ∃ z614 : Int, ∃ z615 : Int, ∃ b616 : Bool, p = (VX.ret, s88_0_0 l610 z611 z612 b613 z614 z615 b616)
  | .e1, p => ∃ l617 : List (List V), ∃ z618 : Int, ∃ z619 : Int, ∃ b620 : Bool, p = (VX.exit 0, s88_0_1 l617 z618 z619 b620)
def L88_0 : Nat → List (List V) → Int → Int → Option R88_0
  | 0, _, _, _ => none
  | n + 1, l592, z593, z594 =>
    if z594 < z593 then
     if 0 ≤ z594 then
      ((l592[Int.toNat z594]?).bind W34.dec).bind fun e608 =>
      bnd (F50 (e608.c0) (e608.c1)) fun b609 =>
      if (b609) = true then
       some (R88_0.e0 (z594))
      else
       L88_0 n (l592) (z593) (w64 (z594 + 1))
     else
      none -- none
    else
     some (R88_0.e1)
theorem L88_0_ok (m : Nat) : ∀ (n : Nat) (l592 : List (List V)) (z593 : Int) (z594 : Int) (r : R88_0), L88_0 n l592 z593 z594 = some r → ∃ st, loopFrom Try.prog X (call Try.prog X O0 100000 (m + 2)) 88 (0) 100000 B88 0 n ({ T := V.list 2 l592 :: V.fn 50 [] :: un 5 (i64 z593 :: i64 z594 :: un 10 []), σ := [] }) = some st ∧ r.St st
  | 0, _, _, _, r, h => by cases h
  | n + 1, l592, z593, z594, r, h => by
    rw [L88_0] at h
    rcases ite_eq h with ⟨h0, h⟩ | ⟨h0, h⟩
    · skip
      rcases ite_eq h with ⟨h1, h⟩ | ⟨h1, h⟩
      · skip
        obtain ⟨e608, h2, h⟩ := Option.bind_eq_some_iff.mp h
        obtain ⟨b609, h3, h⟩ := bnd_eq h
        rcases ite_eq h with ⟨h4, h⟩ | ⟨h4, h⟩
        · skip
          cases h
          exact ⟨_, round_out (gs := [.t, .t, .el (W34.cells e608), .an (vb b609) [], .t]) (notIn []) (by kernel_rfl) rfl (And.intro (decide_eq_true h0) (And.intro (decide_eq_true h1) (And.intro (W34.dec_ok h2) (And.intro (F50_ok (m + 0) (e608.c0) (e608.c1) b609 h3) (And.intro h4 True.intro))))) n, l592, z593, decide (z594 < z593), e608.c0, e608.c1, b609, rfl⟩
        · skip
          obtain ⟨st, hs, hr⟩ := L88_0_ok m n (l592) (z593) (w64 (z594 + 1)) r h
          exact ⟨st, (round_on (gs := [.t, .t, .el (W34.cells e608), .an (vb b609) [], .f]) (notIn []) (by kernel_rfl) (And.intro (decide_eq_true h0) (And.intro (decide_eq_true h1) (And.intro (W34.dec_ok h2) (And.intro (F50_ok (m + 0) (e608.c0) (e608.c1) b609 h3) (And.intro (Bool.eq_false_iff.mpr h4) True.intro))))) n).trans hs, hr⟩
      · skip
        cases h
    · skip
      cases h
      exact ⟨_, round_out (gs := [.f]) (notIn []) (by kernel_rfl) rfl (And.intro (decide_eq_false h0) True.intro) n, l592, z593, z594, decide (z594 < z593), rfl⟩
inductive A88 where
  | a0 (z628 : Int)
@[reducible] def A88.out : A88 → V × Store
  | .a0 z628 => (i64 z628, [])
def F88 (l569 : List (List V)) : Option A88 :=
  (L88_0 100000 (l569) ((↑(List.length l569) : Int)) (0)).bind fun r => match r with
  | .e0 z622 =>
   some (A88.a0 (z622))
  | .e1 =>
   some (A88.a0 (-1))
theorem F88_ok (m : Nat) (l569 : List (List V)) (r : A88) (h : F88 l569 = some r) : call Try.prog X O0 100000 (m + 3) 88 ([V.list 2 l569, V.fn 50 []]) ([]) = some r.out := by
  unfold F88 at h
  obtain ⟨r0, h0, h⟩ := Option.bind_eq_some_iff.mp h
  obtain ⟨st0, h0, hr0⟩ := L88_0_ok m 100000 (l569) ((↑(List.length l569) : Int)) (0) r0 h0
  have h0 : loopRun Try.prog X (call Try.prog X O0 100000 (m + 2)) 88 (0) 100000 B88 0 ({ T := V.list 2 l569 :: V.fn 50 [] :: U :: U :: i64 0 :: U :: V.list 2 l569 :: i64 (↑(List.length l569) : Int) :: i64 0 :: un 10 [], σ := [] }) = some st0 := by
    rw [loopRun_from, show prep (0) (X.keep 88 0) ({ T := V.list 2 l569 :: V.fn 50 [] :: U :: U :: i64 0 :: U :: V.list 2 l569 :: i64 (↑(List.length l569) : Int) :: i64 0 :: un 10 [], σ := [] }) = { T := V.list 2 l569 :: V.fn 50 [] :: un 5 (i64 (↑(List.length l569) : Int) :: i64 0 :: un 10 []), σ := [] } by kernel_rfl]
    exact h0
  cases r0 with
  | e0 z622 =>
    obtain ⟨l621, z623, b624, z625, z626, b627, rfl⟩ := hr0
    cases h
    exact call_pathL (gs := [.lp (VX.ret) (s88_0_0 l621 z622 z623 b624 z625 z626 b627)]) (notIn []) rfl rfl (by kernel_rfl) (And.intro h0 True.intro)
  | e1 =>
    obtain ⟨l629, z630, z631, b632, rfl⟩ := hr0
    cases h
    exact call_pathL (gs := [.lp (VX.exit 0) (s88_0_1 l629 z630 z631 b632)]) (notIn []) rfl rfl (by kernel_rfl) (And.intro h0 True.intro)
/-! ## 49 -/
inductive A49 where
  | a0 (b634 : Bool)
@[reducible] def A49.out : A49 → V × Store
  | .a0 b634 => (vb b634, [])
def F49 (l567 : List (List V)) : Option A49 :=
  (F88 (l567)).bind fun r => match r with
  | .a0 z633 =>
   some (A49.a0 (decide (z633 ≥ 0)))
theorem F49_ok (m : Nat) (l567 : List (List V)) (r : A49) (h : F49 l567 = some r) : call Try.prog X O0 100000 (m + 4) 49 ([V.list 2 l567, V.fn 50 []]) ([]) = some r.out := by
  unfold F49 at h
  obtain ⟨r0, h0, h⟩ := Option.bind_eq_some_iff.mp h
  have h0 := F88_ok (m + 0) (l567) r0 h0
  cases r0 with
  | a0 z633 =>
    cases h
    exact call_pathL (gs := [.an (i64 z633) []]) (notIn []) rfl rfl (by kernel_rfl) (And.intro h0 True.intro)
/-! ## 19 -/
inductive A19 where
  | a0 (b566 : Bool)
@[reducible] def A19.out : A19 → V × Store
  | .a0 b566 => (vb b566, [])
def F19 (b563 : Bool) (l564 : List (List V)) : Option A19 :=
  if ((↑(List.length l564) : Int) == 0) = true then
   some (A19.a0 (!b563))
  else
   if (↑(List.length l564) : Int) ≥ 4 then
    if (↑(List.length l564) : Int) ≤ 97 then
     if (Int.tmod (↑(List.length l564) : Int) 3 == 1) = true then
      (F49 (l564)).bind fun r => match r with
      | .a0 b635 =>
       some (A19.a0 (!b635))
     else
      some (A19.a0 (false))
    else
     some (A19.a0 (false))
   else
    some (A19.a0 (false))
theorem F19_ok (m : Nat) (b563 : Bool) (l564 : List (List V)) (r : A19) (h : F19 b563 l564 = some r) : call Try.prog X O0 100000 (m + 5) 19 ([V.agg [vb b563, V.list 2 l564]]) ([]) = some r.out := by
  unfold F19 at h
  rcases ite_eq h with ⟨h0, h⟩ | ⟨h0, h⟩
  · skip
    cases h
    exact call_pathL (gs := [.a, .t, .a]) (notIn []) rfl rfl (by kernel_rfl) (And.intro h0 True.intro)
  · skip
    rcases ite_eq h with ⟨h1, h⟩ | ⟨h1, h⟩
    · skip
      rcases ite_eq h with ⟨h2, h⟩ | ⟨h2, h⟩
      · skip
        rcases ite_eq h with ⟨h3, h⟩ | ⟨h3, h⟩
        · skip
          obtain ⟨r4, h4, h⟩ := Option.bind_eq_some_iff.mp h
          have h4 := F49_ok (m + 0) (l564) r4 h4
          cases r4 with
          | a0 b635 =>
            cases h
            exact call_pathL (gs := [.a, .f, .t, .t, .t, .t, .t, .a, .t, .t, .t, .t, .a, .t, .an (vb b635) [], .t, .t]) (notIn []) rfl rfl (by kernel_rfl) (And.intro (Bool.eq_false_iff.mpr h0) (And.intro (decide_eq_true h1) (And.intro (decide_eq_true h1) (And.intro (decide_eq_true h1) (And.intro (decide_eq_true h2) (And.intro (decide_eq_true h2) (And.intro (decide_eq_true h2) (And.intro (decide_eq_true h2) (And.intro h3 (And.intro h3 (And.intro h3 (And.intro h4 (And.intro h3 (And.intro h3 True.intro))))))))))))))
        · skip
          cases h
          exact call_pathL (gs := [.a, .f, .t, .t, .t, .t, .t, .a, .t, .t, .f, .f, .f, .f, .f]) (notIn []) rfl rfl (by kernel_rfl) (And.intro (Bool.eq_false_iff.mpr h0) (And.intro (decide_eq_true h1) (And.intro (decide_eq_true h1) (And.intro (decide_eq_true h1) (And.intro (decide_eq_true h2) (And.intro (decide_eq_true h2) (And.intro (decide_eq_true h2) (And.intro (decide_eq_true h2) (And.intro (Bool.eq_false_iff.mpr h3) (And.intro (Bool.eq_false_iff.mpr h3) (And.intro (Bool.eq_false_iff.mpr h3) (And.intro (Bool.eq_false_iff.mpr h3) (And.intro (Bool.eq_false_iff.mpr h3) True.intro)))))))))))))
      · skip
        cases h
        exact call_pathL (gs := [.a, .f, .t, .t, .t, .f, .f, .f, .f, .a, .a, .a, .a, .a]) (notIn []) rfl rfl (by kernel_rfl) (And.intro (Bool.eq_false_iff.mpr h0) (And.intro (decide_eq_true h1) (And.intro (decide_eq_true h1) (And.intro (decide_eq_true h1) (And.intro (decide_eq_false h2) (And.intro (decide_eq_false h2) (And.intro (decide_eq_false h2) (And.intro (decide_eq_false h2) True.intro))))))))
    · skip
      cases h
      exact call_pathL (gs := [.a, .f, .f, .f, .f, .a, .a, .a, .a, .a, .a, .a, .a, .a]) (notIn []) rfl rfl (by kernel_rfl) (And.intro (Bool.eq_false_iff.mpr h0) (And.intro (decide_eq_false h1) (And.intro (decide_eq_false h1) (And.intro (decide_eq_false h1) True.intro))))
/-! ## 52 -/
noncomputable abbrev B52 : Code := (Try.f52.body).getD .skip
inductive R52_0 where
  | e0
  | e1
@[reducible] def s52_0_0 (l692 : List (List V)) (l693 : List (List V)) (z694 : Int) (z695 : Int) (b696 : Bool) (z697 : Int) (z698 : Int) (z699 : Int) (z700 : Int) (b701 : Bool) : S := { T := V.list 2 l692 :: V.list 2 l693 :: U :: U :: vb false :: i64 z694 :: un 6 [i64 z695, i64 z694, vb b696, i64 z694, V.list 2 l692, i64 z694, V.pp [i64 z697, i64 z698], V.agg [i64 z697, i64 z698], V.list 2 l693, i64 z694, V.pp [i64 z699, i64 z700], V.agg [i64 z699, i64 z700], vb b701, U], σ := [] }
@[reducible] def s52_0_1 (l702 : List (List V)) (l703 : List (List V)) (z704 : Int) (z705 : Int) (b706 : Bool) : S := { T := V.list 2 l702 :: V.list 2 l703 :: un 10 (i64 z704 :: i64 z705 :: vb b706 :: un 11 []), σ := [] }
def R52_0.St : R52_0 → VX × S → Prop
  | .e0, p => ∃ l692 : List (List V), ∃ l693 : List (List V), ∃ z694 : Int, ∃ z695 : Int, ∃ b696 : Bool, ∃ z697 : Int, ∃ z698 : Int, ∃ z699 : Int, ∃ z700 : Int, ∃ b701 : Bool, p = (VX.ret, s52_0_0 l692 l693 z694 z695 b696 z697 z698 z699 z700 b701)
  | .e1, p => ∃ l702 : List (List V), ∃ l703 : List (List V), ∃ z704 : Int, ∃ z705 : Int, ∃ b706 : Bool, p = (VX.exit 0, s52_0_1 l702 l703 z704 z705 b706)
def L52_0 : Nat → List (List V) → List (List V) → Int → Int → Option R52_0
  | 0, _, _, _, _ => none
  | n + 1, l668, l669, z670, z671 =>
    if z671 < z670 then
     if 0 ≤ z671 then
      ((l668[Int.toNat z671]?).bind W34.dec).bind fun e690 =>
      ((l669[Int.toNat z671]?).bind W34.dec).bind fun e691 =>
      if (!(e690.c0 == e691.c0 && (e690.c1 == e691.c1 && true))) = true then
       some (R52_0.e0)
      else
       L52_0 n (l668) (l669) (z670) (w64 (z671 + 1))
     else
      none -- none
    else
     some (R52_0.e1)
theorem L52_0_ok (m : Nat) : ∀ (n : Nat) (l668 : List (List V)) (l669 : List (List V)) (z670 : Int) (z671 : Int) (r : R52_0), L52_0 n l668 l669 z670 z671 = some r → ∃ st, loopFrom Try.prog X (call Try.prog X O0 100000 (m + 0)) 52 (0) 100000 B52 0 n ({ T := V.list 2 l668 :: V.list 2 l669 :: un 10 (i64 z670 :: i64 z671 :: un 12 []), σ := [] }) = some st ∧ r.St st
  | 0, _, _, _, _, r, h => by cases h
  | n + 1, l668, l669, z670, z671, r, h => by
    rw [L52_0] at h
    rcases ite_eq h with ⟨h0, h⟩ | ⟨h0, h⟩
    · skip
      rcases ite_eq h with ⟨h1, h⟩ | ⟨h1, h⟩
      · skip
        obtain ⟨e690, h2, h⟩ := Option.bind_eq_some_iff.mp h
        obtain ⟨e691, h3, h⟩ := Option.bind_eq_some_iff.mp h
        rcases ite_eq h with ⟨h4, h⟩ | ⟨h4, h⟩
        · skip
          cases h
          exact ⟨_, round_out (gs := [.t, .t, .el (W34.cells e690), .t, .el (W34.cells e691), .ft [⟨0, [], []⟩, ⟨1, [], []⟩, ⟨2, [], []⟩, ⟨3, [], []⟩, ⟨4, [], []⟩, ⟨5, [], []⟩, ⟨6, [], []⟩, ⟨7, [], []⟩, ⟨8, [], []⟩], .t]) (notIn []) (by kernel_rfl) rfl (And.intro (decide_eq_true h0) (And.intro (decide_eq_true h1) (And.intro (W34.dec_ok h2) (And.intro (decide_eq_true h1) (And.intro (W34.dec_ok h3) (And.intro (Eq.refl ([⟨0, [], []⟩, ⟨1, [], []⟩, ⟨2, [], []⟩, ⟨3, [], []⟩, ⟨4, [], []⟩, ⟨5, [], []⟩, ⟨6, [], []⟩, ⟨7, [], []⟩, ⟨8, [], []⟩] : List Foot)) (And.intro h4 True.intro))))))) n, l668, l669, z671, z670, decide (z671 < z670), e690.c0, e690.c1, e691.c0, e691.c1, !(e690.c0 == e691.c0 && (e690.c1 == e691.c1 && true)), rfl⟩
        · skip
          obtain ⟨st, hs, hr⟩ := L52_0_ok m n (l668) (l669) (z670) (w64 (z671 + 1)) r h
          exact ⟨st, (round_on (gs := [.t, .t, .el (W34.cells e690), .t, .el (W34.cells e691), .ft [⟨0, [], []⟩, ⟨1, [], []⟩, ⟨2, [], []⟩, ⟨3, [], []⟩, ⟨4, [], []⟩, ⟨5, [], []⟩, ⟨6, [], []⟩, ⟨7, [], []⟩, ⟨8, [], []⟩], .f]) (notIn []) (by kernel_rfl) (And.intro (decide_eq_true h0) (And.intro (decide_eq_true h1) (And.intro (W34.dec_ok h2) (And.intro (decide_eq_true h1) (And.intro (W34.dec_ok h3) (And.intro (Eq.refl ([⟨0, [], []⟩, ⟨1, [], []⟩, ⟨2, [], []⟩, ⟨3, [], []⟩, ⟨4, [], []⟩, ⟨5, [], []⟩, ⟨6, [], []⟩, ⟨7, [], []⟩, ⟨8, [], []⟩] : List Foot)) (And.intro (Bool.eq_false_iff.mpr h4) True.intro))))))) n).trans hs, hr⟩
      · skip
        cases h
    · skip
      cases h
      exact ⟨_, round_out (gs := [.f]) (notIn []) (by kernel_rfl) rfl (And.intro (decide_eq_false h0) True.intro) n, l668, l669, z670, z671, decide (z671 < z670), rfl⟩
inductive A52 where
  | a0 (b689 : Bool)
@[reducible] def A52.out : A52 → V × Store
  | .a0 b689 => (vb b689, [])
def F52 (l650 : List (List V)) (l651 : List (List V)) : Option A52 :=
  if ((↑(List.length l650) : Int) != (↑(List.length l651) : Int)) = true then
   some (A52.a0 (false))
  else
   (L52_0 100000 (l650) (l651) ((↑(List.length l650) : Int)) (0)).bind fun r => match r with
   | .e0 =>
    some (A52.a0 (false))
   | .e1 =>
    some (A52.a0 (true))
theorem F52_ok (m : Nat) (l650 : List (List V)) (l651 : List (List V)) (r : A52) (h : F52 l650 l651 = some r) : call Try.prog X O0 100000 (m + 1) 52 ([V.list 2 l650, V.list 2 l651]) ([]) = some r.out := by
  unfold F52 at h
  rcases ite_eq h with ⟨h0, h⟩ | ⟨h0, h⟩
  · skip
    cases h
    exact call_pathL (gs := [.t]) (notIn []) rfl rfl (by kernel_rfl) (And.intro h0 True.intro)
  · skip
    obtain ⟨r1, h1, h⟩ := Option.bind_eq_some_iff.mp h
    obtain ⟨st1, h1, hr1⟩ := L52_0_ok m 100000 (l650) (l651) ((↑(List.length l650) : Int)) (0) r1 h1
    have h1 : loopRun Try.prog X (call Try.prog X O0 100000 (m + 0)) 52 (0) 100000 B52 0 ({ T := V.list 2 l650 :: V.list 2 l651 :: U :: U :: vb false :: U :: V.list 2 l650 :: i64 (↑(List.length l650) : Int) :: V.list 2 l651 :: i64 (↑(List.length l651) : Int) :: vb ((↑(List.length l650) : Int) != (↑(List.length l651) : Int)) :: V.list 2 l650 :: i64 (↑(List.length l650) : Int) :: i64 0 :: un 12 [], σ := [] }) = some st1 := by
      rw [loopRun_from, show prep (0) (X.keep 52 0) ({ T := V.list 2 l650 :: V.list 2 l651 :: U :: U :: vb false :: U :: V.list 2 l650 :: i64 (↑(List.length l650) : Int) :: V.list 2 l651 :: i64 (↑(List.length l651) : Int) :: vb ((↑(List.length l650) : Int) != (↑(List.length l651) : Int)) :: V.list 2 l650 :: i64 (↑(List.length l650) : Int) :: i64 0 :: un 12 [], σ := [] }) = { T := V.list 2 l650 :: V.list 2 l651 :: un 10 (i64 (↑(List.length l650) : Int) :: i64 0 :: un 12 []), σ := [] } by kernel_rfl]
      exact h1
    cases r1 with
    | e0 =>
      obtain ⟨l707, l708, z709, z710, b711, z712, z713, z714, z715, b716, rfl⟩ := hr1
      cases h
      exact call_pathL (gs := [.f, .lp (VX.ret) (s52_0_0 l707 l708 z709 z710 b711 z712 z713 z714 z715 b716)]) (notIn []) rfl rfl (by kernel_rfl) (And.intro (Bool.eq_false_iff.mpr h0) (And.intro h1 True.intro))
    | e1 =>
      obtain ⟨l717, l718, z719, z720, b721, rfl⟩ := hr1
      cases h
      exact call_pathL (gs := [.f, .lp (VX.exit 0) (s52_0_1 l717 l718 z719 z720 b721)]) (notIn []) rfl rfl (by kernel_rfl) (And.intro (Bool.eq_false_iff.mpr h0) (And.intro h1 True.intro))
/-! ## 20 -/
inductive A20 where
  | a0 (b723 : Bool)
@[reducible] def A20.out : A20 → V × Store
  | .a0 b723 => (vb b723, [])
def F20 (b645 : Bool) (l646 : List (List V)) (b647 : Bool) (l648 : List (List V)) : Option A20 :=
  if (b645 == b647) = true then
   (F52 (l646) (l648)).bind fun r => match r with
   | .a0 b722 =>
    some (A20.a0 (b722))
  else
   some (A20.a0 (false))
theorem F20_ok (m : Nat) (b645 : Bool) (l646 : List (List V)) (b647 : Bool) (l648 : List (List V)) (r : A20) (h : F20 b645 l646 b647 l648 = some r) : call Try.prog X O0 100000 (m + 2) 20 ([V.agg [vb b645, V.list 2 l646], V.agg [vb b647, V.list 2 l648]]) ([]) = some r.out := by
  unfold F20 at h
  rcases ite_eq h with ⟨h0, h⟩ | ⟨h0, h⟩
  · skip
    obtain ⟨r1, h1, h⟩ := Option.bind_eq_some_iff.mp h
    have h1 := F52_ok (m + 0) (l646) (l648) r1 h1
    cases r1 with
    | a0 b722 =>
      cases h
      exact call_pathL (gs := [.a, .a, .t, .t, .a, .t, .t, .a, .t, .an (vb b722) [], .t]) (notIn []) rfl rfl (by kernel_rfl) (And.intro h0 (And.intro h0 (And.intro h0 (And.intro h0 (And.intro h0 (And.intro h1 (And.intro h0 True.intro)))))))
  · skip
    cases h
    exact call_pathL (gs := [.a, .a, .f, .f, .f, .f, .f, .f]) (notIn []) rfl rfl (by kernel_rfl) (And.intro (Bool.eq_false_iff.mpr h0) (And.intro (Bool.eq_false_iff.mpr h0) (And.intro (Bool.eq_false_iff.mpr h0) (And.intro (Bool.eq_false_iff.mpr h0) (And.intro (Bool.eq_false_iff.mpr h0) (And.intro (Bool.eq_false_iff.mpr h0) True.intro))))))
/-! ## 53 -/
def F53 (b732 : Bool) : Bool :=
  true
theorem F53_ok (m : Nat) (b732 : Bool) (b735 : Bool) (h : F53 b732 = b735) : call Try.prog X O0 100000 (m + 1) 53 ([V.agg [vb b732, V.nilS]]) ([]) = some (vb b735, []) := by
  unfold F53 at h
  subst h
  exact call_pathL (gs := [.a]) (notIn []) rfl rfl (by kernel_rfl) True.intro
/-! ## 21 -/
inductive A21 where
  | a0 (b746 : Bool)
@[reducible] def A21.out : A21 → V × Store
  | .a0 b746 => (vb b746, [])
def F21 : Option A21 :=
  (F19 (false) ([[i64 0, i64 0], [i64 0, i64 0], [i64 0, i64 0], [i64 0, i64 0]])).bind fun r => match r with
  | .a0 b730 =>
   if (b730) = true then
    (F19 (false) ([[i64 0, i64 0], [i64 0, i64 0], [i64 0, i64 0], [i64 0, i64 0], [i64 0, i64 0]])).bind fun r => match r with
    | .a0 b731 =>
     if (!b731) = true then
      bnd (F53 (false)) fun b736 =>
      if (b736) = true then
       bnd (F36 (false) ([[i64 0, i64 0], [i64 0, i64 0], [i64 0, i64 0], [i64 0, i64 0]]) (false) ([[i64 8, i64 0], [i64 8, i64 0], [i64 8, i64 0], [i64 8, i64 0]])) fun b737 =>
       if (b737) = true then
        (F18 (false) ([[i64 0, i64 0], [i64 0, i64 0], [i64 0, i64 0], [i64 0, i64 0]]) (false) ([[i64 8, i64 0], [i64 8, i64 0], [i64 8, i64 0], [i64 8, i64 0]]) (0)).bind fun r => match r with
        | .a0 b738 k739 l740 =>
         if 0 + k739 ≤ List.length l740 then
          (F20 (b738) (List.take k739 l740) (false) ([[i64 0, i64 0], [i64 0, i64 0], [i64 0, i64 0], [i64 0, i64 0]])).bind fun r => match r with
          | .a0 b741 =>
           if (b741) = true then
            (F18 (false) ([[i64 0, i64 0], [i64 0, i64 0], [i64 0, i64 0], [i64 0, i64 0]]) (false) ([[i64 8, i64 0], [i64 8, i64 0], [i64 8, i64 0], [i64 8, i64 0]]) (65536)).bind fun r => match r with
            | .a0 b742 k743 l744 =>
             if 0 + k743 ≤ List.length l744 then
              (F20 (b742) (List.take k743 l744) (false) ([[i64 8, i64 0], [i64 8, i64 0], [i64 8, i64 0], [i64 8, i64 0]])).bind fun r => match r with
              | .a0 b745 =>
               some (A21.a0 (b745))
             else
              none -- none
           else
            some (A21.a0 (false))
         else
          none -- none
       else
        some (A21.a0 (false))
      else
       some (A21.a0 (false))
     else
      some (A21.a0 (false))
   else
    some (A21.a0 (false))
theorem F21_ok (m : Nat) (r : A21) (h : F21 = some r) : call Try.prog X O0 100000 (m + 6) 21 ([]) ([]) = some r.out := by
  unfold F21 at h
  obtain ⟨r0, h0, h⟩ := Option.bind_eq_some_iff.mp h
  have h0 := F19_ok (m + 0) (false) ([[i64 0, i64 0], [i64 0, i64 0], [i64 0, i64 0], [i64 0, i64 0]]) r0 h0
  cases r0 with
  | a0 b730 =>
    rcases ite_eq h with ⟨h1, h⟩ | ⟨h1, h⟩
    · skip
      obtain ⟨r2, h2, h⟩ := Option.bind_eq_some_iff.mp h
      have h2 := F19_ok (m + 0) (false) ([[i64 0, i64 0], [i64 0, i64 0], [i64 0, i64 0], [i64 0, i64 0], [i64 0, i64 0]]) r2 h2
      cases r2 with
      | a0 b731 =>
        rcases ite_eq h with ⟨h3, h⟩ | ⟨h3, h⟩
        · skip
          obtain ⟨b736, h4, h⟩ := bnd_eq h
          rcases ite_eq h with ⟨h5, h⟩ | ⟨h5, h⟩
          · skip
            obtain ⟨b737, h6, h⟩ := bnd_eq h
            rcases ite_eq h with ⟨h7, h⟩ | ⟨h7, h⟩
            · skip
              obtain ⟨r8, h8, h⟩ := Option.bind_eq_some_iff.mp h
              have h8 := F18_ok (m + 0) (false) ([[i64 0, i64 0], [i64 0, i64 0], [i64 0, i64 0], [i64 0, i64 0]]) (false) ([[i64 8, i64 0], [i64 8, i64 0], [i64 8, i64 0], [i64 8, i64 0]]) (0) r8 h8
              cases r8 with
              | a0 b738 k739 l740 =>
                rcases ite_eq h with ⟨h9, h⟩ | ⟨h9, h⟩
                · skip
                  obtain ⟨r10, h10, h⟩ := Option.bind_eq_some_iff.mp h
                  have h10 := F20_ok (m + 3) (b738) (List.take k739 l740) (false) ([[i64 0, i64 0], [i64 0, i64 0], [i64 0, i64 0], [i64 0, i64 0]]) r10 h10
                  cases r10 with
                  | a0 b741 =>
                    rcases ite_eq h with ⟨h11, h⟩ | ⟨h11, h⟩
                    · skip
                      obtain ⟨r12, h12, h⟩ := Option.bind_eq_some_iff.mp h
                      have h12 := F18_ok (m + 0) (false) ([[i64 0, i64 0], [i64 0, i64 0], [i64 0, i64 0], [i64 0, i64 0]]) (false) ([[i64 8, i64 0], [i64 8, i64 0], [i64 8, i64 0], [i64 8, i64 0]]) (65536) r12 h12
                      cases r12 with
                      | a0 b742 k743 l744 =>
                        rcases ite_eq h with ⟨h13, h⟩ | ⟨h13, h⟩
                        · skip
                          obtain ⟨r14, h14, h⟩ := Option.bind_eq_some_iff.mp h
                          have h14 := F20_ok (m + 3) (b742) (List.take k743 l744) (false) ([[i64 8, i64 0], [i64 8, i64 0], [i64 8, i64 0], [i64 8, i64 0]]) r14 h14
                          cases r14 with
                          | a0 b745 =>
                            cases h
                            exact call_pathL (gs := [.a, .a, .a, .a, .a, .an (vb b730) [], .t, .a, .t, .t, .a, .an (vb b731) [], .t, .t, .t, .t, .an (vb b736) [], .t, .t, .a, .t, .a, .t, .a, .a, .an (vb b737) [], .t, .t, .a, .t, .a, .t, .a, .a, .an (V.agg [vb b738, V.hs 0 0 k739]) [Ob.cells true true 2 l740], .t, .a, .t, .t, .a, .an (vb b741) [], .t, .t, .a, .t, .a, .t, .a, .a, .an (V.agg [vb b742, V.hs 0 0 k743]) [Ob.cells true true 2 l744], .t, .a, .t, .t, .a, .an (vb b745) [], .t, .ft [⟨0, [1], []⟩, ⟨1, [0], []⟩, ⟨2, [], []⟩, ⟨3, [4], [4]⟩, ⟨4, [], []⟩, ⟨5, [4], []⟩, ⟨6, [], []⟩, ⟨7, [], []⟩, ⟨8, [], []⟩, ⟨9, [], []⟩, ⟨10, [], []⟩, ⟨11, [], []⟩, ⟨12, [], []⟩, ⟨13, [1], []⟩, ⟨14, [3], []⟩, ⟨15, [0, 2], []⟩, ⟨16, [], []⟩, ⟨17, [], []⟩, ⟨18, [1], []⟩, ⟨19, [3], []⟩, ⟨20, [0, 2, 5], [2, 0, 5]⟩, ⟨21, [1], []⟩, ⟨22, [5, 0], []⟩, ⟨23, [], []⟩, ⟨24, [], []⟩, ⟨25, [1], []⟩, ⟨26, [3], []⟩, ⟨27, [0, 2, 6], [6]⟩, ⟨28, [3], []⟩, ⟨29, [6, 2], []⟩, ⟨30, [], []⟩, ⟨31, [], []⟩]]) (notIn []) rfl rfl (by kernel_rfl) (And.intro h0 (And.intro h1 (And.intro h1 (And.intro h1 (And.intro h2 (And.intro h1 (And.intro h1 (And.intro h3 (And.intro h3 (And.intro (F53_ok (m + 4) (false) b736 h4) (And.intro h3 (And.intro h5 (And.intro h5 (And.intro h5 (And.intro (F36_ok (m + 4) (false) ([[i64 0, i64 0], [i64 0, i64 0], [i64 0, i64 0], [i64 0, i64 0]]) (false) ([[i64 8, i64 0], [i64 8, i64 0], [i64 8, i64 0], [i64 8, i64 0]]) b737 h6) (And.intro h5 (And.intro h7 (And.intro h7 (And.intro h7 (And.intro h8 (And.intro h7 (And.intro h7 (And.intro (decide_eq_true h9) (And.intro h10 (And.intro h7 (And.intro h11 (And.intro h11 (And.intro h11 (And.intro h12 (And.intro h11 (And.intro h11 (And.intro (decide_eq_true h13) (And.intro h14 (And.intro h11 (And.intro (Eq.refl ([⟨0, [1], []⟩, ⟨1, [0], []⟩, ⟨2, [], []⟩, ⟨3, [4], [4]⟩, ⟨4, [], []⟩, ⟨5, [4], []⟩, ⟨6, [], []⟩, ⟨7, [], []⟩, ⟨8, [], []⟩, ⟨9, [], []⟩, ⟨10, [], []⟩, ⟨11, [], []⟩, ⟨12, [], []⟩, ⟨13, [1], []⟩, ⟨14, [3], []⟩, ⟨15, [0, 2], []⟩, ⟨16, [], []⟩, ⟨17, [], []⟩, ⟨18, [1], []⟩, ⟨19, [3], []⟩, ⟨20, [0, 2, 5], [2, 0, 5]⟩, ⟨21, [1], []⟩, ⟨22, [5, 0], []⟩, ⟨23, [], []⟩, ⟨24, [], []⟩, ⟨25, [1], []⟩, ⟨26, [3], []⟩, ⟨27, [0, 2, 6], [6]⟩, ⟨28, [3], []⟩, ⟨29, [6, 2], []⟩, ⟨30, [], []⟩, ⟨31, [], []⟩] : List Foot)) True.intro)))))))))))))))))))))))))))))))))))
                        · skip
                          cases h
                    · skip
                      cases h
                      exact call_pathL (gs := [.a, .a, .a, .a, .a, .an (vb b730) [], .t, .a, .t, .t, .a, .an (vb b731) [], .t, .t, .t, .t, .an (vb b736) [], .t, .t, .a, .t, .a, .t, .a, .a, .an (vb b737) [], .t, .t, .a, .t, .a, .t, .a, .a, .an (V.agg [vb b738, V.hs 0 0 k739]) [Ob.cells true true 2 l740], .t, .a, .t, .t, .a, .an (vb b741) [], .t, .f, .f, .f, .f, .f, .f, .ft [⟨0, [1], []⟩, ⟨1, [0], []⟩, ⟨2, [], []⟩, ⟨3, [4], [4]⟩, ⟨4, [], []⟩, ⟨5, [4], []⟩, ⟨6, [], []⟩, ⟨7, [], []⟩, ⟨8, [], []⟩, ⟨9, [], []⟩, ⟨10, [], []⟩, ⟨11, [], []⟩, ⟨12, [], []⟩, ⟨13, [1], []⟩, ⟨14, [3], []⟩, ⟨15, [0, 2], []⟩, ⟨16, [], []⟩, ⟨17, [], []⟩, ⟨18, [1], []⟩, ⟨19, [3], []⟩, ⟨20, [0, 2, 5], [2, 0, 5]⟩, ⟨21, [1], []⟩, ⟨22, [5, 0], []⟩, ⟨23, [], []⟩, ⟨24, [], []⟩, ⟨25, [], []⟩, ⟨26, [], []⟩, ⟨27, [], []⟩, ⟨28, [], []⟩, ⟨29, [], []⟩, ⟨30, [], []⟩, ⟨31, [], []⟩]]) (notIn []) rfl rfl (by kernel_rfl) (And.intro h0 (And.intro h1 (And.intro h1 (And.intro h1 (And.intro h2 (And.intro h1 (And.intro h1 (And.intro h3 (And.intro h3 (And.intro (F53_ok (m + 4) (false) b736 h4) (And.intro h3 (And.intro h5 (And.intro h5 (And.intro h5 (And.intro (F36_ok (m + 4) (false) ([[i64 0, i64 0], [i64 0, i64 0], [i64 0, i64 0], [i64 0, i64 0]]) (false) ([[i64 8, i64 0], [i64 8, i64 0], [i64 8, i64 0], [i64 8, i64 0]]) b737 h6) (And.intro h5 (And.intro h7 (And.intro h7 (And.intro h7 (And.intro h8 (And.intro h7 (And.intro h7 (And.intro (decide_eq_true h9) (And.intro h10 (And.intro h7 (And.intro (Bool.eq_false_iff.mpr h11) (And.intro (Bool.eq_false_iff.mpr h11) (And.intro (Bool.eq_false_iff.mpr h11) (And.intro (Bool.eq_false_iff.mpr h11) (And.intro (Bool.eq_false_iff.mpr h11) (And.intro (Bool.eq_false_iff.mpr h11) (And.intro (Eq.refl ([⟨0, [1], []⟩, ⟨1, [0], []⟩, ⟨2, [], []⟩, ⟨3, [4], [4]⟩, ⟨4, [], []⟩, ⟨5, [4], []⟩, ⟨6, [], []⟩, ⟨7, [], []⟩, ⟨8, [], []⟩, ⟨9, [], []⟩, ⟨10, [], []⟩, ⟨11, [], []⟩, ⟨12, [], []⟩, ⟨13, [1], []⟩, ⟨14, [3], []⟩, ⟨15, [0, 2], []⟩, ⟨16, [], []⟩, ⟨17, [], []⟩, ⟨18, [1], []⟩, ⟨19, [3], []⟩, ⟨20, [0, 2, 5], [2, 0, 5]⟩, ⟨21, [1], []⟩, ⟨22, [5, 0], []⟩, ⟨23, [], []⟩, ⟨24, [], []⟩, ⟨25, [], []⟩, ⟨26, [], []⟩, ⟨27, [], []⟩, ⟨28, [], []⟩, ⟨29, [], []⟩, ⟨30, [], []⟩, ⟨31, [], []⟩] : List Foot)) True.intro))))))))))))))))))))))))))))))))
                · skip
                  cases h
            · skip
              cases h
              exact call_pathL (gs := [.a, .a, .a, .a, .a, .an (vb b730) [], .t, .a, .t, .t, .a, .an (vb b731) [], .t, .t, .t, .t, .an (vb b736) [], .t, .t, .a, .t, .a, .t, .a, .a, .an (vb b737) [], .t, .f, .f, .f, .f, .f, .f, .a, .a, .a, .a, .a, .a, .ft [⟨0, [1], []⟩, ⟨1, [0], []⟩, ⟨2, [], []⟩, ⟨3, [4], [4]⟩, ⟨4, [], []⟩, ⟨5, [4], []⟩, ⟨6, [], []⟩, ⟨7, [], []⟩, ⟨8, [], []⟩, ⟨9, [], []⟩, ⟨10, [], []⟩, ⟨11, [], []⟩, ⟨12, [], []⟩, ⟨13, [1], []⟩, ⟨14, [3], []⟩, ⟨15, [0, 2], []⟩, ⟨16, [], []⟩, ⟨17, [], []⟩, ⟨18, [], []⟩, ⟨19, [], []⟩, ⟨20, [], []⟩, ⟨21, [], []⟩, ⟨22, [], []⟩, ⟨23, [], []⟩, ⟨24, [], []⟩, ⟨25, [], []⟩, ⟨26, [], []⟩, ⟨27, [], []⟩, ⟨28, [], []⟩, ⟨29, [], []⟩, ⟨30, [], []⟩, ⟨31, [], []⟩]]) (notIn []) rfl rfl (by kernel_rfl) (And.intro h0 (And.intro h1 (And.intro h1 (And.intro h1 (And.intro h2 (And.intro h1 (And.intro h1 (And.intro h3 (And.intro h3 (And.intro (F53_ok (m + 4) (false) b736 h4) (And.intro h3 (And.intro h5 (And.intro h5 (And.intro h5 (And.intro (F36_ok (m + 4) (false) ([[i64 0, i64 0], [i64 0, i64 0], [i64 0, i64 0], [i64 0, i64 0]]) (false) ([[i64 8, i64 0], [i64 8, i64 0], [i64 8, i64 0], [i64 8, i64 0]]) b737 h6) (And.intro h5 (And.intro (Bool.eq_false_iff.mpr h7) (And.intro (Bool.eq_false_iff.mpr h7) (And.intro (Bool.eq_false_iff.mpr h7) (And.intro (Bool.eq_false_iff.mpr h7) (And.intro (Bool.eq_false_iff.mpr h7) (And.intro (Bool.eq_false_iff.mpr h7) (And.intro (Eq.refl ([⟨0, [1], []⟩, ⟨1, [0], []⟩, ⟨2, [], []⟩, ⟨3, [4], [4]⟩, ⟨4, [], []⟩, ⟨5, [4], []⟩, ⟨6, [], []⟩, ⟨7, [], []⟩, ⟨8, [], []⟩, ⟨9, [], []⟩, ⟨10, [], []⟩, ⟨11, [], []⟩, ⟨12, [], []⟩, ⟨13, [1], []⟩, ⟨14, [3], []⟩, ⟨15, [0, 2], []⟩, ⟨16, [], []⟩, ⟨17, [], []⟩, ⟨18, [], []⟩, ⟨19, [], []⟩, ⟨20, [], []⟩, ⟨21, [], []⟩, ⟨22, [], []⟩, ⟨23, [], []⟩, ⟨24, [], []⟩, ⟨25, [], []⟩, ⟨26, [], []⟩, ⟨27, [], []⟩, ⟨28, [], []⟩, ⟨29, [], []⟩, ⟨30, [], []⟩, ⟨31, [], []⟩] : List Foot)) True.intro)))))))))))))))))))))))
          · skip
            cases h
            exact call_pathL (gs := [.a, .a, .a, .a, .a, .an (vb b730) [], .t, .a, .t, .t, .a, .an (vb b731) [], .t, .t, .t, .t, .an (vb b736) [], .t, .f, .f, .f, .f, .a, .a, .a, .a, .a, .a, .a, .a, .a, .a, .a, .a, .ft [⟨0, [1], []⟩, ⟨1, [0], []⟩, ⟨2, [], []⟩, ⟨3, [4], [4]⟩, ⟨4, [], []⟩, ⟨5, [4], []⟩, ⟨6, [], []⟩, ⟨7, [], []⟩, ⟨8, [], []⟩, ⟨9, [], []⟩, ⟨10, [], []⟩, ⟨11, [], []⟩, ⟨12, [], []⟩, ⟨13, [], []⟩, ⟨14, [], []⟩, ⟨15, [], []⟩, ⟨16, [], []⟩, ⟨17, [], []⟩, ⟨18, [], []⟩, ⟨19, [], []⟩, ⟨20, [], []⟩, ⟨21, [], []⟩, ⟨22, [], []⟩, ⟨23, [], []⟩, ⟨24, [], []⟩, ⟨25, [], []⟩, ⟨26, [], []⟩, ⟨27, [], []⟩, ⟨28, [], []⟩, ⟨29, [], []⟩, ⟨30, [], []⟩, ⟨31, [], []⟩]]) (notIn []) rfl rfl (by kernel_rfl) (And.intro h0 (And.intro h1 (And.intro h1 (And.intro h1 (And.intro h2 (And.intro h1 (And.intro h1 (And.intro h3 (And.intro h3 (And.intro (F53_ok (m + 4) (false) b736 h4) (And.intro h3 (And.intro (Bool.eq_false_iff.mpr h5) (And.intro (Bool.eq_false_iff.mpr h5) (And.intro (Bool.eq_false_iff.mpr h5) (And.intro (Bool.eq_false_iff.mpr h5) (And.intro (Eq.refl ([⟨0, [1], []⟩, ⟨1, [0], []⟩, ⟨2, [], []⟩, ⟨3, [4], [4]⟩, ⟨4, [], []⟩, ⟨5, [4], []⟩, ⟨6, [], []⟩, ⟨7, [], []⟩, ⟨8, [], []⟩, ⟨9, [], []⟩, ⟨10, [], []⟩, ⟨11, [], []⟩, ⟨12, [], []⟩, ⟨13, [], []⟩, ⟨14, [], []⟩, ⟨15, [], []⟩, ⟨16, [], []⟩, ⟨17, [], []⟩, ⟨18, [], []⟩, ⟨19, [], []⟩, ⟨20, [], []⟩, ⟨21, [], []⟩, ⟨22, [], []⟩, ⟨23, [], []⟩, ⟨24, [], []⟩, ⟨25, [], []⟩, ⟨26, [], []⟩, ⟨27, [], []⟩, ⟨28, [], []⟩, ⟨29, [], []⟩, ⟨30, [], []⟩, ⟨31, [], []⟩] : List Foot)) True.intro))))))))))))))))
        · skip
          cases h
          exact call_pathL (gs := [.a, .a, .a, .a, .a, .an (vb b730) [], .t, .a, .t, .t, .a, .an (vb b731) [], .t, .t, .f, .f, .f, .a, .a, .a, .a, .a, .a, .a, .a, .a, .a, .a, .a, .a, .a, .a, .a, .ft [⟨0, [1], []⟩, ⟨1, [0], []⟩, ⟨2, [], []⟩, ⟨3, [4], [4]⟩, ⟨4, [], []⟩, ⟨5, [4], []⟩, ⟨6, [], []⟩, ⟨7, [], []⟩, ⟨8, [], []⟩, ⟨9, [], []⟩, ⟨10, [], []⟩, ⟨11, [], []⟩, ⟨12, [], []⟩, ⟨13, [], []⟩, ⟨14, [], []⟩, ⟨15, [], []⟩, ⟨16, [], []⟩, ⟨17, [], []⟩, ⟨18, [], []⟩, ⟨19, [], []⟩, ⟨20, [], []⟩, ⟨21, [], []⟩, ⟨22, [], []⟩, ⟨23, [], []⟩, ⟨24, [], []⟩, ⟨25, [], []⟩, ⟨26, [], []⟩, ⟨27, [], []⟩, ⟨28, [], []⟩, ⟨29, [], []⟩, ⟨30, [], []⟩, ⟨31, [], []⟩]]) (notIn []) rfl rfl (by kernel_rfl) (And.intro h0 (And.intro h1 (And.intro h1 (And.intro h1 (And.intro h2 (And.intro h1 (And.intro h1 (And.intro (Bool.eq_false_iff.mpr h3) (And.intro (Bool.eq_false_iff.mpr h3) (And.intro (Bool.eq_false_iff.mpr h3) (And.intro (Eq.refl ([⟨0, [1], []⟩, ⟨1, [0], []⟩, ⟨2, [], []⟩, ⟨3, [4], [4]⟩, ⟨4, [], []⟩, ⟨5, [4], []⟩, ⟨6, [], []⟩, ⟨7, [], []⟩, ⟨8, [], []⟩, ⟨9, [], []⟩, ⟨10, [], []⟩, ⟨11, [], []⟩, ⟨12, [], []⟩, ⟨13, [], []⟩, ⟨14, [], []⟩, ⟨15, [], []⟩, ⟨16, [], []⟩, ⟨17, [], []⟩, ⟨18, [], []⟩, ⟨19, [], []⟩, ⟨20, [], []⟩, ⟨21, [], []⟩, ⟨22, [], []⟩, ⟨23, [], []⟩, ⟨24, [], []⟩, ⟨25, [], []⟩, ⟨26, [], []⟩, ⟨27, [], []⟩, ⟨28, [], []⟩, ⟨29, [], []⟩, ⟨30, [], []⟩, ⟨31, [], []⟩] : List Foot)) True.intro)))))))))))
    · skip
      cases h
      exact call_pathL (gs := [.a, .a, .a, .a, .a, .an (vb b730) [], .f, .f, .f, .f, .f, .a, .a, .a, .a, .a, .a, .a, .a, .a, .a, .a, .a, .a, .a, .a, .a, .a, .a, .a, .ft [⟨0, [1], []⟩, ⟨1, [0], []⟩, ⟨2, [], []⟩, ⟨3, [], []⟩, ⟨4, [], []⟩, ⟨5, [], []⟩, ⟨6, [], []⟩, ⟨7, [], []⟩, ⟨8, [], []⟩, ⟨9, [], []⟩, ⟨10, [], []⟩, ⟨11, [], []⟩, ⟨12, [], []⟩, ⟨13, [], []⟩, ⟨14, [], []⟩, ⟨15, [], []⟩, ⟨16, [], []⟩, ⟨17, [], []⟩, ⟨18, [], []⟩, ⟨19, [], []⟩, ⟨20, [], []⟩, ⟨21, [], []⟩, ⟨22, [], []⟩, ⟨23, [], []⟩, ⟨24, [], []⟩, ⟨25, [], []⟩, ⟨26, [], []⟩, ⟨27, [], []⟩, ⟨28, [], []⟩, ⟨29, [], []⟩, ⟨30, [], []⟩, ⟨31, [], []⟩]]) (notIn []) rfl rfl (by kernel_rfl) (And.intro h0 (And.intro (Bool.eq_false_iff.mpr h1) (And.intro (Bool.eq_false_iff.mpr h1) (And.intro (Bool.eq_false_iff.mpr h1) (And.intro (Bool.eq_false_iff.mpr h1) (And.intro (Bool.eq_false_iff.mpr h1) (And.intro (Eq.refl ([⟨0, [1], []⟩, ⟨1, [0], []⟩, ⟨2, [], []⟩, ⟨3, [], []⟩, ⟨4, [], []⟩, ⟨5, [], []⟩, ⟨6, [], []⟩, ⟨7, [], []⟩, ⟨8, [], []⟩, ⟨9, [], []⟩, ⟨10, [], []⟩, ⟨11, [], []⟩, ⟨12, [], []⟩, ⟨13, [], []⟩, ⟨14, [], []⟩, ⟨15, [], []⟩, ⟨16, [], []⟩, ⟨17, [], []⟩, ⟨18, [], []⟩, ⟨19, [], []⟩, ⟨20, [], []⟩, ⟨21, [], []⟩, ⟨22, [], []⟩, ⟨23, [], []⟩, ⟨24, [], []⟩, ⟨25, [], []⟩, ⟨26, [], []⟩, ⟨27, [], []⟩, ⟨28, [], []⟩, ⟨29, [], []⟩, ⟨30, [], []⟩, ⟨31, [], []⟩] : List Foot)) True.intro)))))))
/-! ## 3 -/
noncomputable abbrev B3 : Code := (Try.f3.body).getD .skip
inductive R3_0 where
  | e0
  | e1
  | e2
  | e3
  | e4 (z875 : Int) (z876 : Int) (l880 : List (List V)) (z881 : Int) (b882 : Bool) (k883 : Nat) (b884 : Bool) (k885 : Nat) (b886 : Bool) (k887 : Nat) (l888 : List (List V)) (l889 : List (List V)) (l890 : List (List V))
@[reducible] def s3_0_0 (z769 : Int) (z770 : Int) (z771 : Int) (z772 : Int) (b773 : Bool) (k774 : Nat) (k775 : Nat) (z776 : Int) (k777 : Nat) (z778 : Int) (k779 : Nat) (z780 : Int) (z781 : Int) (b782 : Bool) (l783 : List (List V)) (z784 : Int) (b785 : Bool) (b786 : Bool) (b787 : Bool) (l788 : List (List V)) (l789 : List (List V)) (l790 : List (List V)) : S := { T := un 6 (vb false :: U :: V.ptr 0 0 0 :: i64 z769 :: V.ptr 1 0 0 :: V.ptr 2 0 0 :: i64 z770 :: V.ptr 3 0 0 :: i64 z771 :: un 35 (i64 z772 :: i64 z771 :: vb b773 :: i64 z771 :: V.ptr 3 0 1 :: V.hs 6 0 k774 :: i64 z771 :: V.ptr 6 k775 0 :: V.ptr 6 k775 0 :: i64 z776 :: V.ptr 1 0 1 :: V.hs 4 0 k777 :: i64 z771 :: V.ptr 4 k775 0 :: V.ptr 4 k775 0 :: i64 z778 :: V.ptr 2 0 1 :: V.hs 5 0 k779 :: i64 z771 :: V.ptr 5 k775 0 :: V.ptr 5 k775 0 :: i64 z780 :: i64 z781 :: vb b782 :: vb b782 :: E :: E :: E :: E :: E :: E :: E :: E :: E :: E :: E :: E :: E :: E :: E :: E :: E :: E :: E :: E :: vb true :: vb true :: E :: E :: E :: E :: E :: E :: E :: E :: E :: E :: E :: E :: E :: E :: E :: E :: E :: E :: E :: E :: vb true :: vb true :: E :: E :: E :: E :: E :: E :: E :: E :: E :: E :: E :: E :: E :: E :: E :: E :: E :: E :: E :: E :: vb true :: un 24 [])), σ := [Ob.cells true false 2 [[V.list 1 l783, i64 z784]], Ob.cells true false 2 [[vb b785, V.hs 4 0 k777]], Ob.cells true false 2 [[vb b786, V.hs 5 0 k779]], Ob.cells true false 2 [[vb b787, V.hs 6 0 k774]], Ob.cells false true 2 l788, Ob.cells false true 2 l789, Ob.cells true true 2 l790] }
@[reducible] def s3_0_1 (z791 : Int) (z792 : Int) (z793 : Int) (z794 : Int) (b795 : Bool) (k796 : Nat) (k797 : Nat) (z798 : Int) (k799 : Nat) (z800 : Int) (k801 : Nat) (z802 : Int) (z803 : Int) (b804 : Bool) (z805 : Int) (b806 : Bool) (l807 : List (List V)) (z808 : Int) (b809 : Bool) (b810 : Bool) (b811 : Bool) (l812 : List (List V)) (l813 : List (List V)) (l814 : List (List V)) : S := { T := un 6 (vb false :: U :: V.ptr 0 0 0 :: i64 z791 :: V.ptr 1 0 0 :: V.ptr 2 0 0 :: i64 z792 :: V.ptr 3 0 0 :: i64 z793 :: un 35 (i64 z794 :: i64 z793 :: vb b795 :: i64 z793 :: V.ptr 3 0 1 :: V.hs 6 0 k796 :: i64 z793 :: V.ptr 6 k797 0 :: V.ptr 6 k797 0 :: i64 z798 :: V.ptr 1 0 1 :: V.hs 4 0 k799 :: i64 z793 :: V.ptr 4 k797 0 :: V.ptr 4 k797 0 :: i64 z800 :: V.ptr 2 0 1 :: V.hs 5 0 k801 :: i64 z793 :: V.ptr 5 k797 0 :: V.ptr 5 k797 0 :: i64 z802 :: i64 z803 :: vb b804 :: vb b804 :: V.ptr 3 0 1 :: V.hs 6 0 k796 :: i64 z793 :: V.ptr 6 k797 0 :: V.ptr 6 k797 0 :: i64 z798 :: V.ptr 1 0 1 :: V.hs 4 0 k799 :: i64 z793 :: V.ptr 4 k797 0 :: V.ptr 4 k797 0 :: i64 z800 :: V.ptr 2 0 1 :: V.hs 5 0 k801 :: i64 z793 :: V.ptr 5 k797 0 :: V.ptr 5 k797 0 :: i64 z802 :: i64 z805 :: vb b806 :: vb b806 :: vb b806 :: E :: E :: E :: E :: E :: E :: E :: E :: E :: E :: E :: E :: E :: E :: E :: E :: E :: E :: E :: E :: vb true :: vb true :: E :: E :: E :: E :: E :: E :: E :: E :: E :: E :: E :: E :: E :: E :: E :: E :: E :: E :: E :: E :: vb true :: un 24 [])), σ := [Ob.cells true false 2 [[V.list 1 l807, i64 z808]], Ob.cells true false 2 [[vb b809, V.hs 4 0 k799]], Ob.cells true false 2 [[vb b810, V.hs 5 0 k801]], Ob.cells true false 2 [[vb b811, V.hs 6 0 k796]], Ob.cells false true 2 l812, Ob.cells false true 2 l813, Ob.cells true true 2 l814] }
@[reducible] def s3_0_2 (z815 : Int) (z816 : Int) (z817 : Int) (z818 : Int) (b819 : Bool) (k820 : Nat) (k821 : Nat) (z822 : Int) (k823 : Nat) (z824 : Int) (k825 : Nat) (z826 : Int) (z827 : Int) (b828 : Bool) (z829 : Int) (b830 : Bool) (z831 : Int) (z832 : Int) (z833 : Int) (z834 : Int) (b835 : Bool) (l836 : List (List V)) (z837 : Int) (b838 : Bool) (b839 : Bool) (b840 : Bool) (l841 : List (List V)) (l842 : List (List V)) (l843 : List (List V)) : S := { T := un 6 (vb false :: U :: V.ptr 0 0 0 :: i64 z815 :: V.ptr 1 0 0 :: V.ptr 2 0 0 :: i64 z816 :: V.ptr 3 0 0 :: i64 z817 :: un 35 (i64 z818 :: i64 z817 :: vb b819 :: i64 z817 :: V.ptr 3 0 1 :: V.hs 6 0 k820 :: i64 z817 :: V.ptr 6 k821 0 :: V.ptr 6 k821 0 :: i64 z822 :: V.ptr 1 0 1 :: V.hs 4 0 k823 :: i64 z817 :: V.ptr 4 k821 0 :: V.ptr 4 k821 0 :: i64 z824 :: V.ptr 2 0 1 :: V.hs 5 0 k825 :: i64 z817 :: V.ptr 5 k821 0 :: V.ptr 5 k821 0 :: i64 z826 :: i64 z827 :: vb b828 :: vb b828 :: V.ptr 3 0 1 :: V.hs 6 0 k820 :: i64 z817 :: V.ptr 6 k821 0 :: V.ptr 6 k821 0 :: i64 z822 :: V.ptr 1 0 1 :: V.hs 4 0 k823 :: i64 z817 :: V.ptr 4 k821 0 :: V.ptr 4 k821 0 :: i64 z824 :: V.ptr 2 0 1 :: V.hs 5 0 k825 :: i64 z817 :: V.ptr 5 k821 0 :: V.ptr 5 k821 0 :: i64 z826 :: i64 z829 :: vb b830 :: vb b830 :: vb b830 :: V.ptr 3 0 1 :: V.hs 6 0 k820 :: i64 z817 :: V.ptr 6 k821 0 :: V.ptr 6 k821 1 :: i64 z831 :: V.ptr 1 0 1 :: V.hs 4 0 k823 :: i64 z817 :: V.ptr 4 k821 0 :: V.ptr 4 k821 1 :: i64 z832 :: V.ptr 2 0 1 :: V.hs 5 0 k825 :: i64 z817 :: V.ptr 5 k821 0 :: V.ptr 5 k821 1 :: i64 z833 :: i64 z834 :: vb b835 :: vb b835 :: vb b835 :: E :: E :: E :: E :: E :: E :: E :: E :: E :: E :: E :: E :: E :: E :: E :: E :: E :: E :: E :: E :: vb true :: un 24 [])), σ := [Ob.cells true false 2 [[V.list 1 l836, i64 z837]], Ob.cells true false 2 [[vb b838, V.hs 4 0 k823]], Ob.cells true false 2 [[vb b839, V.hs 5 0 k825]], Ob.cells true false 2 [[vb b840, V.hs 6 0 k820]], Ob.cells false true 2 l841, Ob.cells false true 2 l842, Ob.cells true true 2 l843] }
@[reducible] def s3_0_3 (z844 : Int) (z845 : Int) (z846 : Int) (z847 : Int) (b848 : Bool) (k849 : Nat) (k850 : Nat) (z851 : Int) (k852 : Nat) (z853 : Int) (k854 : Nat) (z855 : Int) (z856 : Int) (b857 : Bool) (z858 : Int) (b859 : Bool) (z860 : Int) (z861 : Int) (z862 : Int) (z863 : Int) (b864 : Bool) (z865 : Int) (b866 : Bool) (l867 : List (List V)) (z868 : Int) (b869 : Bool) (b870 : Bool) (b871 : Bool) (l872 : List (List V)) (l873 : List (List V)) (l874 : List (List V)) : S := { T := un 6 (vb false :: U :: V.ptr 0 0 0 :: i64 z844 :: V.ptr 1 0 0 :: V.ptr 2 0 0 :: i64 z845 :: V.ptr 3 0 0 :: i64 z846 :: un 35 (i64 z847 :: i64 z846 :: vb b848 :: i64 z846 :: V.ptr 3 0 1 :: V.hs 6 0 k849 :: i64 z846 :: V.ptr 6 k850 0 :: V.ptr 6 k850 0 :: i64 z851 :: V.ptr 1 0 1 :: V.hs 4 0 k852 :: i64 z846 :: V.ptr 4 k850 0 :: V.ptr 4 k850 0 :: i64 z853 :: V.ptr 2 0 1 :: V.hs 5 0 k854 :: i64 z846 :: V.ptr 5 k850 0 :: V.ptr 5 k850 0 :: i64 z855 :: i64 z856 :: vb b857 :: vb b857 :: V.ptr 3 0 1 :: V.hs 6 0 k849 :: i64 z846 :: V.ptr 6 k850 0 :: V.ptr 6 k850 0 :: i64 z851 :: V.ptr 1 0 1 :: V.hs 4 0 k852 :: i64 z846 :: V.ptr 4 k850 0 :: V.ptr 4 k850 0 :: i64 z853 :: V.ptr 2 0 1 :: V.hs 5 0 k854 :: i64 z846 :: V.ptr 5 k850 0 :: V.ptr 5 k850 0 :: i64 z855 :: i64 z858 :: vb b859 :: vb b859 :: vb b859 :: V.ptr 3 0 1 :: V.hs 6 0 k849 :: i64 z846 :: V.ptr 6 k850 0 :: V.ptr 6 k850 1 :: i64 z860 :: V.ptr 1 0 1 :: V.hs 4 0 k852 :: i64 z846 :: V.ptr 4 k850 0 :: V.ptr 4 k850 1 :: i64 z861 :: V.ptr 2 0 1 :: V.hs 5 0 k854 :: i64 z846 :: V.ptr 5 k850 0 :: V.ptr 5 k850 1 :: i64 z862 :: i64 z863 :: vb b864 :: vb b864 :: vb b864 :: V.ptr 3 0 1 :: V.hs 6 0 k849 :: i64 z846 :: V.ptr 6 k850 0 :: V.ptr 6 k850 1 :: i64 z860 :: V.ptr 1 0 1 :: V.hs 4 0 k852 :: i64 z846 :: V.ptr 4 k850 0 :: V.ptr 4 k850 1 :: i64 z861 :: V.ptr 2 0 1 :: V.hs 5 0 k854 :: i64 z846 :: V.ptr 5 k850 0 :: V.ptr 5 k850 1 :: i64 z862 :: i64 z865 :: vb b866 :: vb b866 :: un 24 [])), σ := [Ob.cells true false 2 [[V.list 1 l867, i64 z868]], Ob.cells true false 2 [[vb b869, V.hs 4 0 k852]], Ob.cells true false 2 [[vb b870, V.hs 5 0 k854]], Ob.cells true false 2 [[vb b871, V.hs 6 0 k849]], Ob.cells false true 2 l872, Ob.cells false true 2 l873, Ob.cells true true 2 l874] }
@[reducible] def s3_0_4 (z875 : Int) (z876 : Int) (z877 : Int) (z878 : Int) (b879 : Bool) (l880 : List (List V)) (z881 : Int) (b882 : Bool) (k883 : Nat) (b884 : Bool) (k885 : Nat) (b886 : Bool) (k887 : Nat) (l888 : List (List V)) (l889 : List (List V)) (l890 : List (List V)) : S := { T := un 8 (V.ptr 0 0 0 :: i64 z875 :: V.ptr 1 0 0 :: V.ptr 2 0 0 :: i64 z876 :: V.ptr 3 0 0 :: un 36 (i64 z877 :: i64 z878 :: vb b879 :: un 111 [])), σ := [Ob.cells true false 2 [[V.list 1 l880, i64 z881]], Ob.cells true false 2 [[vb b882, V.hs 4 0 k883]], Ob.cells true false 2 [[vb b884, V.hs 5 0 k885]], Ob.cells true false 2 [[vb b886, V.hs 6 0 k887]], Ob.cells false true 2 l888, Ob.cells false true 2 l889, Ob.cells true true 2 l890] }
def R3_0.St : R3_0 → VX × S → Prop
  | .e0, p => ∃ z769 : Int, ∃ z770 : Int, ∃ z771 : Int, ∃ z772 : Int, ∃ b773 : Bool, ∃ k774 : Nat, ∃ k775 : Nat, ∃ z776 : Int, ∃ k777 : Nat, ∃ z778 : Int, ∃ k779 : Nat, ∃ z780 : Int, ∃ z781 : Int, ∃ b782 : Bool, ∃ l783 : List (List V), ∃ z784 : Int, ∃ b785 : Bool, ∃ b786 : Bool, ∃ b787 : Bool, ∃ l788 : List (List V), ∃ l789 : List (List V), ∃ l790 : List (List V), p = (VX.ret, s3_0_0 z769 z770 z771 z772 b773 k774 k775 z776 k777 z778 k779 z780 z781 b782 l783 z784 b785 b786 b787 l788 l789 l790)
  | .e1, p => ∃ z791 : Int, ∃ z792 : Int, ∃ z793 : Int, ∃ z794 : Int, ∃ b795 : Bool, ∃ k796 : Nat, ∃ k797 : Nat, ∃ z798 : Int, ∃ k799 : Nat, ∃ z800 : Int, ∃ k801 : Nat, ∃ z802 : Int, ∃ z803 : Int, ∃ b804 : Bool, ∃ z805 : Int, ∃ b806 : Bool, ∃ l807 : List (List V), ∃ z808 : Int, ∃ b809 : Bool, ∃ b810 : Bool, ∃ b811 : Bool, ∃ l812 : List (List V), ∃ l813 : List (List V), ∃ l814 : List (List V), p = (VX.ret, s3_0_1 z791 z792 z793 z794 b795 k796 k797 z798 k799 z800 k801 z802 z803 b804 z805 b806 l807 z808 b809 b810 b811 l812 l813 l814)
  | .e2, p => ∃ z815 : Int, ∃ z816 : Int, ∃ z817 : Int, ∃ z818 : Int, ∃ b819 : Bool, ∃ k820 : Nat, ∃ k821 : Nat, ∃ z822 : Int, ∃ k823 : Nat, ∃ z824 : Int, ∃ k825 : Nat, ∃ z826 : Int, ∃ z827 : Int, ∃ b828 : Bool, ∃ z829 : Int, ∃ b830 : Bool, ∃ z831 : Int, ∃ z832 : Int, ∃ z833 : Int, ∃ z834 : Int, ∃ b835 : Bool, ∃ l836 : List (List V), ∃ z837 : Int, ∃ b838 : Bool, ∃ b839 : Bool, ∃ b840 : Bool, ∃ l841 : List (List V), ∃ l842 : List (List V), ∃ l843 : List (List V), p = (VX.ret, s3_0_2 z815 z816 z817 z818 b819 k820 k821 z822 k823 z824 k825 z826 z827 b828 z829 b830 z831 z832 z833 z834 b835 l836 z837 b838 b839 b840 l841 l842 l843)
  | .e3, p => ∃ z844 : Int, ∃ z845 : Int, ∃ z846 : Int, ∃ z847 : Int, ∃ b848 : Bool, ∃ k849 : Nat, ∃ k850 : Nat, ∃ z851 : Int, ∃ k852 : Nat, ∃ z853 : Int, ∃ k854 : Nat, ∃ z855 : Int, ∃ z856 : Int, ∃ b857 : Bool, ∃ z858 : Int, ∃ b859 : Bool, ∃ z860 : Int, ∃ z861 : Int, ∃ z862 : Int, ∃ z863 : Int, ∃ b864 : Bool, ∃ z865 : Int, ∃ b866 : Bool, ∃ l867 : List (List V), ∃ z868 : Int, ∃ b869 : Bool, ∃ b870 : Bool, ∃ b871 : Bool, ∃ l872 : List (List V), ∃ l873 : List (List V), ∃ l874 : List (List V), p = (VX.ret, s3_0_3 z844 z845 z846 z847 b848 k849 k850 z851 k852 z853 k854 z855 z856 b857 z858 b859 z860 z861 z862 z863 b864 z865 b866 l867 z868 b869 b870 b871 l872 l873 l874)
  | .e4 z875 z876 l880 z881 b882 k883 b884 k885 b886 k887 l888 l889 l890, p => ∃ z877 : Int, ∃ z878 : Int, ∃ b879 : Bool, p = (VX.exit 0, s3_0_4 z875 z876 z877 z878 b879 l880 z881 b882 k883 b884 k885 b886 k887 l888 l889 l890)
def L3_0 : Nat → Int → Int → Int → Int → List (List V) → Int → Bool → Nat → Bool → Nat → Bool → Nat → List (List V) → List (List V) → List (List V) → Option R3_0
  | 0, _, _, _, _, _, _, _, _, _, _, _, _, _, _, _ => none
  | n + 1, z420, z421, z422, z423, l424, z425, b426, k427, b428, k429, b430, k431, l432, l433, l434 =>
    if z423 < z422 then
     if 0 ≤ z423 ∧ z423 < (↑k431 : Int) then
      ((l434[(0 : Nat) + Int.toNat z423]?).bind W34.dec).bind fun e766 =>
      if 0 ≤ z423 ∧ z423 < (↑k427 : Int) then
       ((l432[(0 : Nat) + Int.toNat z423]?).bind W34.dec).bind fun e767 =>
       if 0 ≤ z423 ∧ z423 < (↑k429 : Int) then
        ((l433[(0 : Nat) + Int.toNat z423]?).bind W34.dec).bind fun e768 =>
        if e766.c0 < if e768.c0 < e767.c0 then e768.c0 else e767.c0 then
         some (R3_0.e0)
        else
         if e766.c0 > if e768.c0 > e767.c0 then e768.c0 else e767.c0 then
          some (R3_0.e1)
         else
          if e766.c1 < if e768.c1 < e767.c1 then e768.c1 else e767.c1 then
           some (R3_0.e2)
          else
           if e766.c1 > if e768.c1 > e767.c1 then e768.c1 else e767.c1 then
            some (R3_0.e3)
           else
            L3_0 n (z420) (z421) (z422) (w64 (z423 + 1)) (l424) (z425) (b426) (k427) (b428) (k429) (b430) (k431) (l432) (l433) (l434)
       else
        none -- none
      else
       none -- none
     else
      none -- none
    else
     some (R3_0.e4 (z420) (z421) (l424) (z425) (b426) (k427) (b428) (k429) (b430) (k431) (l432) (l433) (l434))
theorem L3_0_ok (m : Nat) : ∀ (n : Nat) (z420 : Int) (z421 : Int) (z422 : Int) (z423 : Int) (l424 : List (List V)) (z425 : Int) (b426 : Bool) (k427 : Nat) (b428 : Bool) (k429 : Nat) (b430 : Bool) (k431 : Nat) (l432 : List (List V)) (l433 : List (List V)) (l434 : List (List V)) (r : R3_0), L3_0 n z420 z421 z422 z423 l424 z425 b426 k427 b428 k429 b430 k431 l432 l433 l434 = some r → ∃ st, loopFrom Try.prog X (call Try.prog X O0 100000 (m + 6)) 3 (0) 100000 B3 0 n ({ T := un 8 (V.ptr 0 0 0 :: i64 z420 :: V.ptr 1 0 0 :: V.ptr 2 0 0 :: i64 z421 :: V.ptr 3 0 0 :: un 36 (i64 z422 :: i64 z423 :: un 112 [])), σ := [Ob.cells true false 2 [[V.list 1 l424, i64 z425]], Ob.cells true false 2 [[vb b426, V.hs 4 0 k427]], Ob.cells true false 2 [[vb b428, V.hs 5 0 k429]], Ob.cells true false 2 [[vb b430, V.hs 6 0 k431]], Ob.cells false true 2 l432, Ob.cells false true 2 l433, Ob.cells true true 2 l434] }) = some st ∧ r.St st
  | 0, _, _, _, _, _, _, _, _, _, _, _, _, _, _, _, r, h => by cases h
  | n + 1, z420, z421, z422, z423, l424, z425, b426, k427, b428, k429, b430, k431, l432, l433, l434, r, h => by
    rw [L3_0] at h
    rcases ite_eq h with ⟨h0, h⟩ | ⟨h0, h⟩
    · skip
      rcases ite_eq h with ⟨h1, h⟩ | ⟨h1, h⟩
      · skip
        obtain ⟨e766, h2, h⟩ := Option.bind_eq_some_iff.mp h
        rcases ite_eq h with ⟨h3, h⟩ | ⟨h3, h⟩
        · skip
          obtain ⟨e767, h4, h⟩ := Option.bind_eq_some_iff.mp h
          rcases ite_eq h with ⟨h5, h⟩ | ⟨h5, h⟩
          · skip
            obtain ⟨e768, h6, h⟩ := Option.bind_eq_some_iff.mp h
            rcases ite_eq h with ⟨h7, h⟩ | ⟨h7, h⟩
            · skip
              cases h
              exact ⟨_, round_out (gs := [.t, .a, .t, .el (W34.cells e766), .a, .t, .el (W34.cells e767), .a, .t, .el (W34.cells e768), .t, .t, .t, .t, .t, .t, .t, .t, .t, .t, .t, .t, .t, .t, .t, .t, .t, .t, .t, .t, .t, .a, .a, .a, .a, .a, .a, .a, .a, .a, .a, .a, .a, .a, .a, .a, .a, .a, .a, .a, .a, .a, .a, .a, .a, .a, .a, .a, .a, .a, .a, .a, .a, .a, .a, .a, .a, .a, .a, .a, .a, .a, .a, .ft [⟨0, [3], []⟩, ⟨1, [3], []⟩, ⟨2, [], []⟩, ⟨3, [6], []⟩, ⟨4, [6], []⟩, ⟨5, [6], []⟩, ⟨6, [1], []⟩, ⟨7, [1], []⟩, ⟨8, [], []⟩, ⟨9, [4], []⟩, ⟨10, [4], []⟩, ⟨11, [4], []⟩, ⟨12, [2], []⟩, ⟨13, [2], []⟩, ⟨14, [], []⟩, ⟨15, [5], []⟩, ⟨16, [5], []⟩, ⟨17, [5], []⟩, ⟨18, [], []⟩, ⟨19, [], []⟩, ⟨20, [], []⟩, ⟨21, [], []⟩, ⟨22, [], []⟩, ⟨23, [], []⟩, ⟨24, [], []⟩, ⟨25, [], []⟩, ⟨26, [], []⟩, ⟨27, [], []⟩, ⟨28, [], []⟩, ⟨29, [], []⟩, ⟨30, [], []⟩, ⟨31, [], []⟩, ⟨32, [], []⟩, ⟨33, [], []⟩, ⟨34, [], []⟩, ⟨35, [], []⟩, ⟨36, [], []⟩, ⟨37, [], []⟩, ⟨38, [], []⟩, ⟨39, [], []⟩, ⟨40, [], []⟩, ⟨41, [], []⟩, ⟨42, [], []⟩, ⟨43, [], []⟩, ⟨44, [], []⟩, ⟨45, [], []⟩, ⟨46, [], []⟩, ⟨47, [], []⟩, ⟨48, [], []⟩, ⟨49, [], []⟩, ⟨50, [], []⟩, ⟨51, [], []⟩, ⟨52, [], []⟩, ⟨53, [], []⟩, ⟨54, [], []⟩, ⟨55, [], []⟩, ⟨56, [], []⟩, ⟨57, [], []⟩, ⟨58, [], []⟩, ⟨59, [], []⟩, ⟨60, [], []⟩, ⟨61, [], []⟩, ⟨62, [], []⟩, ⟨63, [], []⟩, ⟨64, [], []⟩, ⟨65, [], []⟩, ⟨66, [], []⟩, ⟨67, [], []⟩, ⟨68, [], []⟩, ⟨69, [], []⟩, ⟨70, [], []⟩, ⟨71, [], []⟩, ⟨72, [], []⟩, ⟨73, [], []⟩, ⟨74, [], []⟩, ⟨75, [], []⟩, ⟨76, [], []⟩, ⟨77, [], []⟩, ⟨78, [], []⟩, ⟨79, [], []⟩, ⟨80, [], []⟩, ⟨81, [], []⟩, ⟨82, [], []⟩, ⟨83, [], []⟩, ⟨84, [], []⟩, ⟨85, [], []⟩], .a]) (notIn []) (by kernel_rfl) rfl (And.intro (decide_eq_true h0) (And.intro (decide_eq_true h1) (And.intro (W34.dec_ok h2) (And.intro (decide_eq_true h3) (And.intro (W34.dec_ok h4) (And.intro (decide_eq_true h5) (And.intro (W34.dec_ok h6) (And.intro (decide_eq_true h7) (And.intro (decide_eq_true h7) (And.intro (decide_eq_true h7) (And.intro (decide_eq_true h7) (And.intro (decide_eq_true h7) (And.intro (decide_eq_true h7) (And.intro (decide_eq_true h7) (And.intro (decide_eq_true h7) (And.intro (decide_eq_true h7) (And.intro (decide_eq_true h7) (And.intro (decide_eq_true h7) (And.intro (decide_eq_true h7) (And.intro (decide_eq_true h7) (And.intro (decide_eq_true h7) (And.intro (decide_eq_true h7) (And.intro (decide_eq_true h7) (And.intro (decide_eq_true h7) (And.intro (decide_eq_true h7) (And.intro (decide_eq_true h7) (And.intro (decide_eq_true h7) (And.intro (decide_eq_true h7) (And.intro (Eq.refl ([⟨0, [3], []⟩, ⟨1, [3], []⟩, ⟨2, [], []⟩, ⟨3, [6], []⟩, ⟨4, [6], []⟩, ⟨5, [6], []⟩, ⟨6, [1], []⟩, ⟨7, [1], []⟩, ⟨8, [], []⟩, ⟨9, [4], []⟩, ⟨10, [4], []⟩, ⟨11, [4], []⟩, ⟨12, [2], []⟩, ⟨13, [2], []⟩, ⟨14, [], []⟩, ⟨15, [5], []⟩, ⟨16, [5], []⟩, ⟨17, [5], []⟩, ⟨18, [], []⟩, ⟨19, [], []⟩, ⟨20, [], []⟩, ⟨21, [], []⟩, ⟨22, [], []⟩, ⟨23, [], []⟩, ⟨24, [], []⟩, ⟨25, [], []⟩, ⟨26, [], []⟩, ⟨27, [], []⟩, ⟨28, [], []⟩, ⟨29, [], []⟩, ⟨30, [], []⟩, ⟨31, [], []⟩, ⟨32, [], []⟩, ⟨33, [], []⟩, ⟨34, [], []⟩, ⟨35, [], []⟩, ⟨36, [], []⟩, ⟨37, [], []⟩, ⟨38, [], []⟩, ⟨39, [], []⟩, ⟨40, [], []⟩, ⟨41, [], []⟩, ⟨42, [], []⟩, ⟨43, [], []⟩, ⟨44, [], []⟩, ⟨45, [], []⟩, ⟨46, [], []⟩, ⟨47, [], []⟩, ⟨48, [], []⟩, ⟨49, [], []⟩, ⟨50, [], []⟩, ⟨51, [], []⟩, ⟨52, [], []⟩, ⟨53, [], []⟩, ⟨54, [], []⟩, ⟨55, [], []⟩, ⟨56, [], []⟩, ⟨57, [], []⟩, ⟨58, [], []⟩, ⟨59, [], []⟩, ⟨60, [], []⟩, ⟨61, [], []⟩, ⟨62, [], []⟩, ⟨63, [], []⟩, ⟨64, [], []⟩, ⟨65, [], []⟩, ⟨66, [], []⟩, ⟨67, [], []⟩, ⟨68, [], []⟩, ⟨69, [], []⟩, ⟨70, [], []⟩, ⟨71, [], []⟩, ⟨72, [], []⟩, ⟨73, [], []⟩, ⟨74, [], []⟩, ⟨75, [], []⟩, ⟨76, [], []⟩, ⟨77, [], []⟩, ⟨78, [], []⟩, ⟨79, [], []⟩, ⟨80, [], []⟩, ⟨81, [], []⟩, ⟨82, [], []⟩, ⟨83, [], []⟩, ⟨84, [], []⟩, ⟨85, [], []⟩] : List Foot)) True.intro))))))))))))))))))))))))))))) n, z420, z421, z423, z422, decide (z423 < z422), k431, 0 + Int.toNat z423, e766.c0, k427, e767.c0, k429, e768.c0, if e768.c0 < e767.c0 then e768.c0 else e767.c0, decide (e766.c0 < if e768.c0 < e767.c0 then e768.c0 else e767.c0), l424, z425, b426, b428, b430, l432, l433, l434, rfl⟩
            · skip
              rcases ite_eq h with ⟨h8, h⟩ | ⟨h8, h⟩
              · skip
                cases h
                exact ⟨_, round_out (gs := [.t, .a, .t, .el (W34.cells e766), .a, .t, .el (W34.cells e767), .a, .t, .el (W34.cells e768), .f, .f, .a, .f, .f, .t, .f, .f, .el (W34.cells e766), .f, .f, .a, .f, .f, .t, .f, .f, .el (W34.cells e767), .f, .f, .a, .f, .f, .t, .f, .f, .el (W34.cells e768), .f, .f, .f, .t, .t, .t, .t, .t, .t, .t, .t, .t, .t, .t, .t, .t, .t, .t, .t, .t, .t, .t, .t, .t, .a, .a, .a, .a, .a, .a, .a, .a, .a, .a, .a, .a, .a, .a, .a, .a, .a, .a, .a, .a, .a, .ft [⟨0, [3], []⟩, ⟨1, [3], []⟩, ⟨2, [], []⟩, ⟨3, [6], []⟩, ⟨4, [6], []⟩, ⟨5, [6], []⟩, ⟨6, [1], []⟩, ⟨7, [1], []⟩, ⟨8, [], []⟩, ⟨9, [4], []⟩, ⟨10, [4], []⟩, ⟨11, [4], []⟩, ⟨12, [2], []⟩, ⟨13, [2], []⟩, ⟨14, [], []⟩, ⟨15, [5], []⟩, ⟨16, [5], []⟩, ⟨17, [5], []⟩, ⟨18, [], []⟩, ⟨19, [], []⟩, ⟨20, [], []⟩, ⟨21, [3], []⟩, ⟨22, [3], []⟩, ⟨23, [], []⟩, ⟨24, [6], []⟩, ⟨25, [6], []⟩, ⟨26, [6], []⟩, ⟨27, [1], []⟩, ⟨28, [1], []⟩, ⟨29, [], []⟩, ⟨30, [4], []⟩, ⟨31, [4], []⟩, ⟨32, [4], []⟩, ⟨33, [2], []⟩, ⟨34, [2], []⟩, ⟨35, [], []⟩, ⟨36, [5], []⟩, ⟨37, [5], []⟩, ⟨38, [5], []⟩, ⟨39, [], []⟩, ⟨40, [], []⟩, ⟨41, [], []⟩, ⟨42, [], []⟩, ⟨43, [], []⟩, ⟨44, [], []⟩, ⟨45, [], []⟩, ⟨46, [], []⟩, ⟨47, [], []⟩, ⟨48, [], []⟩, ⟨49, [], []⟩, ⟨50, [], []⟩, ⟨51, [], []⟩, ⟨52, [], []⟩, ⟨53, [], []⟩, ⟨54, [], []⟩, ⟨55, [], []⟩, ⟨56, [], []⟩, ⟨57, [], []⟩, ⟨58, [], []⟩, ⟨59, [], []⟩, ⟨60, [], []⟩, ⟨61, [], []⟩, ⟨62, [], []⟩, ⟨63, [], []⟩, ⟨64, [], []⟩, ⟨65, [], []⟩, ⟨66, [], []⟩, ⟨67, [], []⟩, ⟨68, [], []⟩, ⟨69, [], []⟩, ⟨70, [], []⟩, ⟨71, [], []⟩, ⟨72, [], []⟩, ⟨73, [], []⟩, ⟨74, [], []⟩, ⟨75, [], []⟩, ⟨76, [], []⟩, ⟨77, [], []⟩, ⟨78, [], []⟩, ⟨79, [], []⟩, ⟨80, [], []⟩, ⟨81, [], []⟩, ⟨82, [], []⟩, ⟨83, [], []⟩, ⟨84, [], []⟩, ⟨85, [], []⟩], .a]) (notIn []) (by kernel_rfl) rfl (And.intro (decide_eq_true h0) (And.intro (decide_eq_true h1) (And.intro (W34.dec_ok h2) (And.intro (decide_eq_true h3) (And.intro (W34.dec_ok h4) (And.intro (decide_eq_true h5) (And.intro (W34.dec_ok h6) (And.intro (decide_eq_false h7) (And.intro (decide_eq_false h7) (And.intro (decide_eq_false h7) (And.intro (decide_eq_false h7) (And.intro (decide_eq_true h1) (And.intro (decide_eq_false h7) (And.intro (decide_eq_false h7) (And.intro (W34.dec_ok h2) (And.intro (decide_eq_false h7) (And.intro (decide_eq_false h7) (And.intro (decide_eq_false h7) (And.intro (decide_eq_false h7) (And.intro (decide_eq_true h3) (And.intro (decide_eq_false h7) (And.intro (decide_eq_false h7) (And.intro (W34.dec_ok h4) (And.intro (decide_eq_false h7) (And.intro (decide_eq_false h7) (And.intro (decide_eq_false h7) (And.intro (decide_eq_false h7) (And.intro (decide_eq_true h5) (And.intro (decide_eq_false h7) (And.intro (decide_eq_false h7) (And.intro (W34.dec_ok h6) (And.intro (decide_eq_false h7) (And.intro (decide_eq_false h7) (And.intro (decide_eq_false h7) (And.intro (decide_eq_true h8) (And.intro (decide_eq_true h8) (And.intro (decide_eq_true h8) (And.intro (decide_eq_true h8) (And.intro (decide_eq_true h8) (And.intro (decide_eq_true h8) (And.intro (decide_eq_true h8) (And.intro (decide_eq_true h8) (And.intro (decide_eq_true h8) (And.intro (decide_eq_true h8) (And.intro (decide_eq_true h8) (And.intro (decide_eq_true h8) (And.intro (decide_eq_true h8) (And.intro (decide_eq_true h8) (And.intro (decide_eq_true h8) (And.intro (decide_eq_true h8) (And.intro (decide_eq_true h8) (And.intro (decide_eq_true h8) (And.intro (decide_eq_true h8) (And.intro (decide_eq_true h8) (And.intro (decide_eq_true h8) (And.intro (Eq.refl ([⟨0, [3], []⟩, ⟨1, [3], []⟩, ⟨2, [], []⟩, ⟨3, [6], []⟩, ⟨4, [6], []⟩, ⟨5, [6], []⟩, ⟨6, [1], []⟩, ⟨7, [1], []⟩, ⟨8, [], []⟩, ⟨9, [4], []⟩, ⟨10, [4], []⟩, ⟨11, [4], []⟩, ⟨12, [2], []⟩, ⟨13, [2], []⟩, ⟨14, [], []⟩, ⟨15, [5], []⟩, ⟨16, [5], []⟩, ⟨17, [5], []⟩, ⟨18, [], []⟩, ⟨19, [], []⟩, ⟨20, [], []⟩, ⟨21, [3], []⟩, ⟨22, [3], []⟩, ⟨23, [], []⟩, ⟨24, [6], []⟩, ⟨25, [6], []⟩, ⟨26, [6], []⟩, ⟨27, [1], []⟩, ⟨28, [1], []⟩, ⟨29, [], []⟩, ⟨30, [4], []⟩, ⟨31, [4], []⟩, ⟨32, [4], []⟩, ⟨33, [2], []⟩, ⟨34, [2], []⟩, ⟨35, [], []⟩, ⟨36, [5], []⟩, ⟨37, [5], []⟩, ⟨38, [5], []⟩, ⟨39, [], []⟩, ⟨40, [], []⟩, ⟨41, [], []⟩, ⟨42, [], []⟩, ⟨43, [], []⟩, ⟨44, [], []⟩, ⟨45, [], []⟩, ⟨46, [], []⟩, ⟨47, [], []⟩, ⟨48, [], []⟩, ⟨49, [], []⟩, ⟨50, [], []⟩, ⟨51, [], []⟩, ⟨52, [], []⟩, ⟨53, [], []⟩, ⟨54, [], []⟩, ⟨55, [], []⟩, ⟨56, [], []⟩, ⟨57, [], []⟩, ⟨58, [], []⟩, ⟨59, [], []⟩, ⟨60, [], []⟩, ⟨61, [], []⟩, ⟨62, [], []⟩, ⟨63, [], []⟩, ⟨64, [], []⟩, ⟨65, [], []⟩, ⟨66, [], []⟩, ⟨67, [], []⟩, ⟨68, [], []⟩, ⟨69, [], []⟩, ⟨70, [], []⟩, ⟨71, [], []⟩, ⟨72, [], []⟩, ⟨73, [], []⟩, ⟨74, [], []⟩, ⟨75, [], []⟩, ⟨76, [], []⟩, ⟨77, [], []⟩, ⟨78, [], []⟩, ⟨79, [], []⟩, ⟨80, [], []⟩, ⟨81, [], []⟩, ⟨82, [], []⟩, ⟨83, [], []⟩, ⟨84, [], []⟩, ⟨85, [], []⟩] : List Foot)) True.intro)))))))))))))))))))))))))))))))))))))))))))))))))))))))) n, z420, z421, z423, z422, decide (z423 < z422), k431, 0 + Int.toNat z423, e766.c0, k427, e767.c0, k429, e768.c0, if e768.c0 < e767.c0 then e768.c0 else e767.c0, decide (e766.c0 < if e768.c0 < e767.c0 then e768.c0 else e767.c0), if e768.c0 > e767.c0 then e768.c0 else e767.c0, decide (e766.c0 > if e768.c0 > e767.c0 then e768.c0 else e767.c0), l424, z425, b426, b428, b430, l432, l433, l434, rfl⟩
              · skip
                rcases ite_eq h with ⟨h9, h⟩ | ⟨h9, h⟩
                · skip
                  cases h
                  exact ⟨_, round_out (gs := [.t, .a, .t, .el (W34.cells e766), .a, .t, .el (W34.cells e767), .a, .t, .el (W34.cells e768), .f, .f, .a, .f, .f, .t, .f, .f, .el (W34.cells e766), .f, .f, .a, .f, .f, .t, .f, .f, .el (W34.cells e767), .f, .f, .a, .f, .f, .t, .f, .f, .el (W34.cells e768), .f, .f, .f, .f, .f, .a, .f, .f, .t, .f, .f, .el (W34.cells e766), .f, .f, .a, .f, .f, .t, .f, .f, .el (W34.cells e767), .f, .f, .a, .f, .f, .t, .f, .f, .el (W34.cells e768), .f, .f, .f, .t, .t, .t, .t, .t, .t, .t, .t, .t, .t, .t, .t, .t, .t, .t, .t, .t, .t, .t, .t, .t, .ft [⟨0, [3], []⟩, ⟨1, [3], []⟩, ⟨2, [], []⟩, ⟨3, [6], []⟩, ⟨4, [6], []⟩, ⟨5, [6], []⟩, ⟨6, [1], []⟩, ⟨7, [1], []⟩, ⟨8, [], []⟩, ⟨9, [4], []⟩, ⟨10, [4], []⟩, ⟨11, [4], []⟩, ⟨12, [2], []⟩, ⟨13, [2], []⟩, ⟨14, [], []⟩, ⟨15, [5], []⟩, ⟨16, [5], []⟩, ⟨17, [5], []⟩, ⟨18, [], []⟩, ⟨19, [], []⟩, ⟨20, [], []⟩, ⟨21, [3], []⟩, ⟨22, [3], []⟩, ⟨23, [], []⟩, ⟨24, [6], []⟩, ⟨25, [6], []⟩, ⟨26, [6], []⟩, ⟨27, [1], []⟩, ⟨28, [1], []⟩, ⟨29, [], []⟩, ⟨30, [4], []⟩, ⟨31, [4], []⟩, ⟨32, [4], []⟩, ⟨33, [2], []⟩, ⟨34, [2], []⟩, ⟨35, [], []⟩, ⟨36, [5], []⟩, ⟨37, [5], []⟩, ⟨38, [5], []⟩, ⟨39, [], []⟩, ⟨40, [], []⟩, ⟨41, [], []⟩, ⟨42, [], []⟩, ⟨43, [3], []⟩, ⟨44, [3], []⟩, ⟨45, [], []⟩, ⟨46, [6], []⟩, ⟨47, [6], []⟩, ⟨48, [6], []⟩, ⟨49, [1], []⟩, ⟨50, [1], []⟩, ⟨51, [], []⟩, ⟨52, [4], []⟩, ⟨53, [4], []⟩, ⟨54, [4], []⟩, ⟨55, [2], []⟩, ⟨56, [2], []⟩, ⟨57, [], []⟩, ⟨58, [5], []⟩, ⟨59, [5], []⟩, ⟨60, [5], []⟩, ⟨61, [], []⟩, ⟨62, [], []⟩, ⟨63, [], []⟩, ⟨64, [], []⟩, ⟨65, [], []⟩, ⟨66, [], []⟩, ⟨67, [], []⟩, ⟨68, [], []⟩, ⟨69, [], []⟩, ⟨70, [], []⟩, ⟨71, [], []⟩, ⟨72, [], []⟩, ⟨73, [], []⟩, ⟨74, [], []⟩, ⟨75, [], []⟩, ⟨76, [], []⟩, ⟨77, [], []⟩, ⟨78, [], []⟩, ⟨79, [], []⟩, ⟨80, [], []⟩, ⟨81, [], []⟩, ⟨82, [], []⟩, ⟨83, [], []⟩, ⟨84, [], []⟩, ⟨85, [], []⟩], .a]) (notIn []) (by kernel_rfl) rfl (And.intro (decide_eq_true h0) (And.intro (decide_eq_true h1) (And.intro (W34.dec_ok h2) (And.intro (decide_eq_true h3) (And.intro (W34.dec_ok h4) (And.intro (decide_eq_true h5) (And.intro (W34.dec_ok h6) (And.intro (decide_eq_false h7) (And.intro (decide_eq_false h7) (And.intro (decide_eq_false h7) (And.intro (decide_eq_false h7) (And.intro (decide_eq_true h1) (And.intro (decide_eq_false h7) (And.intro (decide_eq_false h7) (And.intro (W34.dec_ok h2) (And.intro (decide_eq_false h7) (And.intro (decide_eq_false h7) (And.intro (decide_eq_false h7) (And.intro (decide_eq_false h7) (And.intro (decide_eq_true h3) (And.intro (decide_eq_false h7) (And.intro (decide_eq_false h7) (And.intro (W34.dec_ok h4) (And.intro (decide_eq_false h7) (And.intro (decide_eq_false h7) (And.intro (decide_eq_false h7) (And.intro (decide_eq_false h7) (And.intro (decide_eq_true h5) (And.intro (decide_eq_false h7) (And.intro (decide_eq_false h7) (And.intro (W34.dec_ok h6) (And.intro (decide_eq_false h7) (And.intro (decide_eq_false h7) (And.intro (decide_eq_false h7) (And.intro (decide_eq_false h8) (And.intro (decide_eq_false h8) (And.intro (decide_eq_false h8) (And.intro (decide_eq_false h8) (And.intro (decide_eq_true h1) (And.intro (decide_eq_false h8) (And.intro (decide_eq_false h8) (And.intro (W34.dec_ok h2) (And.intro (decide_eq_false h8) (And.intro (decide_eq_false h8) (And.intro (decide_eq_false h8) (And.intro (decide_eq_false h8) (And.intro (decide_eq_true h3) (And.intro (decide_eq_false h8) (And.intro (decide_eq_false h8) (And.intro (W34.dec_ok h4) (And.intro (decide_eq_false h8) (And.intro (decide_eq_false h8) (And.intro (decide_eq_false h8) (And.intro (decide_eq_false h8) (And.intro (decide_eq_true h5) (And.intro (decide_eq_false h8) (And.intro (decide_eq_false h8) (And.intro (W34.dec_ok h6) (And.intro (decide_eq_false h8) (And.intro (decide_eq_false h8) (And.intro (decide_eq_false h8) (And.intro (decide_eq_true h9) (And.intro (decide_eq_true h9) (And.intro (decide_eq_true h9) (And.intro (decide_eq_true h9) (And.intro (decide_eq_true h9) (And.intro (decide_eq_true h9) (And.intro (decide_eq_true h9) (And.intro (decide_eq_true h9) (And.intro (decide_eq_true h9) (And.intro (decide_eq_true h9) (And.intro (decide_eq_true h9) (And.intro (decide_eq_true h9) (And.intro (decide_eq_true h9) (And.intro (decide_eq_true h9) (And.intro (decide_eq_true h9) (And.intro (decide_eq_true h9) (And.intro (decide_eq_true h9) (And.intro (decide_eq_true h9) (And.intro (decide_eq_true h9) (And.intro (decide_eq_true h9) (And.intro (decide_eq_true h9) (And.intro (Eq.refl ([⟨0, [3], []⟩, ⟨1, [3], []⟩, ⟨2, [], []⟩, ⟨3, [6], []⟩, ⟨4, [6], []⟩, ⟨5, [6], []⟩, ⟨6, [1], []⟩, ⟨7, [1], []⟩, ⟨8, [], []⟩, ⟨9, [4], []⟩, ⟨10, [4], []⟩, ⟨11, [4], []⟩, ⟨12, [2], []⟩, ⟨13, [2], []⟩, ⟨14, [], []⟩, ⟨15, [5], []⟩, ⟨16, [5], []⟩, ⟨17, [5], []⟩, ⟨18, [], []⟩, ⟨19, [], []⟩, ⟨20, [], []⟩, ⟨21, [3], []⟩, ⟨22, [3], []⟩, ⟨23, [], []⟩, ⟨24, [6], []⟩, ⟨25, [6], []⟩, ⟨26, [6], []⟩, ⟨27, [1], []⟩, ⟨28, [1], []⟩, ⟨29, [], []⟩, ⟨30, [4], []⟩, ⟨31, [4], []⟩, ⟨32, [4], []⟩, ⟨33, [2], []⟩, ⟨34, [2], []⟩, ⟨35, [], []⟩, ⟨36, [5], []⟩, ⟨37, [5], []⟩, ⟨38, [5], []⟩, ⟨39, [], []⟩, ⟨40, [], []⟩, ⟨41, [], []⟩, ⟨42, [], []⟩, ⟨43, [3], []⟩, ⟨44, [3], []⟩, ⟨45, [], []⟩, ⟨46, [6], []⟩, ⟨47, [6], []⟩, ⟨48, [6], []⟩, ⟨49, [1], []⟩, ⟨50, [1], []⟩, ⟨51, [], []⟩, ⟨52, [4], []⟩, ⟨53, [4], []⟩, ⟨54, [4], []⟩, ⟨55, [2], []⟩, ⟨56, [2], []⟩, ⟨57, [], []⟩, ⟨58, [5], []⟩, ⟨59, [5], []⟩, ⟨60, [5], []⟩, ⟨61, [], []⟩, ⟨62, [], []⟩, ⟨63, [], []⟩, ⟨64, [], []⟩, ⟨65, [], []⟩, ⟨66, [], []⟩, ⟨67, [], []⟩, ⟨68, [], []⟩, ⟨69, [], []⟩, ⟨70, [], []⟩, ⟨71, [], []⟩, ⟨72, [], []⟩, ⟨73, [], []⟩, ⟨74, [], []⟩, ⟨75, [], []⟩, ⟨76, [], []⟩, ⟨77, [], []⟩, ⟨78, [], []⟩, ⟨79, [], []⟩, ⟨80, [], []⟩, ⟨81, [], []⟩, ⟨82, [], []⟩, ⟨83, [], []⟩, ⟨84, [], []⟩, ⟨85, [], []⟩] : List Foot)) True.intro))))))))))))))))))))))))))))))))))))))))))))))))))))))))))))))))))))))))))))))))))) n, z420, z421, z423, z422, decide (z423 < z422), k431, 0 + Int.toNat z423, e766.c0, k427, e767.c0, k429, e768.c0, if e768.c0 < e767.c0 then e768.c0 else e767.c0, decide (e766.c0 < if e768.c0 < e767.c0 then e768.c0 else e767.c0), if e768.c0 > e767.c0 then e768.c0 else e767.c0, decide (e766.c0 > if e768.c0 > e767.c0 then e768.c0 else e767.c0), e766.c1, e767.c1, e768.c1, if e768.c1 < e767.c1 then e768.c1 else e767.c1, decide (e766.c1 < if e768.c1 < e767.c1 then e768.c1 else e767.c1), l424, z425, b426, b428, b430, l432, l433, l434, rfl⟩
                · skip
                  rcases ite_eq h with ⟨h10, h⟩ | ⟨h10, h⟩
                  · skip
                    cases h
                    exact ⟨_, round_out (gs := [.t, .a, .t, .el (W34.cells e766), .a, .t, .el (W34.cells e767), .a, .t, .el (W34.cells e768), .f, .f, .a, .f, .f, .t, .f, .f, .el (W34.cells e766), .f, .f, .a, .f, .f, .t, .f, .f, .el (W34.cells e767), .f, .f, .a, .f, .f, .t, .f, .f, .el (W34.cells e768), .f, .f, .f, .f, .f, .a, .f, .f, .t, .f, .f, .el (W34.cells e766), .f, .f, .a, .f, .f, .t, .f, .f, .el (W34.cells e767), .f, .f, .a, .f, .f, .t, .f, .f, .el (W34.cells e768), .f, .f, .f, .f, .f, .a, .f, .f, .t, .f, .f, .el (W34.cells e766), .f, .f, .a, .f, .f, .t, .f, .f, .el (W34.cells e767), .f, .f, .a, .f, .f, .t, .f, .f, .el (W34.cells e768), .f, .f, .f, .ft [⟨0, [3], []⟩, ⟨1, [3], []⟩, ⟨2, [], []⟩, ⟨3, [6], []⟩, ⟨4, [6], []⟩, ⟨5, [6], []⟩, ⟨6, [1], []⟩, ⟨7, [1], []⟩, ⟨8, [], []⟩, ⟨9, [4], []⟩, ⟨10, [4], []⟩, ⟨11, [4], []⟩, ⟨12, [2], []⟩, ⟨13, [2], []⟩, ⟨14, [], []⟩, ⟨15, [5], []⟩, ⟨16, [5], []⟩, ⟨17, [5], []⟩, ⟨18, [], []⟩, ⟨19, [], []⟩, ⟨20, [], []⟩, ⟨21, [3], []⟩, ⟨22, [3], []⟩, ⟨23, [], []⟩, ⟨24, [6], []⟩, ⟨25, [6], []⟩, ⟨26, [6], []⟩, ⟨27, [1], []⟩, ⟨28, [1], []⟩, ⟨29, [], []⟩, ⟨30, [4], []⟩, ⟨31, [4], []⟩, ⟨32, [4], []⟩, ⟨33, [2], []⟩, ⟨34, [2], []⟩, ⟨35, [], []⟩, ⟨36, [5], []⟩, ⟨37, [5], []⟩, ⟨38, [5], []⟩, ⟨39, [], []⟩, ⟨40, [], []⟩, ⟨41, [], []⟩, ⟨42, [], []⟩, ⟨43, [3], []⟩, ⟨44, [3], []⟩, ⟨45, [], []⟩, ⟨46, [6], []⟩, ⟨47, [6], []⟩, ⟨48, [6], []⟩, ⟨49, [1], []⟩, ⟨50, [1], []⟩, ⟨51, [], []⟩, ⟨52, [4], []⟩, ⟨53, [4], []⟩, ⟨54, [4], []⟩, ⟨55, [2], []⟩, ⟨56, [2], []⟩, ⟨57, [], []⟩, ⟨58, [5], []⟩, ⟨59, [5], []⟩, ⟨60, [5], []⟩, ⟨61, [], []⟩, ⟨62, [], []⟩, ⟨63, [], []⟩, ⟨64, [], []⟩, ⟨65, [3], []⟩, ⟨66, [3], []⟩, ⟨67, [], []⟩, ⟨68, [6], []⟩, ⟨69, [6], []⟩, ⟨70, [6], []⟩, ⟨71, [1], []⟩, ⟨72, [1], []⟩, ⟨73, [], []⟩, ⟨74, [4], []⟩, ⟨75, [4], []⟩, ⟨76, [4], []⟩, ⟨77, [2], []⟩, ⟨78, [2], []⟩, ⟨79, [], []⟩, ⟨80, [5], []⟩, ⟨81, [5], []⟩, ⟨82, [5], []⟩, ⟨83, [], []⟩, ⟨84, [], []⟩, ⟨85, [], []⟩], .t]) (notIn []) (by kernel_rfl) rfl (And.intro (decide_eq_true h0) (And.intro (decide_eq_true h1) (And.intro (W34.dec_ok h2) (And.intro (decide_eq_true h3) (And.intro (W34.dec_ok h4) (And.intro (decide_eq_true h5) (And.intro (W34.dec_ok h6) (And.intro (decide_eq_false h7) (And.intro (decide_eq_false h7) (And.intro (decide_eq_false h7) (And.intro (decide_eq_false h7) (And.intro (decide_eq_true h1) (And.intro (decide_eq_false h7) (And.intro (decide_eq_false h7) (And.intro (W34.dec_ok h2) (And.intro (decide_eq_false h7) (And.intro (decide_eq_false h7) (And.intro (decide_eq_false h7) (And.intro (decide_eq_false h7) (And.intro (decide_eq_true h3) (And.intro (decide_eq_false h7) (And.intro (decide_eq_false h7) (And.intro (W34.dec_ok h4) (And.intro (decide_eq_false h7) (And.intro (decide_eq_false h7) (And.intro (decide_eq_false h7) (And.intro (decide_eq_false h7) (And.intro (decide_eq_true h5) (And.intro (decide_eq_false h7) (And.intro (decide_eq_false h7) (And.intro (W34.dec_ok h6) (And.intro (decide_eq_false h7) (And.intro (decide_eq_false h7) (And.intro (decide_eq_false h7) (And.intro (decide_eq_false h8) (And.intro (decide_eq_false h8) (And.intro (decide_eq_false h8) (And.intro (decide_eq_false h8) (And.intro (decide_eq_true h1) (And.intro (decide_eq_false h8) (And.intro (decide_eq_false h8) (And.intro (W34.dec_ok h2) (And.intro (decide_eq_false h8) (And.intro (decide_eq_false h8) (And.intro (decide_eq_false h8) (And.intro (decide_eq_false h8) (And.intro (decide_eq_true h3) (And.intro (decide_eq_false h8) (And.intro (decide_eq_false h8) (And.intro (W34.dec_ok h4) (And.intro (decide_eq_false h8) (And.intro (decide_eq_false h8) (And.intro (decide_eq_false h8) (And.intro (decide_eq_false h8) (And.intro (decide_eq_true h5) (And.intro (decide_eq_false h8) (And.intro (decide_eq_false h8) (And.intro (W34.dec_ok h6) (And.intro (decide_eq_false h8) (And.intro (decide_eq_false h8) (And.intro (decide_eq_false h8) (And.intro (decide_eq_false h9) (And.intro (decide_eq_false h9) (And.intro (decide_eq_false h9) (And.intro (decide_eq_false h9) (And.intro (decide_eq_true h1) (And.intro (decide_eq_false h9) (And.intro (decide_eq_false h9) (And.intro (W34.dec_ok h2) (And.intro (decide_eq_false h9) (And.intro (decide_eq_false h9) (And.intro (decide_eq_false h9) (And.intro (decide_eq_false h9) (And.intro (decide_eq_true h3) (And.intro (decide_eq_false h9) (And.intro (decide_eq_false h9) (And.intro (W34.dec_ok h4) (And.intro (decide_eq_false h9) (And.intro (decide_eq_false h9) (And.intro (decide_eq_false h9) (And.intro (decide_eq_false h9) (And.intro (decide_eq_true h5) (And.intro (decide_eq_false h9) (And.intro (decide_eq_false h9) (And.intro (W34.dec_ok h6) (And.intro (decide_eq_false h9) (And.intro (decide_eq_false h9) (And.intro (decide_eq_false h9) (And.intro (Eq.refl ([⟨0, [3], []⟩, ⟨1, [3], []⟩, ⟨2, [], []⟩, ⟨3, [6], []⟩, ⟨4, [6], []⟩, ⟨5, [6], []⟩, ⟨6, [1], []⟩, ⟨7, [1], []⟩, ⟨8, [], []⟩, ⟨9, [4], []⟩, ⟨10, [4], []⟩, ⟨11, [4], []⟩, ⟨12, [2], []⟩, ⟨13, [2], []⟩, ⟨14, [], []⟩, ⟨15, [5], []⟩, ⟨16, [5], []⟩, ⟨17, [5], []⟩, ⟨18, [], []⟩, ⟨19, [], []⟩, ⟨20, [], []⟩, ⟨21, [3], []⟩, ⟨22, [3], []⟩, ⟨23, [], []⟩, ⟨24, [6], []⟩, ⟨25, [6], []⟩, ⟨26, [6], []⟩, ⟨27, [1], []⟩, ⟨28, [1], []⟩, ⟨29, [], []⟩, ⟨30, [4], []⟩, ⟨31, [4], []⟩, ⟨32, [4], []⟩, ⟨33, [2], []⟩, ⟨34, [2], []⟩, ⟨35, [], []⟩, ⟨36, [5], []⟩, ⟨37, [5], []⟩, ⟨38, [5], []⟩, ⟨39, [], []⟩, ⟨40, [], []⟩, ⟨41, [], []⟩, ⟨42, [], []⟩, ⟨43, [3], []⟩, ⟨44, [3], []⟩, ⟨45, [], []⟩, ⟨46, [6], []⟩, ⟨47, [6], []⟩, ⟨48, [6], []⟩, ⟨49, [1], []⟩, ⟨50, [1], []⟩, ⟨51, [], []⟩, ⟨52, [4], []⟩, ⟨53, [4], []⟩, ⟨54, [4], []⟩, ⟨55, [2], []⟩, ⟨56, [2], []⟩, ⟨57, [], []⟩, ⟨58, [5], []⟩, ⟨59, [5], []⟩, ⟨60, [5], []⟩, ⟨61, [], []⟩, ⟨62, [], []⟩, ⟨63, [], []⟩, ⟨64, [], []⟩, ⟨65, [3], []⟩, ⟨66, [3], []⟩, ⟨67, [], []⟩, ⟨68, [6], []⟩, ⟨69, [6], []⟩, ⟨70, [6], []⟩, ⟨71, [1], []⟩, ⟨72, [1], []⟩, ⟨73, [], []⟩, ⟨74, [4], []⟩, ⟨75, [4], []⟩, ⟨76, [4], []⟩, ⟨77, [2], []⟩, ⟨78, [2], []⟩, ⟨79, [], []⟩, ⟨80, [5], []⟩, ⟨81, [5], []⟩, ⟨82, [5], []⟩, ⟨83, [], []⟩, ⟨84, [], []⟩, ⟨85, [], []⟩] : List Foot)) (And.intro (decide_eq_true h10) True.intro)))))))))))))))))))))))))))))))))))))))))))))))))))))))))))))))))))))))))))))))))))))))))) n, z420, z421, z423, z422, decide (z423 < z422), k431, 0 + Int.toNat z423, e766.c0, k427, e767.c0, k429, e768.c0, if e768.c0 < e767.c0 then e768.c0 else e767.c0, decide (e766.c0 < if e768.c0 < e767.c0 then e768.c0 else e767.c0), if e768.c0 > e767.c0 then e768.c0 else e767.c0, decide (e766.c0 > if e768.c0 > e767.c0 then e768.c0 else e767.c0), e766.c1, e767.c1, e768.c1, if e768.c1 < e767.c1 then e768.c1 else e767.c1, decide (e766.c1 < if e768.c1 < e767.c1 then e768.c1 else e767.c1), if e768.c1 > e767.c1 then e768.c1 else e767.c1, decide (e766.c1 > if e768.c1 > e767.c1 then e768.c1 else e767.c1), l424, z425, b426, b428, b430, l432, l433, l434, rfl⟩
                  · skip
                    obtain ⟨st, hs, hr⟩ := L3_0_ok m n (z420) (z421) (z422) (w64 (z423 + 1)) (l424) (z425) (b426) (k427) (b428) (k429) (b430) (k431) (l432) (l433) (l434) r h
                    exact ⟨st, (round_on (gs := [.t, .a, .t, .el (W34.cells e766), .a, .t, .el (W34.cells e767), .a, .t, .el (W34.cells e768), .f, .f, .a, .f, .f, .t, .f, .f, .el (W34.cells e766), .f, .f, .a, .f, .f, .t, .f, .f, .el (W34.cells e767), .f, .f, .a, .f, .f, .t, .f, .f, .el (W34.cells e768), .f, .f, .f, .f, .f, .a, .f, .f, .t, .f, .f, .el (W34.cells e766), .f, .f, .a, .f, .f, .t, .f, .f, .el (W34.cells e767), .f, .f, .a, .f, .f, .t, .f, .f, .el (W34.cells e768), .f, .f, .f, .f, .f, .a, .f, .f, .t, .f, .f, .el (W34.cells e766), .f, .f, .a, .f, .f, .t, .f, .f, .el (W34.cells e767), .f, .f, .a, .f, .f, .t, .f, .f, .el (W34.cells e768), .f, .f, .f, .ft [⟨0, [3], []⟩, ⟨1, [3], []⟩, ⟨2, [], []⟩, ⟨3, [6], []⟩, ⟨4, [6], []⟩, ⟨5, [6], []⟩, ⟨6, [1], []⟩, ⟨7, [1], []⟩, ⟨8, [], []⟩, ⟨9, [4], []⟩, ⟨10, [4], []⟩, ⟨11, [4], []⟩, ⟨12, [2], []⟩, ⟨13, [2], []⟩, ⟨14, [], []⟩, ⟨15, [5], []⟩, ⟨16, [5], []⟩, ⟨17, [5], []⟩, ⟨18, [], []⟩, ⟨19, [], []⟩, ⟨20, [], []⟩, ⟨21, [3], []⟩, ⟨22, [3], []⟩, ⟨23, [], []⟩, ⟨24, [6], []⟩, ⟨25, [6], []⟩, ⟨26, [6], []⟩, ⟨27, [1], []⟩, ⟨28, [1], []⟩, ⟨29, [], []⟩, ⟨30, [4], []⟩, ⟨31, [4], []⟩, ⟨32, [4], []⟩, ⟨33, [2], []⟩, ⟨34, [2], []⟩, ⟨35, [], []⟩, ⟨36, [5], []⟩, ⟨37, [5], []⟩, ⟨38, [5], []⟩, ⟨39, [], []⟩, ⟨40, [], []⟩, ⟨41, [], []⟩, ⟨42, [], []⟩, ⟨43, [3], []⟩, ⟨44, [3], []⟩, ⟨45, [], []⟩, ⟨46, [6], []⟩, ⟨47, [6], []⟩, ⟨48, [6], []⟩, ⟨49, [1], []⟩, ⟨50, [1], []⟩, ⟨51, [], []⟩, ⟨52, [4], []⟩, ⟨53, [4], []⟩, ⟨54, [4], []⟩, ⟨55, [2], []⟩, ⟨56, [2], []⟩, ⟨57, [], []⟩, ⟨58, [5], []⟩, ⟨59, [5], []⟩, ⟨60, [5], []⟩, ⟨61, [], []⟩, ⟨62, [], []⟩, ⟨63, [], []⟩, ⟨64, [], []⟩, ⟨65, [3], []⟩, ⟨66, [3], []⟩, ⟨67, [], []⟩, ⟨68, [6], []⟩, ⟨69, [6], []⟩, ⟨70, [6], []⟩, ⟨71, [1], []⟩, ⟨72, [1], []⟩, ⟨73, [], []⟩, ⟨74, [4], []⟩, ⟨75, [4], []⟩, ⟨76, [4], []⟩, ⟨77, [2], []⟩, ⟨78, [2], []⟩, ⟨79, [], []⟩, ⟨80, [5], []⟩, ⟨81, [5], []⟩, ⟨82, [5], []⟩, ⟨83, [], []⟩, ⟨84, [], []⟩, ⟨85, [], []⟩], .f]) (notIn []) (by kernel_rfl) (And.intro (decide_eq_true h0) (And.intro (decide_eq_true h1) (And.intro (W34.dec_ok h2) (And.intro (decide_eq_true h3) (And.intro (W34.dec_ok h4) (And.intro (decide_eq_true h5) (And.intro (W34.dec_ok h6) (And.intro (decide_eq_false h7) (And.intro (decide_eq_false h7) (And.intro (decide_eq_false h7) (And.intro (decide_eq_false h7) (And.intro (decide_eq_true h1) (And.intro (decide_eq_false h7) (And.intro (decide_eq_false h7) (And.intro (W34.dec_ok h2) (And.intro (decide_eq_false h7) (And.intro (decide_eq_false h7) (And.intro (decide_eq_false h7) (And.intro (decide_eq_false h7) (And.intro (decide_eq_true h3) (And.intro (decide_eq_false h7) (And.intro (decide_eq_false h7) (And.intro (W34.dec_ok h4) (And.intro (decide_eq_false h7) (And.intro (decide_eq_false h7) (And.intro (decide_eq_false h7) (And.intro (decide_eq_false h7) (And.intro (decide_eq_true h5) (And.intro (decide_eq_false h7) (And.intro (decide_eq_false h7) (And.intro (W34.dec_ok h6) (And.intro (decide_eq_false h7) (And.intro (decide_eq_false h7) (And.intro (decide_eq_false h7) (And.intro (decide_eq_false h8) (And.intro (decide_eq_false h8) (And.intro (decide_eq_false h8) (And.intro (decide_eq_false h8) (And.intro (decide_eq_true h1) (And.intro (decide_eq_false h8) (And.intro (decide_eq_false h8) (And.intro (W34.dec_ok h2) (And.intro (decide_eq_false h8) (And.intro (decide_eq_false h8) (And.intro (decide_eq_false h8) (And.intro (decide_eq_false h8) (And.intro (decide_eq_true h3) (And.intro (decide_eq_false h8) (And.intro (decide_eq_false h8) (And.intro (W34.dec_ok h4) (And.intro (decide_eq_false h8) (And.intro (decide_eq_false h8) (And.intro (decide_eq_false h8) (And.intro (decide_eq_false h8) (And.intro (decide_eq_true h5) (And.intro (decide_eq_false h8) (And.intro (decide_eq_false h8) (And.intro (W34.dec_ok h6) (And.intro (decide_eq_false h8) (And.intro (decide_eq_false h8) (And.intro (decide_eq_false h8) (And.intro (decide_eq_false h9) (And.intro (decide_eq_false h9) (And.intro (decide_eq_false h9) (And.intro (decide_eq_false h9) (And.intro (decide_eq_true h1) (And.intro (decide_eq_false h9) (And.intro (decide_eq_false h9) (And.intro (W34.dec_ok h2) (And.intro (decide_eq_false h9) (And.intro (decide_eq_false h9) (And.intro (decide_eq_false h9) (And.intro (decide_eq_false h9) (And.intro (decide_eq_true h3) (And.intro (decide_eq_false h9) (And.intro (decide_eq_false h9) (And.intro (W34.dec_ok h4) (And.intro (decide_eq_false h9) (And.intro (decide_eq_false h9) (And.intro (decide_eq_false h9) (And.intro (decide_eq_false h9) (And.intro (decide_eq_true h5) (And.intro (decide_eq_false h9) (And.intro (decide_eq_false h9) (And.intro (W34.dec_ok h6) (And.intro (decide_eq_false h9) (And.intro (decide_eq_false h9) (And.intro (decide_eq_false h9) (And.intro (Eq.refl ([⟨0, [3], []⟩, ⟨1, [3], []⟩, ⟨2, [], []⟩, ⟨3, [6], []⟩, ⟨4, [6], []⟩, ⟨5, [6], []⟩, ⟨6, [1], []⟩, ⟨7, [1], []⟩, ⟨8, [], []⟩, ⟨9, [4], []⟩, ⟨10, [4], []⟩, ⟨11, [4], []⟩, ⟨12, [2], []⟩, ⟨13, [2], []⟩, ⟨14, [], []⟩, ⟨15, [5], []⟩, ⟨16, [5], []⟩, ⟨17, [5], []⟩, ⟨18, [], []⟩, ⟨19, [], []⟩, ⟨20, [], []⟩, ⟨21, [3], []⟩, ⟨22, [3], []⟩, ⟨23, [], []⟩, ⟨24, [6], []⟩, ⟨25, [6], []⟩, ⟨26, [6], []⟩, ⟨27, [1], []⟩, ⟨28, [1], []⟩, ⟨29, [], []⟩, ⟨30, [4], []⟩, ⟨31, [4], []⟩, ⟨32, [4], []⟩, ⟨33, [2], []⟩, ⟨34, [2], []⟩, ⟨35, [], []⟩, ⟨36, [5], []⟩, ⟨37, [5], []⟩, ⟨38, [5], []⟩, ⟨39, [], []⟩, ⟨40, [], []⟩, ⟨41, [], []⟩, ⟨42, [], []⟩, ⟨43, [3], []⟩, ⟨44, [3], []⟩, ⟨45, [], []⟩, ⟨46, [6], []⟩, ⟨47, [6], []⟩, ⟨48, [6], []⟩, ⟨49, [1], []⟩, ⟨50, [1], []⟩, ⟨51, [], []⟩, ⟨52, [4], []⟩, ⟨53, [4], []⟩, ⟨54, [4], []⟩, ⟨55, [2], []⟩, ⟨56, [2], []⟩, ⟨57, [], []⟩, ⟨58, [5], []⟩, ⟨59, [5], []⟩, ⟨60, [5], []⟩, ⟨61, [], []⟩, ⟨62, [], []⟩, ⟨63, [], []⟩, ⟨64, [], []⟩, ⟨65, [3], []⟩, ⟨66, [3], []⟩, ⟨67, [], []⟩, ⟨68, [6], []⟩, ⟨69, [6], []⟩, ⟨70, [6], []⟩, ⟨71, [1], []⟩, ⟨72, [1], []⟩, ⟨73, [], []⟩, ⟨74, [4], []⟩, ⟨75, [4], []⟩, ⟨76, [4], []⟩, ⟨77, [2], []⟩, ⟨78, [2], []⟩, ⟨79, [], []⟩, ⟨80, [5], []⟩, ⟨81, [5], []⟩, ⟨82, [5], []⟩, ⟨83, [], []⟩, ⟨84, [], []⟩, ⟨85, [], []⟩] : List Foot)) (And.intro (decide_eq_false h10) True.intro)))))))))))))))))))))))))))))))))))))))))))))))))))))))))))))))))))))))))))))))))))))))))) n).trans hs, hr⟩
          · skip
            cases h
        · skip
          cases h
      · skip
        cases h
    · skip
      cases h
      exact ⟨_, round_out (gs := [.f]) (notIn []) (by kernel_rfl) rfl (And.intro (decide_eq_false h0) True.intro) n, z422, z423, decide (z423 < z422), rfl⟩
inductive A3 where
  | a0 (b1028 : Bool)
@[reducible] def A3.out : A3 → V × Store
  | .a0 b1028 => (vb b1028, [])
def F3 (l0 : List (List V)) (l1 : List (List V)) (z2 : Int) : Option A3 :=
  (F15 (5) (l0) (0)).bind fun r => match r with
  | .a0 z749 l750 z751 =>
   (F16 (w64 (1 + z749)) (true) (l750) (z751)).bind fun r => match r with
   | .a0 b752 k753 l754 z755 l756 =>
    (F16 (w64 (1 + z749)) (true) (l1) (0)).bind fun r => match r with
    | .a0 b757 k758 l759 z760 l761 =>
     (F17 (z2) (0) (65536)).bind fun r => match r with
     | .a0 z762 =>
      if 0 + k753 ≤ List.length l756 then
       if 0 + k758 ≤ List.length l761 then
        (F18 (b752) (List.take k753 l756) (b757) (List.take k758 l761) (z762)).bind fun r => match r with
        | .a0 b763 k764 l765 =>
         if ((↑k764 : Int) != (↑k753 : Int)) = true then
          none -- false
         else
          if (!b763) = true then
           none -- false
          else
           (L3_0 100000 (w64 (1 + z749)) (z762) ((↑k764 : Int)) (0) (l759) (z760) (b752) (k753) (b757) (k758) (b763) (k764) (l756) (l761) (l765)).bind fun r => match r with
           | .e0 =>
            none -- false
           | .e1 =>
            none -- false
           | .e2 =>
            none -- false
           | .e3 =>
            none -- false
           | .e4 z997 z998 l1002 z1003 b1004 k1005 b1006 k1007 b1008 k1009 l1010 l1011 l1012 =>
            if 0 + k1009 ≤ List.length l1012 then
             (F19 (b1008) (List.take k1009 l1012)).bind fun r => match r with
             | .a0 b1013 =>
              if (b1013) = true then
               (F16 (w64 (z997 + 1)) (true) (l1002) (z1003)).bind fun r => match r with
               | .a0 b1014 k1015 l1016 z1017 l1018 =>
                if 0 + k1005 ≤ List.length l1010 then
                 if 0 + k1015 ≤ List.length l1018 then
                  (F18 (b1004) (List.take k1005 l1010) (b1014) (List.take k1015 l1018) (z998)).bind fun r => match r with
                  | .a0 b1019 k1020 l1021 =>
                   if 0 + k1020 ≤ List.length l1021 then
                    (F20 (b1019) (List.take k1020 l1021) (b1004) (List.take k1005 l1010)).bind fun r => match r with
                    | .a0 b1022 =>
                     if (b1022) = true then
                      if 0 + k1007 ≤ List.length l1011 then
                       (F18 (b1004) (List.take k1005 l1010) (b1006) (List.take k1007 l1011) (65536)).bind fun r => match r with
                       | .a0 b1023 k1024 l1025 =>
                        if 0 + k1024 ≤ List.length l1025 then
                         (F20 (b1023) (List.take k1024 l1025) (b1006) (List.take k1007 l1011)).bind fun r => match r with
                         | .a0 b1026 =>
                          if (b1026) = true then
                           (F21).bind fun r => match r with
                           | .a0 b1027 =>
                            some (A3.a0 (b1027))
                          else
                           none -- false
                        else
                         none -- none
                      else
                       none -- none
                     else
                      none -- false
                   else
                    none -- none
                 else
                  none -- none
                else
                 none -- none
              else
               none -- false
            else
             none -- none
       else
        none -- none
      else
       none -- none
theorem F3_ok (m : Nat) (l0 : List (List V)) (l1 : List (List V)) (z2 : Int) (r : A3) (h : F3 l0 l1 z2 = some r) : call Try.prog X O0 100000 (m + 7) 3 ([V.list 1 l0, V.list 1 l1, i64 z2]) ([]) = some r.out := by
  unfold F3 at h
  obtain ⟨r0, h0, h⟩ := Option.bind_eq_some_iff.mp h
  have h0 := F15_ok (m + 4) (5) (l0) (0) r0 h0
  cases r0 with
  | a0 z749 l750 z751 =>
    obtain ⟨r1, h1, h⟩ := Option.bind_eq_some_iff.mp h
    have h1 := F16_ok (m + 1) (w64 (1 + z749)) (true) (l750) (z751) r1 h1
    cases r1 with
    | a0 b752 k753 l754 z755 l756 =>
      obtain ⟨r2, h2, h⟩ := Option.bind_eq_some_iff.mp h
      have h2 := F16_ok (m + 1) (w64 (1 + z749)) (true) (l1) (0) r2 h2
      cases r2 with
      | a0 b757 k758 l759 z760 l761 =>
        obtain ⟨r3, h3, h⟩ := Option.bind_eq_some_iff.mp h
        have h3 := F17_ok (m + 5) (z2) (0) (65536) r3 h3
        cases r3 with
        | a0 z762 =>
          rcases ite_eq h with ⟨h4, h⟩ | ⟨h4, h⟩
          · skip
            rcases ite_eq h with ⟨h5, h⟩ | ⟨h5, h⟩
            · skip
              obtain ⟨r6, h6, h⟩ := Option.bind_eq_some_iff.mp h
              have h6 := F18_ok (m + 1) (b752) (List.take k753 l756) (b757) (List.take k758 l761) (z762) r6 h6
              cases r6 with
              | a0 b763 k764 l765 =>
                rcases ite_eq h with ⟨h7, h⟩ | ⟨h7, h⟩
                · skip
                  cases h
                · skip
                  rcases ite_eq h with ⟨h8, h⟩ | ⟨h8, h⟩
                  · skip
                    cases h
                  · skip
                    obtain ⟨r9, h9, h⟩ := Option.bind_eq_some_iff.mp h
                    obtain ⟨st9, h9, hr9⟩ := L3_0_ok m 100000 (w64 (1 + z749)) (z762) ((↑k764 : Int)) (0) (l759) (z760) (b752) (k753) (b757) (k758) (b763) (k764) (l756) (l761) (l765) r9 h9
                    have h9 : loopRun Try.prog X (call Try.prog X O0 100000 (m + 6)) 3 (0) 100000 B3 0 ({ T := V.list 1 l0 :: V.list 1 l1 :: i64 z2 :: U :: U :: U :: vb false :: V.ptr 0 0 0 :: V.ptr 1 0 0 :: i64 (w64 (1 + z749)) :: V.ptr 4 0 0 :: V.ptr 5 0 0 :: i64 z762 :: V.ptr 7 0 0 :: U :: V.list 1 l0 :: V.agg [V.list 1 l0, i64 0] :: V.ptr 0 0 0 :: V.list 1 l1 :: V.agg [V.list 1 l1, i64 0] :: V.ptr 1 0 0 :: V.ptr 0 0 0 :: i64 z749 :: i64 (w64 (1 + z749)) :: V.ptr 0 0 0 :: i64 (w64 (1 + z749)) :: V.agg [vb b752, V.hs 2 0 k753] :: V.ptr 1 0 0 :: i64 (w64 (1 + z749)) :: V.agg [vb b757, V.hs 3 0 k758] :: i64 z2 :: i64 z762 :: V.agg [vb b752, V.hs 2 0 k753] :: V.agg [vb b757, V.hs 3 0 k758] :: i64 z762 :: V.agg [vb b763, V.hs 6 0 k764] :: V.ptr 7 0 1 :: V.hs 6 0 k764 :: i64 (↑k764 : Int) :: V.ptr 4 0 1 :: V.hs 2 0 k753 :: i64 (↑k753 : Int) :: vb ((↑k764 : Int) != (↑k753 : Int)) :: vb ((↑k764 : Int) != (↑k753 : Int)) :: V.ptr 7 0 0 :: vb b763 :: (vb !b763) :: (vb !b763) :: V.ptr 7 0 1 :: V.hs 6 0 k764 :: i64 (↑k764 : Int) :: i64 0 :: un 112 [], σ := [Ob.cells true false 2 [[V.list 1 l754, i64 z755]], Ob.cells true false 2 [[V.list 1 l759, i64 z760]], Ob.cells false true 2 l756, Ob.cells false true 2 l761, Ob.cells true false 2 [[vb b752, V.hs 2 0 k753]], Ob.cells true false 2 [[vb b757, V.hs 3 0 k758]], Ob.cells true true 2 l765, Ob.cells true false 2 [[vb b763, V.hs 6 0 k764]]] }) = some st9 := by
                      rw [loopRun_from, show prep (0) (X.keep 3 0) ({ T := V.list 1 l0 :: V.list 1 l1 :: i64 z2 :: U :: U :: U :: vb false :: V.ptr 0 0 0 :: V.ptr 1 0 0 :: i64 (w64 (1 + z749)) :: V.ptr 4 0 0 :: V.ptr 5 0 0 :: i64 z762 :: V.ptr 7 0 0 :: U :: V.list 1 l0 :: V.agg [V.list 1 l0, i64 0] :: V.ptr 0 0 0 :: V.list 1 l1 :: V.agg [V.list 1 l1, i64 0] :: V.ptr 1 0 0 :: V.ptr 0 0 0 :: i64 z749 :: i64 (w64 (1 + z749)) :: V.ptr 0 0 0 :: i64 (w64 (1 + z749)) :: V.agg [vb b752, V.hs 2 0 k753] :: V.ptr 1 0 0 :: i64 (w64 (1 + z749)) :: V.agg [vb b757, V.hs 3 0 k758] :: i64 z2 :: i64 z762 :: V.agg [vb b752, V.hs 2 0 k753] :: V.agg [vb b757, V.hs 3 0 k758] :: i64 z762 :: V.agg [vb b763, V.hs 6 0 k764] :: V.ptr 7 0 1 :: V.hs 6 0 k764 :: i64 (↑k764 : Int) :: V.ptr 4 0 1 :: V.hs 2 0 k753 :: i64 (↑k753 : Int) :: vb ((↑k764 : Int) != (↑k753 : Int)) :: vb ((↑k764 : Int) != (↑k753 : Int)) :: V.ptr 7 0 0 :: vb b763 :: (vb !b763) :: (vb !b763) :: V.ptr 7 0 1 :: V.hs 6 0 k764 :: i64 (↑k764 : Int) :: i64 0 :: un 112 [], σ := [Ob.cells true false 2 [[V.list 1 l754, i64 z755]], Ob.cells true false 2 [[V.list 1 l759, i64 z760]], Ob.cells false true 2 l756, Ob.cells false true 2 l761, Ob.cells true false 2 [[vb b752, V.hs 2 0 k753]], Ob.cells true false 2 [[vb b757, V.hs 3 0 k758]], Ob.cells true true 2 l765, Ob.cells true false 2 [[vb b763, V.hs 6 0 k764]]] }) = { T := un 8 (V.ptr 0 0 0 :: i64 (w64 (1 + z749)) :: V.ptr 1 0 0 :: V.ptr 2 0 0 :: i64 z762 :: V.ptr 3 0 0 :: un 36 (i64 (↑k764 : Int) :: i64 0 :: un 112 [])), σ := [Ob.cells true false 2 [[V.list 1 l759, i64 z760]], Ob.cells true false 2 [[vb b752, V.hs 4 0 k753]], Ob.cells true false 2 [[vb b757, V.hs 5 0 k758]], Ob.cells true false 2 [[vb b763, V.hs 6 0 k764]], Ob.cells false true 2 l756, Ob.cells false true 2 l761, Ob.cells true true 2 l765] } by kernel_rfl]
                      exact h9
                    cases r9 with
                    | e0 =>
                      obtain ⟨z891, z892, z893, z894, b895, k896, k897, z898, k899, z900, k901, z902, z903, b904, l905, z906, b907, b908, b909, l910, l911, l912, rfl⟩ := hr9
                      cases h
                    | e1 =>
                      obtain ⟨z913, z914, z915, z916, b917, k918, k919, z920, k921, z922, k923, z924, z925, b926, z927, b928, l929, z930, b931, b932, b933, l934, l935, l936, rfl⟩ := hr9
                      cases h
                    | e2 =>
                      obtain ⟨z937, z938, z939, z940, b941, k942, k943, z944, k945, z946, k947, z948, z949, b950, z951, b952, z953, z954, z955, z956, b957, l958, z959, b960, b961, b962, l963, l964, l965, rfl⟩ := hr9
                      cases h
                    | e3 =>
                      obtain ⟨z966, z967, z968, z969, b970, k971, k972, z973, k974, z975, k976, z977, z978, b979, z980, b981, z982, z983, z984, z985, b986, z987, b988, l989, z990, b991, b992, b993, l994, l995, l996, rfl⟩ := hr9
                      cases h
                    | e4 z997 z998 l1002 z1003 b1004 k1005 b1006 k1007 b1008 k1009 l1010 l1011 l1012 =>
                      obtain ⟨z999, z1000, b1001, rfl⟩ := hr9
                      rcases ite_eq h with ⟨h10, h⟩ | ⟨h10, h⟩
                      · skip
                        obtain ⟨r11, h11, h⟩ := Option.bind_eq_some_iff.mp h
                        have h11 := F19_ok (m + 1) (b1008) (List.take k1009 l1012) r11 h11
                        cases r11 with
                        | a0 b1013 =>
                          rcases ite_eq h with ⟨h12, h⟩ | ⟨h12, h⟩
                          · skip
                            obtain ⟨r13, h13, h⟩ := Option.bind_eq_some_iff.mp h
                            have h13 := F16_ok (m + 1) (w64 (z997 + 1)) (true) (l1002) (z1003) r13 h13
                            cases r13 with
                            | a0 b1014 k1015 l1016 z1017 l1018 =>
                              rcases ite_eq h with ⟨h14, h⟩ | ⟨h14, h⟩
                              · skip
                                rcases ite_eq h with ⟨h15, h⟩ | ⟨h15, h⟩
                                · skip
                                  obtain ⟨r16, h16, h⟩ := Option.bind_eq_some_iff.mp h
                                  have h16 := F18_ok (m + 1) (b1004) (List.take k1005 l1010) (b1014) (List.take k1015 l1018) (z998) r16 h16
                                  cases r16 with
                                  | a0 b1019 k1020 l1021 =>
                                    rcases ite_eq h with ⟨h17, h⟩ | ⟨h17, h⟩
                                    · skip
                                      obtain ⟨r18, h18, h⟩ := Option.bind_eq_some_iff.mp h
                                      have h18 := F20_ok (m + 4) (b1019) (List.take k1020 l1021) (b1004) (List.take k1005 l1010) r18 h18
                                      cases r18 with
                                      | a0 b1022 =>
                                        rcases ite_eq h with ⟨h19, h⟩ | ⟨h19, h⟩
                                        · skip
                                          rcases ite_eq h with ⟨h20, h⟩ | ⟨h20, h⟩
                                          · skip
                                            obtain ⟨r21, h21, h⟩ := Option.bind_eq_some_iff.mp h
                                            have h21 := F18_ok (m + 1) (b1004) (List.take k1005 l1010) (b1006) (List.take k1007 l1011) (65536) r21 h21
                                            cases r21 with
                                            | a0 b1023 k1024 l1025 =>
                                              rcases ite_eq h with ⟨h22, h⟩ | ⟨h22, h⟩
                                              · skip
                                                obtain ⟨r23, h23, h⟩ := Option.bind_eq_some_iff.mp h
                                                have h23 := F20_ok (m + 4) (b1023) (List.take k1024 l1025) (b1006) (List.take k1007 l1011) r23 h23
                                                cases r23 with
                                                | a0 b1026 =>
                                                  rcases ite_eq h with ⟨h24, h⟩ | ⟨h24, h⟩
                                                  · skip
                                                    obtain ⟨r25, h25, h⟩ := Option.bind_eq_some_iff.mp h
                                                    have h25 := F21_ok (m + 0) r25 h25
                                                    cases r25 with
                                                    | a0 b1027 =>
                                                      cases h
                                                      exact call_pathL (gs := [.an (i64 z749) [Ob.cells true false 2 [[V.list 1 l750, i64 z751]]], .an (V.agg [vb b752, V.hs 1 0 k753]) [Ob.cells true false 2 [[V.list 1 l754, i64 z755]], Ob.cells true true 2 l756], .an (V.agg [vb b757, V.hs 1 0 k758]) [Ob.cells true false 2 [[V.list 1 l759, i64 z760]], Ob.cells true true 2 l761], .a, .a, .an (i64 z762) [], .a, .a, .t, .t, .an (V.agg [vb b763, V.hs 0 0 k764]) [Ob.cells true true 2 l765], .a, .a, .a, .f, .f, .a, .f, .f, .f, .a, .lp (VX.exit 0) (s3_0_4 z997 z998 z999 z1000 b1001 l1002 z1003 b1004 k1005 b1006 k1007 b1008 k1009 l1010 l1011 l1012), .a, .t, .an (vb b1013) [], .t, .a, .t, .t, .t, .t, .an (V.agg [vb b1014, V.hs 1 0 k1015]) [Ob.cells true false 2 [[V.list 1 l1016, i64 z1017]], Ob.cells true true 2 l1018], .t, .t, .t, .t, .an (V.agg [vb b1019, V.hs 0 0 k1020]) [Ob.cells true true 2 l1021], .t, .a, .t, .t, .t, .an (vb b1022) [], .t, .t, .a, .t, .a, .t, .t, .t, .an (V.agg [vb b1023, V.hs 0 0 k1024]) [Ob.cells true true 2 l1025], .t, .a, .t, .t, .t, .an (vb b1026) [], .t, .t, .an (vb b1027) [], .t, .ft [⟨0, [3], []⟩, ⟨1, [6], []⟩, ⟨2, [], []⟩, ⟨3, [1], []⟩, ⟨4, [], []⟩, ⟨5, [], []⟩, ⟨6, [], []⟩, ⟨7, [0, 7], [0, 7]⟩, ⟨8, [], []⟩, ⟨9, [4, 7, 8], [7, 8]⟩, ⟨10, [1], []⟩, ⟨11, [8, 4], []⟩, ⟨12, [], []⟩, ⟨13, [], []⟩, ⟨14, [1], []⟩, ⟨15, [2], []⟩, ⟨16, [4, 5, 9], [9]⟩, ⟨17, [2], []⟩, ⟨18, [9, 5], []⟩, ⟨19, [], []⟩, ⟨20, [], []⟩, ⟨21, [], []⟩, ⟨22, [], []⟩, ⟨23, [], []⟩]]) (notIn []) rfl rfl (by kernel_rfl) (And.intro h0 (And.intro h1 (And.intro h2 (And.intro h3 (And.intro (decide_eq_true h4) (And.intro (decide_eq_true h5) (And.intro h6 (And.intro (Bool.eq_false_iff.mpr h7) (And.intro (Bool.eq_false_iff.mpr h7) (And.intro (Bool.eq_false_iff.mpr h7) (And.intro (Bool.eq_false_iff.mpr h7) (And.intro (Bool.eq_false_iff.mpr h8) (And.intro h9 (And.intro (decide_eq_true h10) (And.intro h11 (And.intro h12 (And.intro h12 (And.intro h12 (And.intro h12 (And.intro h12 (And.intro h13 (And.intro h12 (And.intro h12 (And.intro (decide_eq_true h14) (And.intro (decide_eq_true h15) (And.intro h16 (And.intro h12 (And.intro h12 (And.intro (decide_eq_true h17) (And.intro (decide_eq_true h14) (And.intro h18 (And.intro h12 (And.intro h19 (And.intro h19 (And.intro h19 (And.intro (decide_eq_true h14) (And.intro (decide_eq_true h20) (And.intro h21 (And.intro h19 (And.intro h19 (And.intro (decide_eq_true h22) (And.intro (decide_eq_true h20) (And.intro h23 (And.intro h19 (And.intro h24 (And.intro h25 (And.intro h24 (And.intro (Eq.refl ([⟨0, [3], []⟩, ⟨1, [6], []⟩, ⟨2, [], []⟩, ⟨3, [1], []⟩, ⟨4, [], []⟩, ⟨5, [], []⟩, ⟨6, [], []⟩, ⟨7, [0, 7], [0, 7]⟩, ⟨8, [], []⟩, ⟨9, [4, 7, 8], [7, 8]⟩, ⟨10, [1], []⟩, ⟨11, [8, 4], []⟩, ⟨12, [], []⟩, ⟨13, [], []⟩, ⟨14, [1], []⟩, ⟨15, [2], []⟩, ⟨16, [4, 5, 9], [9]⟩, ⟨17, [2], []⟩, ⟨18, [9, 5], []⟩, ⟨19, [], []⟩, ⟨20, [], []⟩, ⟨21, [], []⟩, ⟨22, [], []⟩, ⟨23, [], []⟩] : List Foot)) True.intro))))))))))))))))))))))))))))))))))))))))))))))))
                                                  · skip
                                                    cases h
                                              · skip
                                                cases h
                                          · skip
                                            cases h
                                        · skip
                                          cases h
                                    · skip
                                      cases h
                                · skip
                                  cases h
                              · skip
                                cases h
                          · skip
                            cases h
                      · skip
                        cases h
            · skip
              cases h
          · skip
            cases h
end Go.Proofs.Ythohhdcngdmbeaa.H
