/- What the functions compute, and that they do so over the machine of plain values (printed by this session's program wip/vm/Walk.lean). No condition beyond those stated. -/
import Derived.Test.YtojigbcgmneiiaaWk
import Derived.Test.YtojigbcgmneiiaaRowsR3
set_option linter.unusedVariables false
set_option linter.unusedSimpArgs false
namespace Go.Proofs.Ytojigbcgmneiiaa.H
open Go Go.VM
set_option maxRecDepth 100000
/-! ## 50 -/
inductive A50 where
  | a0 (z19 : Int)
@[reducible] def A50.out : A50 → V × Store
  | .a0 z19 => (i64 z19, [])
def F50 (z15 : Int) (z16 : Int) (z17 : Int) : Option A50 :=
  if z15 ≥ z16 then
   if z15 ≤ z17 then
    some (A50.a0 (z15))
   else
    if w64 (w64 (z17 - z16) + 1) = 0 then
     none -- none
    else
     if Int.tmod z15 (w64 (w64 (z17 - z16) + 1)) < 0 then
      some (A50.a0 (w64 (z16 + w64 (w64 (w64 (Int.tmod z15 (w64 (w64 (z17 - z16) + 1)) + z17) - z16) + 1))))
     else
      some (A50.a0 (w64 (z16 + Int.tmod z15 (w64 (w64 (z17 - z16) + 1)))))
  else
   if w64 (w64 (z17 - z16) + 1) = 0 then
    none -- none
   else
    if Int.tmod z15 (w64 (w64 (z17 - z16) + 1)) < 0 then
     some (A50.a0 (w64 (z16 + w64 (w64 (w64 (Int.tmod z15 (w64 (w64 (z17 - z16) + 1)) + z17) - z16) + 1))))
    else
     some (A50.a0 (w64 (z16 + Int.tmod z15 (w64 (w64 (z17 - z16) + 1)))))
theorem F50_ok (m : Nat) (z15 : Int) (z16 : Int) (z17 : Int) (r : A50) (h : F50 z15 z16 z17 = some r) : call Try.prog X O0 18446744073709551616 (m + 1) 50 ([i64 z15, i64 z16, i64 z17]) ([]) = some r.out := by
  unfold F50 at h
  rcases ite_eq h with ⟨h0, h⟩ | ⟨h0, h⟩
  · skip
    rcases ite_eq h with ⟨h1, h⟩ | ⟨h1, h⟩
    · skip
      cases h
      exact call_pathL (gs := [.t, .t, .t, .t, .t]) (notIn []) rfl rfl (by kernel_rfl) (And.intro (decide_eq_true h0) (And.intro (decide_eq_true h0) (And.intro (decide_eq_true h0) (And.intro (decide_eq_true h0) (And.intro (decide_eq_true h1) True.intro)))))
    · skip
      rcases ite_eq h with ⟨h2, h⟩ | ⟨h2, h⟩
      · skip
        cases h
      · skip
        rcases ite_eq h with ⟨h3, h⟩ | ⟨h3, h⟩
        · skip
          cases h
          exact call_pathL (gs := [.t, .t, .t, .t, .f, .f, .t]) (notIn []) rfl rfl (by kernel_rfl) (And.intro (decide_eq_true h0) (And.intro (decide_eq_true h0) (And.intro (decide_eq_true h0) (And.intro (decide_eq_true h0) (And.intro (decide_eq_false h1) (And.intro (decide_eq_false h2) (And.intro (decide_eq_true h3) True.intro)))))))
        · skip
          cases h
          exact call_pathL (gs := [.t, .t, .t, .t, .f, .f, .f]) (notIn []) rfl rfl (by kernel_rfl) (And.intro (decide_eq_true h0) (And.intro (decide_eq_true h0) (And.intro (decide_eq_true h0) (And.intro (decide_eq_true h0) (And.intro (decide_eq_false h1) (And.intro (decide_eq_false h2) (And.intro (decide_eq_false h3) True.intro)))))))
  · skip
    rcases ite_eq h with ⟨h1, h⟩ | ⟨h1, h⟩
    · skip
      cases h
    · skip
      rcases ite_eq h with ⟨h2, h⟩ | ⟨h2, h⟩
      · skip
        cases h
        exact call_pathL (gs := [.f, .f, .f, .f, .a, .f, .t]) (notIn []) rfl rfl (by kernel_rfl) (And.intro (decide_eq_false h0) (And.intro (decide_eq_false h0) (And.intro (decide_eq_false h0) (And.intro (decide_eq_false h0) (And.intro (decide_eq_false h1) (And.intro (decide_eq_true h2) True.intro))))))
      · skip
        cases h
        exact call_pathL (gs := [.f, .f, .f, .f, .a, .f, .f]) (notIn []) rfl rfl (by kernel_rfl) (And.intro (decide_eq_false h0) (And.intro (decide_eq_false h0) (And.intro (decide_eq_false h0) (And.intro (decide_eq_false h0) (And.intro (decide_eq_false h1) (And.intro (decide_eq_false h2) True.intro))))))
/-! ## 28 -/
inductive A28 where
  | a0 (z11 : Int) (l12 : List (List V)) (z13 : Int)
@[reducible] def A28.out : A28 → V × Store
  | .a0 z11 l12 z13 => (i64 z11, [Ob.cells true false 2 [[V.list 1 l12, i64 z13]]])
def F28 (z7 : Int) (l8 : List (List V)) (z9 : Int) : Option A28 :=
  if z9 ≥ (↑(List.length l8) : Int) then
   some (A28.a0 (0) (l8) (z9))
  else
   if 0 ≤ w64 (w64 (z9 + 1) - 1) then
    ((l8[Int.toNat (w64 (w64 (z9 + (1 : Int)) - (1 : Int)))]?).bind W3.dec).bind fun e14 =>
    (F50 (e14.c0) (0) (1073741824)).bind fun r => match r with
    | .a0 z20 =>
     if z7 = 0 then
      none -- none
     else
      some (A28.a0 (Int.tmod z20 z7) (l8) (w64 (z9 + 1)))
   else
    none -- none
theorem F28_ok (m : Nat) (z7 : Int) (l8 : List (List V)) (z9 : Int) (r : A28) (h : F28 z7 l8 z9 = some r) : call Try.prog X O0 18446744073709551616 (m + 2) 28 ([V.ptr 0 0 0, i64 z7]) ([Ob.cells true false 2 [[V.list 1 l8, i64 z9]]]) = some r.out := by
  unfold F28 at h
  rcases ite_eq h with ⟨h0, h⟩ | ⟨h0, h⟩
  · skip
    cases h
    exact call_pathL (gs := [.a, .a, .ft [⟨0, [], []⟩, ⟨1, [0], []⟩, ⟨2, [0], []⟩, ⟨3, [0], []⟩, ⟨4, [], []⟩, ⟨5, [0], []⟩, ⟨6, [0], []⟩, ⟨7, [0], []⟩, ⟨8, [], []⟩, ⟨9, [], []⟩], .t]) (notIn []) rfl rfl (by kernel_rfl) (And.intro (Eq.refl ([⟨0, [], []⟩, ⟨1, [0], []⟩, ⟨2, [0], []⟩, ⟨3, [0], []⟩, ⟨4, [], []⟩, ⟨5, [0], []⟩, ⟨6, [0], []⟩, ⟨7, [0], []⟩, ⟨8, [], []⟩, ⟨9, [], []⟩] : List Foot)) (And.intro (decide_eq_true h0) True.intro))
  · skip
    rcases ite_eq h with ⟨h1, h⟩ | ⟨h1, h⟩
    · skip
      obtain ⟨e14, h2, h⟩ := Option.bind_eq_some_iff.mp h
      obtain ⟨r3, h3, h⟩ := Option.bind_eq_some_iff.mp h
      have h3 := F50_ok (m + 0) (e14.c0) (0) (1073741824) r3 h3
      cases r3 with
      | a0 z20 =>
        rcases ite_eq h with ⟨h4, h⟩ | ⟨h4, h⟩
        · skip
          cases h
        · skip
          cases h
          exact call_pathL (gs := [.a, .a, .ft [⟨0, [], []⟩, ⟨1, [0], []⟩, ⟨2, [0], []⟩, ⟨3, [0], []⟩, ⟨4, [], []⟩, ⟨5, [0], []⟩, ⟨6, [0], []⟩, ⟨7, [0], []⟩, ⟨8, [], []⟩, ⟨9, [], []⟩], .f, .a, .a, .a, .a, .t, .el (W3.cells e14), .an (i64 z20) [], .f, .ft [⟨0, [], []⟩, ⟨1, [0], []⟩, ⟨2, [0], []⟩, ⟨3, [0], []⟩, ⟨4, [], []⟩, ⟨5, [0], []⟩, ⟨6, [0], []⟩, ⟨7, [0], []⟩, ⟨8, [], []⟩, ⟨9, [], []⟩, ⟨10, [], []⟩, ⟨11, [], []⟩, ⟨12, [], []⟩, ⟨13, [], []⟩, ⟨14, [], []⟩]]) (notIn []) rfl rfl (by kernel_rfl) (And.intro (Eq.refl ([⟨0, [], []⟩, ⟨1, [0], []⟩, ⟨2, [0], []⟩, ⟨3, [0], []⟩, ⟨4, [], []⟩, ⟨5, [0], []⟩, ⟨6, [0], []⟩, ⟨7, [0], []⟩, ⟨8, [], []⟩, ⟨9, [], []⟩] : List Foot)) (And.intro (decide_eq_false h0) (And.intro (decide_eq_true h1) (And.intro (W3.dec_ok h2) (And.intro h3 (And.intro (decide_eq_false h4) (And.intro (Eq.refl ([⟨0, [], []⟩, ⟨1, [0], []⟩, ⟨2, [0], []⟩, ⟨3, [0], []⟩, ⟨4, [], []⟩, ⟨5, [0], []⟩, ⟨6, [0], []⟩, ⟨7, [0], []⟩, ⟨8, [], []⟩, ⟨9, [], []⟩, ⟨10, [], []⟩, ⟨11, [], []⟩, ⟨12, [], []⟩, ⟨13, [], []⟩, ⟨14, [], []⟩] : List Foot)) True.intro)))))))
    · skip
      cases h
/-! ## 29 -/
inductive A29 where
  | a0 (z42 : Int) (l43 : List (List V)) (z44 : Int)
@[reducible] def A29.out : A29 → V × Store
  | .a0 z42 l43 z44 => (i64 z42, [Ob.cells true false 2 [[V.list 1 l43, i64 z44]]])
def F29 (z31 : Int) (z32 : Int) (l33 : List (List V)) (z34 : Int) : Option A29 :=
  (F28 (w64 (w64 (z32 - z31) + 1)) (l33) (z34)).bind fun r => match r with
  | .a0 z36 l37 z38 =>
   (F28 (4) (l37) (z38)).bind fun r => match r with
   | .a0 z39 l40 z41 =>
    if (z39 == 0) = true then
     some (A29.a0 (w64 (w64 (w64 (z31 + z36) * 65536) + 32768)) (l40) (z41))
    else
     if (z39 == 1) = true then
      (F28 (65536) (l40) (z41)).bind fun r => match r with
      | .a0 z45 l46 z47 =>
       some (A29.a0 (w64 (w64 (w64 (z31 + z36) * 65536) + z45)) (l46) (z47))
     else
      some (A29.a0 (w64 (w64 (z31 + z36) * 65536)) (l40) (z41))
theorem F29_ok (m : Nat) (z31 : Int) (z32 : Int) (l33 : List (List V)) (z34 : Int) (r : A29) (h : F29 z31 z32 l33 z34 = some r) : call Try.prog X O0 18446744073709551616 (m + 3) 29 ([V.ptr 0 0 0, i64 z31, i64 z32]) ([Ob.cells true false 2 [[V.list 1 l33, i64 z34]]]) = some r.out := by
  unfold F29 at h
  obtain ⟨r0, h0, h⟩ := Option.bind_eq_some_iff.mp h
  have h0 := F28_ok (m + 0) (w64 (w64 (z32 - z31) + 1)) (l33) (z34) r0 h0
  cases r0 with
  | a0 z36 l37 z38 =>
    obtain ⟨r1, h1, h⟩ := Option.bind_eq_some_iff.mp h
    have h1 := F28_ok (m + 0) (4) (l37) (z38) r1 h1
    cases r1 with
    | a0 z39 l40 z41 =>
      rcases ite_eq h with ⟨h2, h⟩ | ⟨h2, h⟩
      · skip
        cases h
        exact call_pathL (gs := [.an (i64 z36) [Ob.cells true false 2 [[V.list 1 l37, i64 z38]]], .an (i64 z39) [Ob.cells true false 2 [[V.list 1 l40, i64 z41]]], .t]) (notIn []) rfl rfl (by kernel_rfl) (And.intro h0 (And.intro h1 (And.intro h2 True.intro)))
      · skip
        rcases ite_eq h with ⟨h3, h⟩ | ⟨h3, h⟩
        · skip
          obtain ⟨r4, h4, h⟩ := Option.bind_eq_some_iff.mp h
          have h4 := F28_ok (m + 0) (65536) (l40) (z41) r4 h4
          cases r4 with
          | a0 z45 l46 z47 =>
            cases h
            exact call_pathL (gs := [.an (i64 z36) [Ob.cells true false 2 [[V.list 1 l37, i64 z38]]], .an (i64 z39) [Ob.cells true false 2 [[V.list 1 l40, i64 z41]]], .f, .t, .an (i64 z45) [Ob.cells true false 2 [[V.list 1 l46, i64 z47]]]]) (notIn []) rfl rfl (by kernel_rfl) (And.intro h0 (And.intro h1 (And.intro (Bool.eq_false_iff.mpr h2) (And.intro h3 (And.intro h4 True.intro)))))
        · skip
          cases h
          exact call_pathL (gs := [.an (i64 z36) [Ob.cells true false 2 [[V.list 1 l37, i64 z38]]], .an (i64 z39) [Ob.cells true false 2 [[V.list 1 l40, i64 z41]]], .f, .f]) (notIn []) rfl rfl (by kernel_rfl) (And.intro h0 (And.intro h1 (And.intro (Bool.eq_false_iff.mpr h2) (And.intro (Bool.eq_false_iff.mpr h3) True.intro))))
/-! ## 11 -/
noncomputable abbrev B11 : Code := (Try.f11.body).getD .skip
inductive R11_0 where
  | e0 (l95 : List (List V)) (z96 : Int) (b97 : Bool) (k98 : Nat) (l99 : List (List V))
@[reducible] def s11_0_0 (z93 : Int) (b94 : Bool) (l95 : List (List V)) (z96 : Int) (b97 : Bool) (k98 : Nat) (l99 : List (List V)) : S := { T := V.ptr 0 0 0 :: U :: V.ptr 1 0 0 :: V.ptr 2 0 0 :: i64 z93 :: un 7 (i64 z93 :: vb b94 :: un 23 []), σ := [Ob.cells true false 2 [[V.list 1 l95, i64 z96]], Ob.cells true false 2 [[vb false, V.hs 3 0 0]], Ob.cells true false 2 [[vb b97, V.hs 4 0 k98]], Ob.cells true true 2 [], Ob.cells true true 2 l99] }
def R11_0.St : R11_0 → VX × S → Prop
  | .e0 l95 z96 b97 k98 l99, p => ∃ z93 : Int, ∃ b94 : Bool, p = (VX.exit 0, s11_0_0 z93 b94 l95 z96 b97 k98 l99)
def L11_0 : Nat → Int → List (List V) → Int → Bool → Nat → List (List V) → Option R11_0
  | 0, _, _, _, _, _, _ => none
  | n + 1, z57, l58, z59, b60, k61, l62 =>
    if z57 > 0 then
     (F29 (-5) (20) (l58) (z59)).bind fun r => match r with
     | .a0 z84 l85 z86 =>
      (F29 (-5) (20) (l85) (z86)).bind fun r => match r with
      | .a0 z87 l88 z89 =>
       if 0 + k61 ≤ List.length l62 ∧ (k61 + 1) * 16 ≤ 140737488355328 ∧ k61 + 1 ≤ 140737488355328 then
        (F28 (6) (l88) (z89)).bind fun r => match r with
        | .a0 z90 l91 z92 =>
         if (z90 == 0) = true then
          if 0 + (k61 + 1) ≤ List.length (List.take k61 l62 ++ [[i64 z84, i64 z87]]) ∧ (k61 + 1 + 1) * 16 ≤ 140737488355328 ∧ k61 + 1 + 1 ≤ 140737488355328 then
           L11_0 n (w64 (z57 - 1)) (l91) (z92) (b60) (k61 + 1 + 1) (List.take (k61 + 1) (List.take k61 l62 ++ [[i64 z84, i64 z87]]) ++ [[i64 z84, i64 z87]])
          else
           none -- none
         else
          L11_0 n (w64 (z57 - 1)) (l91) (z92) (b60) (k61 + 1) (List.take k61 l62 ++ [[i64 z84, i64 z87]])
       else
        none -- none
    else
     some (R11_0.e0 (l58) (z59) (b60) (k61) (l62))
theorem L11_0_ok (m : Nat) : ∀ (n : Nat) (z57 : Int) (l58 : List (List V)) (z59 : Int) (b60 : Bool) (k61 : Nat) (l62 : List (List V)) (r : R11_0), L11_0 n z57 l58 z59 b60 k61 l62 = some r → ∃ st, loopFrom Try.prog X (genO X (call Try.prog X O0 18446744073709551616 (m + 3))) 11 (1) 18446744073709551616 B11 0 n ({ T := V.ptr 0 0 0 :: U :: V.ptr 1 0 0 :: V.ptr 2 0 0 :: i64 z57 :: un 32 [], σ := [Ob.cells true false 2 [[V.list 1 l58, i64 z59]], Ob.cells true false 2 [[vb false, V.hs 3 0 0]], Ob.cells true false 2 [[vb b60, V.hs 4 0 k61]], Ob.cells true true 2 [], Ob.cells true true 2 l62] }) = some st ∧ r.St st
  | 0, _, _, _, _, _, _, r, h => by cases h
  | n + 1, z57, l58, z59, b60, k61, l62, r, h => by
    rw [L11_0] at h
    rcases ite_eq h with ⟨h0, h⟩ | ⟨h0, h⟩
    · skip
      obtain ⟨r1, h1, h⟩ := Option.bind_eq_some_iff.mp h
      have h1 := F29_ok (m + 0) (-5) (20) (l58) (z59) r1 h1
      cases r1 with
      | a0 z84 l85 z86 =>
        obtain ⟨r2, h2, h⟩ := Option.bind_eq_some_iff.mp h
        have h2 := F29_ok (m + 0) (-5) (20) (l85) (z86) r2 h2
        cases r2 with
        | a0 z87 l88 z89 =>
          rcases ite_eq h with ⟨h3, h⟩ | ⟨h3, h⟩
          · skip
            obtain ⟨r4, h4, h⟩ := Option.bind_eq_some_iff.mp h
            have h4 := F28_ok (m + 1) (6) (l88) (z89) r4 h4
            cases r4 with
            | a0 z90 l91 z92 =>
              rcases ite_eq h with ⟨h5, h⟩ | ⟨h5, h⟩
              · skip
                rcases ite_eq h with ⟨h6, h⟩ | ⟨h6, h⟩
                · skip
                  obtain ⟨st, hs, hr⟩ := L11_0_ok m n (w64 (z57 - 1)) (l91) (z92) (b60) (k61 + 1 + 1) (List.take (k61 + 1) (List.take k61 l62 ++ [[i64 z84, i64 z87]]) ++ [[i64 z84, i64 z87]]) r h
                  exact ⟨st, (round_on (gs := [.t, .an (i64 z84) [Ob.cells true false 2 [[V.list 1 l85, i64 z86]]], .an (i64 z87) [Ob.cells true false 2 [[V.list 1 l88, i64 z89]]], .a, .a, .a, .a, .t, .a, .an (i64 z90) [Ob.cells true false 2 [[V.list 1 l91, i64 z92]]], .t, .a, .a, .a, .t, .a]) (notIn []) (by kernel_rfl) (And.intro (decide_eq_true h0) (And.intro h1 (And.intro h2 (And.intro (decide_eq_true h3) (And.intro h4 (And.intro h5 (And.intro (decide_eq_true h6) True.intro))))))) n).trans hs, hr⟩
                · skip
                  cases h
              · skip
                obtain ⟨st, hs, hr⟩ := L11_0_ok m n (w64 (z57 - 1)) (l91) (z92) (b60) (k61 + 1) (List.take k61 l62 ++ [[i64 z84, i64 z87]]) r h
                exact ⟨st, (round_on (gs := [.t, .an (i64 z84) [Ob.cells true false 2 [[V.list 1 l85, i64 z86]]], .an (i64 z87) [Ob.cells true false 2 [[V.list 1 l88, i64 z89]]], .a, .a, .a, .a, .t, .a, .an (i64 z90) [Ob.cells true false 2 [[V.list 1 l91, i64 z92]]], .f]) (notIn []) (by kernel_rfl) (And.intro (decide_eq_true h0) (And.intro h1 (And.intro h2 (And.intro (decide_eq_true h3) (And.intro h4 (And.intro (Bool.eq_false_iff.mpr h5) True.intro)))))) n).trans hs, hr⟩
          · skip
            cases h
    · skip
      cases h
      exact ⟨_, round_out (gs := [.f]) (notIn []) (by kernel_rfl) rfl (And.intro (decide_eq_false h0) True.intro) n, z57, decide (z57 > 0), rfl⟩
inductive A11 where
  | a0 (b107 : Bool) (k108 : Nat) (l109 : List (List V)) (z110 : Int) (l111 : List (List V))
@[reducible] def A11.out : A11 → V × Store
  | .a0 b107 k108 l109 z110 l111 => (V.agg [vb b107, V.hs 1 0 k108], [Ob.cells true false 2 [[V.list 1 l109, i64 z110]], Ob.cells true true 2 l111])
def F11 (l4 : List (List V)) (z5 : Int) : Option A11 :=
  (F28 (2) (l4) (z5)).bind fun r => match r with
  | .a0 z78 l79 z80 =>
   (F28 (7) (l79) (z80)).bind fun r => match r with
   | .a0 z81 l82 z83 =>
    (L11_0 18446744073709551616 (z81) (l82) (z83) (z78 == 0) (0) ([])).bind fun r => match r with
    | .e0 l102 z103 b104 k105 l106 =>
     some (A11.a0 (b104) (k105) (l102) (z103) (l106))
theorem F11_ok (m : Nat) (l4 : List (List V)) (z5 : Int) (r : A11) (h : F11 l4 z5 = some r) : call Try.prog X O0 18446744073709551616 (m + 4) 11 ([V.ptr 0 0 0]) ([Ob.cells true false 2 [[V.list 1 l4, i64 z5]]]) = some r.out := by
  unfold F11 at h
  obtain ⟨r0, h0, h⟩ := Option.bind_eq_some_iff.mp h
  have h0 := F28_ok (m + 1) (2) (l4) (z5) r0 h0
  cases r0 with
  | a0 z78 l79 z80 =>
    obtain ⟨r1, h1, h⟩ := Option.bind_eq_some_iff.mp h
    have h1 := F28_ok (m + 1) (7) (l79) (z80) r1 h1
    cases r1 with
    | a0 z81 l82 z83 =>
      obtain ⟨r2, h2, h⟩ := Option.bind_eq_some_iff.mp h
      obtain ⟨st2, h2, hr2⟩ := L11_0_ok m 18446744073709551616 (z81) (l82) (z83) (z78 == 0) (0) ([]) r2 h2
      have h2 : loopRun Try.prog X (genO X (call Try.prog X O0 18446744073709551616 (m + 3))) 11 (1) 18446744073709551616 B11 0 ({ T := V.ptr 0 0 0 :: U :: V.ptr 1 0 0 :: V.ptr 2 0 0 :: i64 z81 :: U :: V.ptr 0 0 0 :: i64 z78 :: vb (z78 == 0) :: V.agg [vb (z78 == 0), V.nilS] :: V.ptr 0 0 0 :: i64 z81 :: un 25 [], σ := [Ob.cells true false 2 [[V.list 1 l82, i64 z83]], Ob.cells true false 2 [[vb false, V.nilS]], Ob.cells true false 2 [[vb (z78 == 0), V.nilS]]] }) = some st2 := by
        rw [loopRun_from, show pre X 11 (1) 0 ({ T := V.ptr 0 0 0 :: U :: V.ptr 1 0 0 :: V.ptr 2 0 0 :: i64 z81 :: U :: V.ptr 0 0 0 :: i64 z78 :: vb (z78 == 0) :: V.agg [vb (z78 == 0), V.nilS] :: V.ptr 0 0 0 :: i64 z81 :: un 25 [], σ := [Ob.cells true false 2 [[V.list 1 l82, i64 z83]], Ob.cells true false 2 [[vb false, V.nilS]], Ob.cells true false 2 [[vb (z78 == 0), V.nilS]]] }) = { T := V.ptr 0 0 0 :: U :: V.ptr 1 0 0 :: V.ptr 2 0 0 :: i64 z81 :: un 32 [], σ := [Ob.cells true false 2 [[V.list 1 l82, i64 z83]], Ob.cells true false 2 [[vb false, V.hs 3 0 0]], Ob.cells true false 2 [[vb (z78 == 0), V.hs 4 0 0]], Ob.cells true true 2 [], Ob.cells true true 2 []] } by kernel_rfl]
        exact h2
      cases r2 with
      | e0 l102 z103 b104 k105 l106 =>
        obtain ⟨z100, b101, rfl⟩ := hr2
        cases h
        exact call_pathL (gs := [.an (i64 z78) [Ob.cells true false 2 [[V.list 1 l79, i64 z80]]], .a, .an (i64 z81) [Ob.cells true false 2 [[V.list 1 l82, i64 z83]]], .lp (VX.exit 0) (s11_0_0 z100 b101 l102 z103 b104 k105 l106), .a, .a]) (notIn []) rfl rfl (by kernel_rfl) (And.intro h0 (And.intro h1 (And.intro h2 True.intro)))
/-! ## 31 -/
inductive A31 where
  | a0 (l121 : List (List V))
@[reducible] def A31.out : A31 → V × Store
  | .a0 l121 => (V.hs 0 0 (List.length l121), [Ob.cells true true 2 l121])
def F31 (l121 : List (List V)) : Option A31 :=
  if List.length l121 * 16 ≤ 140737488355328 ∧ List.length l121 ≤ 140737488355328 then
   some (A31.a0 (l121))
  else
   none
theorem F31_ok (m : Nat) (l121 : List (List V)) (r : A31) (h : F31 l121 = some r) : call Try.prog X O0 18446744073709551616 (m + 1) 31 ([V.list 2 l121]) ([]) = some r.out := by
  unfold F31 at h
  rcases ite_eq h with ⟨h0, h⟩ | ⟨h0, h⟩
  · skip
    cases h
    exact call_oracle (cloneO_eq rfl l121 h0)
  · skip
    cases h
/-! ## 52 -/
def F52 (z134 : Int) : Bool :=
  if z134 < 65536 then
   true
  else
   decide (z134 > 67108864)
theorem F52_ok (m : Nat) (z134 : Int) (b137 : Bool) (h : F52 z134 = b137) : call Try.prog X O0 18446744073709551616 (m + 1) 52 ([i64 z134]) ([]) = some (vb b137, []) := by
  unfold F52 at h
  rcases ite_eq h with ⟨h0, h⟩ | ⟨h0, h⟩
  · skip
    subst h
    exact call_pathL (gs := [.t, .t, .t]) (notIn []) rfl rfl (by kernel_rfl) (And.intro (decide_eq_true h0) (And.intro (decide_eq_true h0) (And.intro (decide_eq_true h0) True.intro)))
  · skip
    subst h
    exact call_pathL (gs := [.f, .f, .f]) (notIn []) rfl rfl (by kernel_rfl) (And.intro (decide_eq_false h0) (And.intro (decide_eq_false h0) (And.intro (decide_eq_false h0) True.intro)))
/-! ## 74 -/
noncomputable abbrev B74 : Code := (Try.f74.body).getD .skip
inductive R74_0 where
  | e0 (z162 : Int)
  | e1
@[reducible] def s74_0_0 (l161 : List (List V)) (z162 : Int) (z163 : Int) (b164 : Bool) (z165 : Int) (b166 : Bool) : S := { T := [V.list 1 l161, V.fn 52 [], U, U, i64 z162, i64 z162, U, i64 z163, i64 z162, vb b164, i64 z162, V.fn 52 [], V.list 1 l161, i64 z162, V.pp [i64 z165], i64 z165, vb b166, i64 z162, U], σ := [] }
@[reducible] def s74_0_1 (l167 : List (List V)) (z168 : Int) (z169 : Int) (b170 : Bool) : S := { T := V.list 1 l167 :: V.fn 52 [] :: un 5 (i64 z168 :: i64 z169 :: vb b170 :: un 9 []), σ := [] }
def R74_0.St : R74_0 → VX × S → Prop
  | .e0 z162, p => ∃ l161 : List (List V), ∃ z163 : Int, ∃ b164 : Bool, ∃ z165 : Int, ∃ b166 : Bool, p = (VX.ret, s74_0_0 l161 z162 z163 b164 z165 b166)
  | .e1, p => ∃ l167 : List (List V), ∃ z168 : Int, ∃ z169 : Int, ∃ b170 : Bool, p = (VX.exit 0, s74_0_1 l167 z168 z169 b170)
def L74_0 : Nat → List (List V) → Int → Int → Option R74_0
  | 0, _, _, _ => none
  | n + 1, l144, z145, z146 =>
    if z146 < z145 then
     if 0 ≤ z146 then
      ((l144[Int.toNat z146]?).bind W2.dec).bind fun e159 =>
      bnd (F52 (e159.c0)) fun b160 =>
      if (b160) = true then
       some (R74_0.e0 (z146))
      else
       L74_0 n (l144) (z145) (w64 (z146 + 1))
     else
      none -- none
    else
     some (R74_0.e1)
theorem L74_0_ok (m : Nat) : ∀ (n : Nat) (l144 : List (List V)) (z145 : Int) (z146 : Int) (r : R74_0), L74_0 n l144 z145 z146 = some r → ∃ st, loopFrom Try.prog X (genO X (call Try.prog X O0 18446744073709551616 (m + 1))) 74 (0) 18446744073709551616 B74 0 n ({ T := V.list 1 l144 :: V.fn 52 [] :: un 5 (i64 z145 :: i64 z146 :: un 10 []), σ := [] }) = some st ∧ r.St st
  | 0, _, _, _, r, h => by cases h
  | n + 1, l144, z145, z146, r, h => by
    rw [L74_0] at h
    rcases ite_eq h with ⟨h0, h⟩ | ⟨h0, h⟩
    · skip
      rcases ite_eq h with ⟨h1, h⟩ | ⟨h1, h⟩
      · skip
        obtain ⟨e159, h2, h⟩ := Option.bind_eq_some_iff.mp h
        obtain ⟨b160, h3, h⟩ := bnd_eq h
        rcases ite_eq h with ⟨h4, h⟩ | ⟨h4, h⟩
        · skip
          cases h
          exact ⟨_, round_out (gs := [.t, .t, .el (W2.cells e159), .an (vb b160) [], .t]) (notIn []) (by kernel_rfl) rfl (And.intro (decide_eq_true h0) (And.intro (decide_eq_true h1) (And.intro (W2.dec_ok h2) (And.intro (F52_ok (m + 0) (e159.c0) b160 h3) (And.intro h4 True.intro))))) n, l144, z145, decide (z146 < z145), e159.c0, b160, rfl⟩
        · skip
          obtain ⟨st, hs, hr⟩ := L74_0_ok m n (l144) (z145) (w64 (z146 + 1)) r h
          exact ⟨st, (round_on (gs := [.t, .t, .el (W2.cells e159), .an (vb b160) [], .f]) (notIn []) (by kernel_rfl) (And.intro (decide_eq_true h0) (And.intro (decide_eq_true h1) (And.intro (W2.dec_ok h2) (And.intro (F52_ok (m + 0) (e159.c0) b160 h3) (And.intro (Bool.eq_false_iff.mpr h4) True.intro))))) n).trans hs, hr⟩
      · skip
        cases h
    · skip
      cases h
      exact ⟨_, round_out (gs := [.f]) (notIn []) (by kernel_rfl) rfl (And.intro (decide_eq_false h0) True.intro) n, l144, z145, z146, decide (z146 < z145), rfl⟩
inductive A74 where
  | a0 (z177 : Int)
@[reducible] def A74.out : A74 → V × Store
  | .a0 z177 => (i64 z177, [])
def F74 (l129 : List (List V)) : Option A74 :=
  (L74_0 18446744073709551616 (l129) ((↑(List.length l129) : Int)) (0)).bind fun r => match r with
  | .e0 z172 =>
   some (A74.a0 (z172))
  | .e1 =>
   some (A74.a0 (-1))
theorem F74_ok (m : Nat) (l129 : List (List V)) (r : A74) (h : F74 l129 = some r) : call Try.prog X O0 18446744073709551616 (m + 2) 74 ([V.list 1 l129, V.fn 52 []]) ([]) = some r.out := by
  unfold F74 at h
  obtain ⟨r0, h0, h⟩ := Option.bind_eq_some_iff.mp h
  obtain ⟨st0, h0, hr0⟩ := L74_0_ok m 18446744073709551616 (l129) ((↑(List.length l129) : Int)) (0) r0 h0
  have h0 : loopRun Try.prog X (genO X (call Try.prog X O0 18446744073709551616 (m + 1))) 74 (0) 18446744073709551616 B74 0 ({ T := V.list 1 l129 :: V.fn 52 [] :: U :: U :: i64 0 :: U :: V.list 1 l129 :: i64 (↑(List.length l129) : Int) :: i64 0 :: un 10 [], σ := [] }) = some st0 := by
    rw [loopRun_from, show pre X 74 (0) 0 ({ T := V.list 1 l129 :: V.fn 52 [] :: U :: U :: i64 0 :: U :: V.list 1 l129 :: i64 (↑(List.length l129) : Int) :: i64 0 :: un 10 [], σ := [] }) = { T := V.list 1 l129 :: V.fn 52 [] :: un 5 (i64 (↑(List.length l129) : Int) :: i64 0 :: un 10 []), σ := [] } by kernel_rfl]
    exact h0
  cases r0 with
  | e0 z172 =>
    obtain ⟨l171, z173, b174, z175, b176, rfl⟩ := hr0
    cases h
    exact call_pathL (gs := [.lp (VX.ret) (s74_0_0 l171 z172 z173 b174 z175 b176)]) (notIn []) rfl rfl (by kernel_rfl) (And.intro h0 True.intro)
  | e1 =>
    obtain ⟨l178, z179, z180, b181, rfl⟩ := hr0
    cases h
    exact call_pathL (gs := [.lp (VX.exit 0) (s74_0_1 l178 z179 z180 b181)]) (notIn []) rfl rfl (by kernel_rfl) (And.intro h0 True.intro)
/-! ## 51 -/
inductive A51 where
  | a0 (b183 : Bool)
@[reducible] def A51.out : A51 → V × Store
  | .a0 b183 => (vb b183, [])
def F51 (l127 : List (List V)) : Option A51 :=
  (F74 (l127)).bind fun r => match r with
  | .a0 z182 =>
   some (A51.a0 (decide (z182 ≥ 0)))
theorem F51_ok (m : Nat) (l127 : List (List V)) (r : A51) (h : F51 l127 = some r) : call Try.prog X O0 18446744073709551616 (m + 3) 51 ([V.list 1 l127, V.fn 52 []]) ([]) = some r.out := by
  unfold F51 at h
  obtain ⟨r0, h0, h⟩ := Option.bind_eq_some_iff.mp h
  have h0 := F74_ok (m + 0) (l127) r0 h0
  cases r0 with
  | a0 z182 =>
    cases h
    exact call_pathL (gs := [.an (i64 z182) []]) (notIn []) rfl rfl (by kernel_rfl) (And.intro h0 True.intro)
/-! ## 30 -/
inductive A30 where
  | a0 (b185 : Bool)
@[reducible] def A30.out : A30 → V × Store
  | .a0 b185 => (vb b185, [])
def F30 (l125 : List (List V)) : Option A30 :=
  if (↑(List.length l125) : Int) ≤ 8 then
   (F51 (l125)).bind fun r => match r with
   | .a0 b184 =>
    some (A30.a0 (!b184))
  else
   some (A30.a0 (false))
theorem F30_ok (m : Nat) (l125 : List (List V)) (r : A30) (h : F30 l125 = some r) : call Try.prog X O0 18446744073709551616 (m + 4) 30 ([V.list 1 l125]) ([]) = some r.out := by
  unfold F30 at h
  rcases ite_eq h with ⟨h0, h⟩ | ⟨h0, h⟩
  · skip
    obtain ⟨r1, h1, h⟩ := Option.bind_eq_some_iff.mp h
    have h1 := F51_ok (m + 0) (l125) r1 h1
    cases r1 with
    | a0 b184 =>
      cases h
      exact call_pathL (gs := [.t, .t, .an (vb b184) [], .t, .t]) (notIn []) rfl rfl (by kernel_rfl) (And.intro (decide_eq_true h0) (And.intro (decide_eq_true h0) (And.intro h1 (And.intro (decide_eq_true h0) (And.intro (decide_eq_true h0) True.intro)))))
  · skip
    cases h
    exact call_pathL (gs := [.f, .f, .f, .f]) (notIn []) rfl rfl (by kernel_rfl) (And.intro (decide_eq_false h0) (And.intro (decide_eq_false h0) (And.intro (decide_eq_false h0) (And.intro (decide_eq_false h0) True.intro))))
/-! ## 53 -/
def F53 (b191 : Bool) (l192 : List (List V)) : Int :=
  if (b191) = true then
   if (↑(List.length l192) : Int) ≥ 2 then
    (↑(List.length l192) : Int)
   else
    if w64 ((↑(List.length l192) : Int) - 1) > 0 then w64 ((↑(List.length l192) : Int) - 1) else 0
  else
   if w64 ((↑(List.length l192) : Int) - 1) > 0 then w64 ((↑(List.length l192) : Int) - 1) else 0
theorem F53_ok (m : Nat) (b191 : Bool) (l192 : List (List V)) (z195 : Int) (h : F53 b191 l192 = z195) : call Try.prog X O0 18446744073709551616 (m + 1) 53 ([V.agg [vb b191, V.list 2 l192]]) ([]) = some (i64 z195, []) := by
  unfold F53 at h
  rcases ite_eq h with ⟨h0, h⟩ | ⟨h0, h⟩
  · skip
    rcases ite_eq h with ⟨h1, h⟩ | ⟨h1, h⟩
    · skip
      subst h
      exact call_pathL (gs := [.a, .a, .t, .t, .t, .t]) (notIn []) rfl rfl (by kernel_rfl) (And.intro h0 (And.intro h0 (And.intro h0 (And.intro (decide_eq_true h1) True.intro))))
    · skip
      subst h
      exact call_pathL (gs := [.a, .a, .t, .t, .t, .f]) (notIn []) rfl rfl (by kernel_rfl) (And.intro h0 (And.intro h0 (And.intro h0 (And.intro (decide_eq_false h1) True.intro))))
  · skip
    subst h
    exact call_pathL (gs := [.a, .a, .f, .f, .f, .a]) (notIn []) rfl rfl (by kernel_rfl) (And.intro (Bool.eq_false_iff.mpr h0) (And.intro (Bool.eq_false_iff.mpr h0) (And.intro (Bool.eq_false_iff.mpr h0) True.intro)))
/-! ## 37 -/
def F37 (z210 : Int) (z211 : Int) (z212 : Int) : Int :=
  if z210 < z211 then
   z211
  else
   if z210 > z212 then
    z212
   else
    z210
theorem F37_ok (m : Nat) (z210 : Int) (z211 : Int) (z212 : Int) (z215 : Int) (h : F37 z210 z211 z212 = z215) : call Try.prog X O0 18446744073709551616 (m + 1) 37 ([i64 z210, i64 z211, i64 z212]) ([]) = some (i64 z215, []) := by
  unfold F37 at h
  rcases ite_eq h with ⟨h0, h⟩ | ⟨h0, h⟩
  · skip
    subst h
    exact call_pathL (gs := [.t]) (notIn []) rfl rfl (by kernel_rfl) (And.intro (decide_eq_true h0) True.intro)
  · skip
    rcases ite_eq h with ⟨h1, h⟩ | ⟨h1, h⟩
    · skip
      subst h
      exact call_pathL (gs := [.f, .t]) (notIn []) rfl rfl (by kernel_rfl) (And.intro (decide_eq_false h0) (And.intro (decide_eq_true h1) True.intro))
    · skip
      subst h
      exact call_pathL (gs := [.f, .f]) (notIn []) rfl rfl (by kernel_rfl) (And.intro (decide_eq_false h0) (And.intro (decide_eq_false h1) True.intro))
/-! ## 65 -/
def F65 (z208 : Int) : Int :=
  bnd (F37 (z208) (-536870912) (536870912)) fun z216 =>
  z216
theorem F65_ok (m : Nat) (z208 : Int) (z218 : Int) (h : F65 z208 = z218) : call Try.prog X O0 18446744073709551616 (m + 2) 65 ([i64 z208]) ([]) = some (i64 z218, []) := by
  unfold F65 at h
  obtain ⟨z216, h0, h⟩ := bnd_eq h
  subst h
  exact call_pathL (gs := [.an (i64 z216) []]) (notIn []) rfl rfl (by kernel_rfl) (And.intro (F37_ok (m + 0) (z208) (-536870912) (536870912) z216 h0) True.intro)
/-! ## 75 -/
inductive A75 where
  | a0 (z221 : Int) (z222 : Int)
@[reducible] def A75.out : A75 → V × Store
  | .a0 z221 z222 => (V.agg [i64 z221, i64 z222], [])
def F75 (z205 : Int) (z206 : Int) : Option A75 :=
  bnd (F65 (z205)) fun z219 =>
  bnd (F65 (z206)) fun z220 =>
  some (A75.a0 (z219) (z220))
theorem F75_ok (m : Nat) (z205 : Int) (z206 : Int) (r : A75) (h : F75 z205 z206 = some r) : call Try.prog X O0 18446744073709551616 (m + 3) 75 ([V.agg [i64 z205, i64 z206]]) ([]) = some r.out := by
  unfold F75 at h
  obtain ⟨z219, h0, h⟩ := bnd_eq h
  obtain ⟨z220, h1, h⟩ := bnd_eq h
  cases h
  exact call_pathL (gs := [.a, .an (i64 z219) [], .a, .an (i64 z220) [], .a, .ft [⟨0, [0], []⟩, ⟨1, [0], []⟩, ⟨2, [], []⟩, ⟨3, [0], []⟩, ⟨4, [0], []⟩, ⟨5, [], []⟩, ⟨6, [], []⟩, ⟨7, [1], [1]⟩]]) (notIn []) rfl rfl (by kernel_rfl) (And.intro (F65_ok (m + 0) (z205) z219 h0) (And.intro (F65_ok (m + 0) (z206) z220 h1) (And.intro (Eq.refl ([⟨0, [0], []⟩, ⟨1, [0], []⟩, ⟨2, [], []⟩, ⟨3, [0], []⟩, ⟨4, [0], []⟩, ⟨5, [], []⟩, ⟨6, [], []⟩, ⟨7, [1], [1]⟩] : List Foot)) True.intro)))
/-! ## 86 -/
noncomputable abbrev B86 : Code := (Try.f86.body).getD .skip
inductive R86_0 where
  | e0 (z240 : Int)
@[reducible] def s86_0_0 (z239 : Int) (z240 : Int) (z241 : Int) (b242 : Bool) : S := { T := V.int IntKind.u64 z239 :: U :: U :: V.int IntKind.u64 z240 :: V.int IntKind.u64 z241 :: U :: V.int IntKind.u64 z241 :: vb b242 :: un 13 [], σ := [] }
def R86_0.St : R86_0 → VX × S → Prop
  | .e0 z240, p => ∃ z239 : Int, ∃ z241 : Int, ∃ b242 : Bool, p = (VX.exit 0, s86_0_0 z239 z240 z241 b242)
def L86_0 : Nat → Int → Int → Int → Option R86_0
  | 0, _, _, _ => none
  | n + 1, z236, z237, z238 =>
    if z238 > 0 then
     if IntKind.wrap IntKind.u64 (IntKind.wrap IntKind.u64 (↑(BitVec.toNat (BitVec.ofInt (IntKind.bits IntKind.u64) z237 ||| BitVec.ofInt (IntKind.bits IntKind.u64) z238)) : Int) * IntKind.wrap IntKind.u64 (↑(BitVec.toNat (BitVec.ofInt (IntKind.bits IntKind.u64) z237 ||| BitVec.ofInt (IntKind.bits IntKind.u64) z238)) : Int)) ≤ z236 then
      L86_0 n (z236) (IntKind.wrap IntKind.u64 (↑(BitVec.toNat (BitVec.ofInt (IntKind.bits IntKind.u64) z237 ||| BitVec.ofInt (IntKind.bits IntKind.u64) z238)) : Int)) (Int.fdiv z238 2)
     else
      L86_0 n (z236) (z237) (Int.fdiv z238 2)
    else
     some (R86_0.e0 (z237))
theorem L86_0_ok (m : Nat) : ∀ (n : Nat) (z236 : Int) (z237 : Int) (z238 : Int) (r : R86_0), L86_0 n z236 z237 z238 = some r → ∃ st, loopFrom Try.prog X (genO X (call Try.prog X O0 18446744073709551616 (m + 0))) 86 (0) 18446744073709551616 B86 0 n ({ T := V.int IntKind.u64 z236 :: U :: U :: V.int IntKind.u64 z237 :: V.int IntKind.u64 z238 :: un 16 [], σ := [] }) = some st ∧ r.St st
  | 0, _, _, _, r, h => by cases h
  | n + 1, z236, z237, z238, r, h => by
    rw [L86_0] at h
    rcases ite_eq h with ⟨h0, h⟩ | ⟨h0, h⟩
    · skip
      rcases ite_eq h with ⟨h1, h⟩ | ⟨h1, h⟩
      · skip
        obtain ⟨st, hs, hr⟩ := L86_0_ok m n (z236) (IntKind.wrap IntKind.u64 (↑(BitVec.toNat (BitVec.ofInt (IntKind.bits IntKind.u64) z237 ||| BitVec.ofInt (IntKind.bits IntKind.u64) z238)) : Int)) (Int.fdiv z238 2) r h
        exact ⟨st, (round_on (gs := [.t, .t, .a]) (notIn []) (by kernel_rfl) (And.intro (decide_eq_true h0) (And.intro (decide_eq_true h1) True.intro)) n).trans hs, hr⟩
      · skip
        obtain ⟨st, hs, hr⟩ := L86_0_ok m n (z236) (z237) (Int.fdiv z238 2) r h
        exact ⟨st, (round_on (gs := [.t, .f, .a]) (notIn []) (by kernel_rfl) (And.intro (decide_eq_true h0) (And.intro (decide_eq_false h1) True.intro)) n).trans hs, hr⟩
    · skip
      cases h
      exact ⟨_, round_out (gs := [.f]) (notIn []) (by kernel_rfl) rfl (And.intro (decide_eq_false h0) True.intro) n, z236, z238, decide (z238 > 0), rfl⟩
inductive A86 where
  | a0 (z247 : Int)
@[reducible] def A86.out : A86 → V × Store
  | .a0 z247 => (i64 z247, [])
def F86 (z233 : Int) : Option A86 :=
  (L86_0 18446744073709551616 (z233) (0) (2147483648)).bind fun r => match r with
  | .e0 z244 =>
   some (A86.a0 (w64 z244))
theorem F86_ok (m : Nat) (z233 : Int) (r : A86) (h : F86 z233 = some r) : call Try.prog X O0 18446744073709551616 (m + 1) 86 ([V.int IntKind.u64 z233]) ([]) = some r.out := by
  unfold F86 at h
  obtain ⟨r0, h0, h⟩ := Option.bind_eq_some_iff.mp h
  obtain ⟨st0, h0, hr0⟩ := L86_0_ok m 18446744073709551616 (z233) (0) (2147483648) r0 h0
  have h0 : loopRun Try.prog X (genO X (call Try.prog X O0 18446744073709551616 (m + 0))) 86 (0) 18446744073709551616 B86 0 ({ T := V.int IntKind.u64 z233 :: U :: i64 0 :: V.int IntKind.u64 0 :: V.int IntKind.u64 2147483648 :: un 16 [], σ := [] }) = some st0 := by
    rw [loopRun_from, show pre X 86 (0) 0 ({ T := V.int IntKind.u64 z233 :: U :: i64 0 :: V.int IntKind.u64 0 :: V.int IntKind.u64 2147483648 :: un 16 [], σ := [] }) = { T := V.int IntKind.u64 z233 :: U :: U :: V.int IntKind.u64 0 :: V.int IntKind.u64 2147483648 :: un 16 [], σ := [] } by kernel_rfl]
    exact h0
  cases r0 with
  | e0 z244 =>
    obtain ⟨z243, z245, b246, rfl⟩ := hr0
    cases h
    exact call_pathL (gs := [.lp (VX.exit 0) (s86_0_0 z243 z244 z245 b246)]) (notIn []) rfl rfl (by kernel_rfl) (And.intro h0 True.intro)
/-! ## 56 -/
def F56 (z249 : Int) : Int :=
  bnd (F37 (z249) (-1099511627776) (1099511627776)) fun z251 =>
  z251
theorem F56_ok (m : Nat) (z249 : Int) (z253 : Int) (h : F56 z249 = z253) : call Try.prog X O0 18446744073709551616 (m + 2) 56 ([i64 z249]) ([]) = some (i64 z253, []) := by
  unfold F56 at h
  obtain ⟨z251, h0, h⟩ := bnd_eq h
  subst h
  exact call_pathL (gs := [.an (i64 z251) []]) (notIn []) rfl rfl (by kernel_rfl) (And.intro (F37_ok (m + 0) (z249) (-1099511627776) (1099511627776) z251 h0) True.intro)
/-! ## 76 -/
inductive A76 where
  | a0 (z255 : Int)
@[reducible] def A76.out : A76 → V × Store
  | .a0 z255 => (i64 z255, [])
def F76 (z228 : Int) (z229 : Int) : Option A76 :=
  bnd (F37 (z228) (-1073741824) (1073741824)) fun z231 =>
  bnd (F37 (z229) (-1073741824) (1073741824)) fun z232 =>
  (F86 (IntKind.wrap IntKind.u64 (w64 (w64 (z231 * z231) + w64 (z232 * z232))))).bind fun r => match r with
  | .a0 z248 =>
   bnd (F56 (z248)) fun z254 =>
   some (A76.a0 (z254))
theorem F76_ok (m : Nat) (z228 : Int) (z229 : Int) (r : A76) (h : F76 z228 z229 = some r) : call Try.prog X O0 18446744073709551616 (m + 3) 76 ([i64 z228, i64 z229]) ([]) = some r.out := by
  unfold F76 at h
  obtain ⟨z231, h0, h⟩ := bnd_eq h
  obtain ⟨z232, h1, h⟩ := bnd_eq h
  obtain ⟨r2, h2, h⟩ := Option.bind_eq_some_iff.mp h
  have h2 := F86_ok (m + 1) (IntKind.wrap IntKind.u64 (w64 (w64 (z231 * z231) + w64 (z232 * z232)))) r2 h2
  cases r2 with
  | a0 z248 =>
    obtain ⟨z254, h3, h⟩ := bnd_eq h
    cases h
    exact call_pathL (gs := [.an (i64 z231) [], .an (i64 z232) [], .an (i64 z248) [], .an (i64 z254) []]) (notIn []) rfl rfl (by kernel_rfl) (And.intro (F37_ok (m + 1) (z228) (-1073741824) (1073741824) z231 h0) (And.intro (F37_ok (m + 1) (z229) (-1073741824) (1073741824) z232 h1) (And.intro h2 (And.intro (F56_ok (m + 0) (z248) z254 h3) True.intro))))
/-! ## 54 -/
inductive A54 where
  | a0 (z257 : Int) (z258 : Int) (z259 : Int) (z260 : Int) (z261 : Int)
@[reducible] def A54.out : A54 → V × Store
  | .a0 z257 z258 z259 z260 z261 => (V.tup [V.agg [i64 z257, i64 z258], V.agg [i64 z259, i64 z260], i64 z261], [])
def F54 (b200 : Bool) (l201 : List (List V)) (z202 : Int) : Option A54 :=
  if 0 ≤ z202 then
   ((l201[Int.toNat z202]?).bind W43.dec).bind fun e204 =>
   (F75 (e204.c0) (e204.c1)).bind fun r => match r with
   | .a0 z223 z224 =>
    if (↑(List.length l201) : Int) = 0 then
     none -- none
    else
     if 0 ≤ Int.tmod (w64 (z202 + 1)) (↑(List.length l201) : Int) then
      ((l201[Int.toNat (Int.tmod (w64 (z202 + (1 : Int))) (↑(List.length l201) : Int))]?).bind W43.dec).bind fun e225 =>
      (F75 (e225.c0) (e225.c1)).bind fun r => match r with
      | .a0 z226 z227 =>
       (F76 (w64 (z226 - z223)) (w64 (z227 - z224))).bind fun r => match r with
       | .a0 z256 =>
        some (A54.a0 (z223) (z224) (z226) (z227) (z256))
     else
      none -- none
  else
   none -- none
theorem F54_ok (m : Nat) (b200 : Bool) (l201 : List (List V)) (z202 : Int) (r : A54) (h : F54 b200 l201 z202 = some r) : call Try.prog X O0 18446744073709551616 (m + 4) 54 ([V.agg [vb b200, V.list 2 l201], i64 z202]) ([]) = some r.out := by
  unfold F54 at h
  rcases ite_eq h with ⟨h0, h⟩ | ⟨h0, h⟩
  · skip
    obtain ⟨e204, h1, h⟩ := Option.bind_eq_some_iff.mp h
    obtain ⟨r2, h2, h⟩ := Option.bind_eq_some_iff.mp h
    have h2 := F75_ok (m + 0) (e204.c0) (e204.c1) r2 h2
    cases r2 with
    | a0 z223 z224 =>
      rcases ite_eq h with ⟨h3, h⟩ | ⟨h3, h⟩
      · skip
        cases h
      · skip
        rcases ite_eq h with ⟨h4, h⟩ | ⟨h4, h⟩
        · skip
          obtain ⟨e225, h5, h⟩ := Option.bind_eq_some_iff.mp h
          obtain ⟨r6, h6, h⟩ := Option.bind_eq_some_iff.mp h
          have h6 := F75_ok (m + 0) (e225.c0) (e225.c1) r6 h6
          cases r6 with
          | a0 z226 z227 =>
            obtain ⟨r7, h7, h⟩ := Option.bind_eq_some_iff.mp h
            have h7 := F76_ok (m + 0) (w64 (z226 - z223)) (w64 (z227 - z224)) r7 h7
            cases r7 with
            | a0 z256 =>
              cases h
              exact call_pathL (gs := [.a, .t, .el (W43.cells e204), .an (V.agg [i64 z223, i64 z224]) [], .a, .a, .f, .t, .el (W43.cells e225), .an (V.agg [i64 z226, i64 z227]) [], .a, .a, .ft [⟨0, [0], []⟩, ⟨1, [0], []⟩, ⟨2, [], []⟩, ⟨3, [], []⟩, ⟨4, [], []⟩, ⟨5, [], []⟩, ⟨6, [0], []⟩, ⟨7, [0], []⟩, ⟨8, [], []⟩, ⟨9, [], []⟩, ⟨10, [0], []⟩, ⟨11, [0], []⟩, ⟨12, [], []⟩, ⟨13, [], []⟩, ⟨14, [], []⟩, ⟨15, [], []⟩, ⟨16, [], []⟩, ⟨17, [3], [3]⟩, ⟨18, [4], [4]⟩, ⟨19, [3], [3]⟩, ⟨20, [4], [4]⟩], .a, .a, .a, .a, .a, .a, .an (i64 z256) [], .a, .a, .ft [⟨0, [3], []⟩, ⟨1, [4], []⟩, ⟨2, [4], []⟩, ⟨3, [4], []⟩, ⟨4, [3], []⟩, ⟨5, [3], []⟩, ⟨6, [], []⟩, ⟨7, [4], []⟩, ⟨8, [4], []⟩, ⟨9, [3], []⟩, ⟨10, [3], []⟩, ⟨11, [], []⟩, ⟨12, [], []⟩, ⟨13, [1], [1]⟩, ⟨14, [2], [2]⟩, ⟨15, [], []⟩]]) (notIn []) rfl rfl (by kernel_rfl) (And.intro (decide_eq_true h0) (And.intro (W43.dec_ok h1) (And.intro h2 (And.intro (decide_eq_false h3) (And.intro (decide_eq_true h4) (And.intro (W43.dec_ok h5) (And.intro h6 (And.intro (Eq.refl ([⟨0, [0], []⟩, ⟨1, [0], []⟩, ⟨2, [], []⟩, ⟨3, [], []⟩, ⟨4, [], []⟩, ⟨5, [], []⟩, ⟨6, [0], []⟩, ⟨7, [0], []⟩, ⟨8, [], []⟩, ⟨9, [], []⟩, ⟨10, [0], []⟩, ⟨11, [0], []⟩, ⟨12, [], []⟩, ⟨13, [], []⟩, ⟨14, [], []⟩, ⟨15, [], []⟩, ⟨16, [], []⟩, ⟨17, [3], [3]⟩, ⟨18, [4], [4]⟩, ⟨19, [3], [3]⟩, ⟨20, [4], [4]⟩] : List Foot)) (And.intro h7 (And.intro (Eq.refl ([⟨0, [3], []⟩, ⟨1, [4], []⟩, ⟨2, [4], []⟩, ⟨3, [4], []⟩, ⟨4, [3], []⟩, ⟨5, [3], []⟩, ⟨6, [], []⟩, ⟨7, [4], []⟩, ⟨8, [4], []⟩, ⟨9, [3], []⟩, ⟨10, [3], []⟩, ⟨11, [], []⟩, ⟨12, [], []⟩, ⟨13, [1], [1]⟩, ⟨14, [2], [2]⟩, ⟨15, [], []⟩] : List Foot)) True.intro))))))))))
        · skip
          cases h
  · skip
    cases h
/-! ## 55 -/
def F55 (z267 : Int) (z268 : Int) : Int :=
  bnd (F56 (z267)) fun z270 =>
  bnd (F56 (z268)) fun z271 =>
  bnd (F56 (w64 (z270 + z271))) fun z272 =>
  z272
theorem F55_ok (m : Nat) (z267 : Int) (z268 : Int) (z274 : Int) (h : F55 z267 z268 = z274) : call Try.prog X O0 18446744073709551616 (m + 3) 55 ([i64 z267, i64 z268]) ([]) = some (i64 z274, []) := by
  unfold F55 at h
  obtain ⟨z270, h0, h⟩ := bnd_eq h
  obtain ⟨z271, h1, h⟩ := bnd_eq h
  obtain ⟨z272, h2, h⟩ := bnd_eq h
  subst h
  exact call_pathL (gs := [.an (i64 z270) [], .an (i64 z271) [], .an (i64 z272) []]) (notIn []) rfl rfl (by kernel_rfl) (And.intro (F56_ok (m + 0) (z267) z270 h0) (And.intro (F56_ok (m + 0) (z268) z271 h1) (And.intro (F56_ok (m + 0) (w64 (z270 + z271)) z272 h2) True.intro)))
/-! ## 32 -/
noncomputable abbrev B32 : Code := (Try.f32.body).getD .skip
inductive R32_0 where
  | e0 (z297 : Int)
@[reducible] def s32_0_0 (z297 : Int) (z298 : Int) (z299 : Int) (b300 : Bool) (b301 : Bool) (l302 : List (List V)) : S := { T := U :: V.ptr 0 0 0 :: U :: i64 z297 :: un 5 (i64 z298 :: i64 z299 :: vb b300 :: un 13 []), σ := [Ob.cells true false 2 [[vb b301, V.list 2 l302]]] }
def R32_0.St : R32_0 → VX × S → Prop
  | .e0 z297, p => ∃ z298 : Int, ∃ z299 : Int, ∃ b300 : Bool, ∃ b301 : Bool, ∃ l302 : List (List V), p = (VX.exit 0, s32_0_0 z297 z298 z299 b300 b301 l302)
def L32_0 : Nat → Int → Int → Int → Bool → List (List V) → Option R32_0
  | 0, _, _, _, _, _ => none
  | n + 1, z276, z277, z278, b279, l280 =>
    if z278 < z277 then
     (F54 (b279) (l280) (z278)).bind fun r => match r with
     | .a0 z291 z292 z293 z294 z295 =>
      bnd (F55 (z276) (z295)) fun z296 =>
      L32_0 n (z296) (z277) (w64 (z278 + 1)) (b279) (l280)
    else
     some (R32_0.e0 (z276))
theorem L32_0_ok (m : Nat) : ∀ (n : Nat) (z276 : Int) (z277 : Int) (z278 : Int) (b279 : Bool) (l280 : List (List V)) (r : R32_0), L32_0 n z276 z277 z278 b279 l280 = some r → ∃ st, loopFrom Try.prog X (genO X (call Try.prog X O0 18446744073709551616 (m + 4))) 32 (0) 18446744073709551616 B32 0 n ({ T := U :: V.ptr 0 0 0 :: U :: i64 z276 :: un 5 (i64 z277 :: i64 z278 :: un 14 []), σ := [Ob.cells true false 2 [[vb b279, V.list 2 l280]]] }) = some st ∧ r.St st
  | 0, _, _, _, _, _, r, h => by cases h
  | n + 1, z276, z277, z278, b279, l280, r, h => by
    rw [L32_0] at h
    rcases ite_eq h with ⟨h0, h⟩ | ⟨h0, h⟩
    · skip
      obtain ⟨r1, h1, h⟩ := Option.bind_eq_some_iff.mp h
      have h1 := F54_ok (m + 0) (b279) (l280) (z278) r1 h1
      cases r1 with
      | a0 z291 z292 z293 z294 z295 =>
        obtain ⟨z296, h2, h⟩ := bnd_eq h
        obtain ⟨st, hs, hr⟩ := L32_0_ok m n (z296) (z277) (w64 (z278 + 1)) (b279) (l280) r h
        exact ⟨st, (round_on (gs := [.t, .a, .an (V.tup [V.agg [i64 z291, i64 z292], V.agg [i64 z293, i64 z294], i64 z295]) [], .a, .a, .an (i64 z296) []]) (notIn []) (by kernel_rfl) (And.intro (decide_eq_true h0) (And.intro h1 (And.intro (F55_ok (m + 1) (z276) (z295) z296 h2) True.intro))) n).trans hs, hr⟩
    · skip
      cases h
      exact ⟨_, round_out (gs := [.f]) (notIn []) (by kernel_rfl) rfl (And.intro (decide_eq_false h0) True.intro) n, z277, z278, decide (z278 < z277), b279, l280, rfl⟩
inductive A32 where
  | a0 (z309 : Int)
@[reducible] def A32.out : A32 → V × Store
  | .a0 z309 => (i64 z309, [])
def F32 (b188 : Bool) (l189 : List (List V)) : Option A32 :=
  bnd (F53 (b188) (l189)) fun z290 =>
  (L32_0 18446744073709551616 (0) (z290) (0) (b188) (l189)).bind fun r => match r with
  | .e0 z303 =>
   some (A32.a0 (z303))
theorem F32_ok (m : Nat) (b188 : Bool) (l189 : List (List V)) (r : A32) (h : F32 b188 l189 = some r) : call Try.prog X O0 18446744073709551616 (m + 5) 32 ([V.agg [vb b188, V.list 2 l189]]) ([]) = some r.out := by
  unfold F32 at h
  obtain ⟨z290, h0, h⟩ := bnd_eq h
  obtain ⟨r1, h1, h⟩ := Option.bind_eq_some_iff.mp h
  obtain ⟨st1, h1, hr1⟩ := L32_0_ok m 18446744073709551616 (0) (z290) (0) (b188) (l189) r1 h1
  have h1 : loopRun Try.prog X (genO X (call Try.prog X O0 18446744073709551616 (m + 4))) 32 (0) 18446744073709551616 B32 0 ({ T := V.agg [vb b188, V.list 2 l189] :: V.ptr 0 0 0 :: i64 0 :: i64 0 :: un 4 (V.agg [vb b188, V.list 2 l189] :: i64 z290 :: i64 0 :: un 14 []), σ := [Ob.cells true false 2 [[vb b188, V.list 2 l189]]] }) = some st1 := by
    rw [loopRun_from, show pre X 32 (0) 0 ({ T := V.agg [vb b188, V.list 2 l189] :: V.ptr 0 0 0 :: i64 0 :: i64 0 :: un 4 (V.agg [vb b188, V.list 2 l189] :: i64 z290 :: i64 0 :: un 14 []), σ := [Ob.cells true false 2 [[vb b188, V.list 2 l189]]] }) = { T := U :: V.ptr 0 0 0 :: U :: i64 0 :: un 5 (i64 z290 :: i64 0 :: un 14 []), σ := [Ob.cells true false 2 [[vb b188, V.list 2 l189]]] } by kernel_rfl]
    exact h1
  cases r1 with
  | e0 z303 =>
    obtain ⟨z304, z305, b306, b307, l308, rfl⟩ := hr1
    cases h
    exact call_pathL (gs := [.a, .an (i64 z290) [], .lp (VX.exit 0) (s32_0_0 z303 z304 z305 b306 b307 l308)]) (notIn []) rfl rfl (by kernel_rfl) (And.intro (F53_ok (m + 3) (b188) (l189) z290 h0) (And.intro h1 True.intro))
/-! ## 60 -/
inductive A60 where
  | a0 (z356 : Int)
@[reducible] def A60.out : A60 → V × Store
  | .a0 z356 => (i64 z356, [])
def F60 (z351 : Int) (z352 : Int) : Option A60 :=
  bnd (F56 (z351)) fun z354 =>
  bnd (F56 (z352)) fun z355 =>
  if (z355 == 0) = true then
   some (A60.a0 (0))
  else
   if z355 = 0 then
    none -- none
   else
    if (Int.tmod (w64 (z354 * 65536)) z355 != 0) = true then
     if (!decide (w64 (z354 * 65536) < 0) == decide (z355 < 0)) = true then
      bnd (F56 (w64 (w64 (Int.tdiv (w64 (z354 * 65536)) z355) - 1))) fun z357 =>
      some (A60.a0 (z357))
     else
      bnd (F56 (w64 (Int.tdiv (w64 (z354 * 65536)) z355))) fun z358 =>
      some (A60.a0 (z358))
    else
     bnd (F56 (w64 (Int.tdiv (w64 (z354 * 65536)) z355))) fun z359 =>
     some (A60.a0 (z359))
theorem F60_ok (m : Nat) (z351 : Int) (z352 : Int) (r : A60) (h : F60 z351 z352 = some r) : call Try.prog X O0 18446744073709551616 (m + 3) 60 ([i64 z351, i64 z352]) ([]) = some r.out := by
  unfold F60 at h
  obtain ⟨z354, h0, h⟩ := bnd_eq h
  obtain ⟨z355, h1, h⟩ := bnd_eq h
  rcases ite_eq h with ⟨h2, h⟩ | ⟨h2, h⟩
  · skip
    cases h
    exact call_pathL (gs := [.an (i64 z354) [], .a, .an (i64 z355) [], .t]) (notIn []) rfl rfl (by kernel_rfl) (And.intro (F56_ok (m + 0) (z351) z354 h0) (And.intro (F56_ok (m + 0) (z352) z355 h1) (And.intro h2 True.intro)))
  · skip
    rcases ite_eq h with ⟨h3, h⟩ | ⟨h3, h⟩
    · skip
      cases h
    · skip
      rcases ite_eq h with ⟨h4, h⟩ | ⟨h4, h⟩
      · skip
        rcases ite_eq h with ⟨h5, h⟩ | ⟨h5, h⟩
        · skip
          obtain ⟨z357, h6, h⟩ := bnd_eq h
          cases h
          exact call_pathL (gs := [.an (i64 z354) [], .a, .an (i64 z355) [], .f, .f, .f, .t, .t, .t, .t, .t, .t, .t, .an (i64 z357) []]) (notIn []) rfl rfl (by kernel_rfl) (And.intro (F56_ok (m + 0) (z351) z354 h0) (And.intro (F56_ok (m + 0) (z352) z355 h1) (And.intro (Bool.eq_false_iff.mpr h2) (And.intro (decide_eq_false h3) (And.intro (decide_eq_false h3) (And.intro h4 (And.intro h4 (And.intro h4 (And.intro h4 (And.intro h4 (And.intro h4 (And.intro h5 (And.intro (F56_ok (m + 0) (w64 (w64 (Int.tdiv (w64 (z354 * 65536)) z355) - 1)) z357 h6) True.intro)))))))))))))
        · skip
          obtain ⟨z358, h6, h⟩ := bnd_eq h
          cases h
          exact call_pathL (gs := [.an (i64 z354) [], .a, .an (i64 z355) [], .f, .f, .f, .t, .t, .t, .t, .t, .t, .f, .an (i64 z358) []]) (notIn []) rfl rfl (by kernel_rfl) (And.intro (F56_ok (m + 0) (z351) z354 h0) (And.intro (F56_ok (m + 0) (z352) z355 h1) (And.intro (Bool.eq_false_iff.mpr h2) (And.intro (decide_eq_false h3) (And.intro (decide_eq_false h3) (And.intro h4 (And.intro h4 (And.intro h4 (And.intro h4 (And.intro h4 (And.intro h4 (And.intro (Bool.eq_false_iff.mpr h5) (And.intro (F56_ok (m + 0) (w64 (Int.tdiv (w64 (z354 * 65536)) z355)) z358 h6) True.intro)))))))))))))
      · skip
        obtain ⟨z359, h5, h⟩ := bnd_eq h
        cases h
        exact call_pathL (gs := [.an (i64 z354) [], .a, .an (i64 z355) [], .f, .f, .f, .f, .f, .f, .f, .f, .f, .a, .an (i64 z359) []]) (notIn []) rfl rfl (by kernel_rfl) (And.intro (F56_ok (m + 0) (z351) z354 h0) (And.intro (F56_ok (m + 0) (z352) z355 h1) (And.intro (Bool.eq_false_iff.mpr h2) (And.intro (decide_eq_false h3) (And.intro (decide_eq_false h3) (And.intro (Bool.eq_false_iff.mpr h4) (And.intro (Bool.eq_false_iff.mpr h4) (And.intro (Bool.eq_false_iff.mpr h4) (And.intro (Bool.eq_false_iff.mpr h4) (And.intro (Bool.eq_false_iff.mpr h4) (And.intro (Bool.eq_false_iff.mpr h4) (And.intro (F56_ok (m + 0) (w64 (Int.tdiv (w64 (z354 * 65536)) z355)) z359 h5) True.intro))))))))))))
/-! ## 83 -/
inductive A83 where
  | a0 (z378 : Int) (z379 : Int)
@[reducible] def A83.out : A83 → V × Store
  | .a0 z378 z379 => (V.tup [V.int IntKind.u64 z378, V.int IntKind.u64 z379], [])
def F83 (z375 : Int) (z376 : Int) : Option A83 :=
  some (A83.a0 (IntKind.wrap IntKind.u64 (IntKind.wrap IntKind.u64 (IntKind.wrap IntKind.u64 (Int.fdiv z375 4294967296 * Int.fdiv z376 4294967296) + Int.fdiv (IntKind.wrap IntKind.u64 (IntKind.wrap IntKind.u64 (Int.fdiv z375 4294967296 * IntKind.wrap IntKind.u64 (↑(BitVec.toNat (BitVec.ofInt (IntKind.bits IntKind.u64) z376 &&& BitVec.ofInt (IntKind.bits IntKind.u64) 4294967295)) : Int)) + Int.fdiv (IntKind.wrap IntKind.u64 (IntKind.wrap IntKind.u64 (↑(BitVec.toNat (BitVec.ofInt (IntKind.bits IntKind.u64) z375 &&& BitVec.ofInt (IntKind.bits IntKind.u64) 4294967295)) : Int) * IntKind.wrap IntKind.u64 (↑(BitVec.toNat (BitVec.ofInt (IntKind.bits IntKind.u64) z376 &&& BitVec.ofInt (IntKind.bits IntKind.u64) 4294967295)) : Int))) 4294967296)) 4294967296) + Int.fdiv (IntKind.wrap IntKind.u64 (IntKind.wrap IntKind.u64 (↑(BitVec.toNat (BitVec.ofInt (IntKind.bits IntKind.u64) (IntKind.wrap IntKind.u64 (IntKind.wrap IntKind.u64 (Int.fdiv z375 4294967296 * IntKind.wrap IntKind.u64 (↑(BitVec.toNat (BitVec.ofInt (IntKind.bits IntKind.u64) z376 &&& BitVec.ofInt (IntKind.bits IntKind.u64) 4294967295)) : Int)) + Int.fdiv (IntKind.wrap IntKind.u64 (IntKind.wrap IntKind.u64 (↑(BitVec.toNat (BitVec.ofInt (IntKind.bits IntKind.u64) z375 &&& BitVec.ofInt (IntKind.bits IntKind.u64) 4294967295)) : Int) * IntKind.wrap IntKind.u64 (↑(BitVec.toNat (BitVec.ofInt (IntKind.bits IntKind.u64) z376 &&& BitVec.ofInt (IntKind.bits IntKind.u64) 4294967295)) : Int))) 4294967296)) &&& BitVec.ofInt (IntKind.bits IntKind.u64) 4294967295)) : Int) + IntKind.wrap IntKind.u64 (IntKind.wrap IntKind.u64 (↑(BitVec.toNat (BitVec.ofInt (IntKind.bits IntKind.u64) z375 &&& BitVec.ofInt (IntKind.bits IntKind.u64) 4294967295)) : Int) * Int.fdiv z376 4294967296))) 4294967296)) (IntKind.wrap IntKind.u64 (z375 * z376)))
theorem F83_ok (m : Nat) (z375 : Int) (z376 : Int) (r : A83) (h : F83 z375 z376 = some r) : call Try.prog X O0 18446744073709551616 (m + 1) 83 ([V.int IntKind.u64 z375, V.int IntKind.u64 z376]) ([]) = some r.out := by
  unfold F83 at h
  cases h
  exact call_pathL (gs := [.a, .a, .a, .a, .a]) (notIn []) rfl rfl (by kernel_rfl) True.intro
/-! ## 81 -/
inductive A81 where
  | a0 (z382 : Int) (z383 : Int)
@[reducible] def A81.out : A81 → V × Store
  | .a0 z382 z383 => (V.tup [V.int IntKind.u64 z382, V.int IntKind.u64 z383], [])
def F81 (z372 : Int) (z373 : Int) : Option A81 :=
  (F83 (IntKind.wrap IntKind.u64 z372) (IntKind.wrap IntKind.u64 z373)).bind fun r => match r with
  | .a0 z380 z381 =>
   if z372 < 0 then
    if z373 < 0 then
     some (A81.a0 (IntKind.wrap IntKind.u64 (IntKind.wrap IntKind.u64 (z380 - IntKind.wrap IntKind.u64 z373) - IntKind.wrap IntKind.u64 z372)) (z381))
    else
     some (A81.a0 (IntKind.wrap IntKind.u64 (z380 - IntKind.wrap IntKind.u64 z373)) (z381))
   else
    if z373 < 0 then
     some (A81.a0 (IntKind.wrap IntKind.u64 (z380 - IntKind.wrap IntKind.u64 z372)) (z381))
    else
     some (A81.a0 (z380) (z381))
theorem F81_ok (m : Nat) (z372 : Int) (z373 : Int) (r : A81) (h : F81 z372 z373 = some r) : call Try.prog X O0 18446744073709551616 (m + 2) 81 ([i64 z372, i64 z373]) ([]) = some r.out := by
  unfold F81 at h
  obtain ⟨r0, h0, h⟩ := Option.bind_eq_some_iff.mp h
  have h0 := F83_ok (m + 0) (IntKind.wrap IntKind.u64 z372) (IntKind.wrap IntKind.u64 z373) r0 h0
  cases r0 with
  | a0 z380 z381 =>
    rcases ite_eq h with ⟨h1, h⟩ | ⟨h1, h⟩
    · skip
      rcases ite_eq h with ⟨h2, h⟩ | ⟨h2, h⟩
      · skip
        cases h
        exact call_pathL (gs := [.an (V.tup [V.int IntKind.u64 z380, V.int IntKind.u64 z381]) [], .t, .t]) (notIn []) rfl rfl (by kernel_rfl) (And.intro h0 (And.intro (decide_eq_true h1) (And.intro (decide_eq_true h2) True.intro)))
      · skip
        cases h
        exact call_pathL (gs := [.an (V.tup [V.int IntKind.u64 z380, V.int IntKind.u64 z381]) [], .t, .f]) (notIn []) rfl rfl (by kernel_rfl) (And.intro h0 (And.intro (decide_eq_true h1) (And.intro (decide_eq_false h2) True.intro)))
    · skip
      rcases ite_eq h with ⟨h2, h⟩ | ⟨h2, h⟩
      · skip
        cases h
        exact call_pathL (gs := [.an (V.tup [V.int IntKind.u64 z380, V.int IntKind.u64 z381]) [], .f, .t]) (notIn []) rfl rfl (by kernel_rfl) (And.intro h0 (And.intro (decide_eq_false h1) (And.intro (decide_eq_true h2) True.intro)))
      · skip
        cases h
        exact call_pathL (gs := [.an (V.tup [V.int IntKind.u64 z380, V.int IntKind.u64 z381]) [], .f, .f]) (notIn []) rfl rfl (by kernel_rfl) (And.intro h0 (And.intro (decide_eq_false h1) (And.intro (decide_eq_false h2) True.intro)))
/-! ## 80 -/
def F80 (z386 : Int) (z387 : Int) : Int :=
  if Int.fdiv (w64 z386) 65536 < -1 then
   -9223372036854775808
  else
   if (Int.fdiv (w64 z386) 65536 == -1) = true then
    if (Int.fdiv (IntKind.wrap IntKind.u64 (↑(BitVec.toNat (BitVec.ofInt (IntKind.bits IntKind.u64) (IntKind.wrap IntKind.u64 (z386 * 2 ^ min (Int.toNat 48) (IntKind.bits IntKind.u64))) ||| BitVec.ofInt (IntKind.bits IntKind.u64) (Int.fdiv z387 (2 ^ min (Int.toNat 16) (IntKind.bits IntKind.u64))))) : Int)) 9223372036854775808 == 0) = true then
     -9223372036854775808
    else
     if Int.fdiv (w64 z386) 65536 > 0 then
      9223372036854775807
     else
      if (Int.fdiv (w64 z386) 65536 == 0) = true then
       if (Int.fdiv (IntKind.wrap IntKind.u64 (↑(BitVec.toNat (BitVec.ofInt (IntKind.bits IntKind.u64) (IntKind.wrap IntKind.u64 (z386 * 2 ^ min (Int.toNat 48) (IntKind.bits IntKind.u64))) ||| BitVec.ofInt (IntKind.bits IntKind.u64) (Int.fdiv z387 (2 ^ min (Int.toNat 16) (IntKind.bits IntKind.u64))))) : Int)) 9223372036854775808 != 0) = true then
        9223372036854775807
       else
        w64 (IntKind.wrap IntKind.u64 (↑(BitVec.toNat (BitVec.ofInt (IntKind.bits IntKind.u64) (IntKind.wrap IntKind.u64 (z386 * 2 ^ min (Int.toNat 48) (IntKind.bits IntKind.u64))) ||| BitVec.ofInt (IntKind.bits IntKind.u64) (Int.fdiv z387 (2 ^ min (Int.toNat 16) (IntKind.bits IntKind.u64))))) : Int))
      else
       w64 (IntKind.wrap IntKind.u64 (↑(BitVec.toNat (BitVec.ofInt (IntKind.bits IntKind.u64) (IntKind.wrap IntKind.u64 (z386 * 2 ^ min (Int.toNat 48) (IntKind.bits IntKind.u64))) ||| BitVec.ofInt (IntKind.bits IntKind.u64) (Int.fdiv z387 (2 ^ min (Int.toNat 16) (IntKind.bits IntKind.u64))))) : Int))
   else
    if Int.fdiv (w64 z386) 65536 > 0 then
     9223372036854775807
    else
     if (Int.fdiv (w64 z386) 65536 == 0) = true then
      if (Int.fdiv (IntKind.wrap IntKind.u64 (↑(BitVec.toNat (BitVec.ofInt (IntKind.bits IntKind.u64) (IntKind.wrap IntKind.u64 (z386 * 2 ^ min (Int.toNat 48) (IntKind.bits IntKind.u64))) ||| BitVec.ofInt (IntKind.bits IntKind.u64) (Int.fdiv z387 (2 ^ min (Int.toNat 16) (IntKind.bits IntKind.u64))))) : Int)) 9223372036854775808 != 0) = true then
       9223372036854775807
      else
       w64 (IntKind.wrap IntKind.u64 (↑(BitVec.toNat (BitVec.ofInt (IntKind.bits IntKind.u64) (IntKind.wrap IntKind.u64 (z386 * 2 ^ min (Int.toNat 48) (IntKind.bits IntKind.u64))) ||| BitVec.ofInt (IntKind.bits IntKind.u64) (Int.fdiv z387 (2 ^ min (Int.toNat 16) (IntKind.bits IntKind.u64))))) : Int))
     else
      w64 (IntKind.wrap IntKind.u64 (↑(BitVec.toNat (BitVec.ofInt (IntKind.bits IntKind.u64) (IntKind.wrap IntKind.u64 (z386 * 2 ^ min (Int.toNat 48) (IntKind.bits IntKind.u64))) ||| BitVec.ofInt (IntKind.bits IntKind.u64) (Int.fdiv z387 (2 ^ min (Int.toNat 16) (IntKind.bits IntKind.u64))))) : Int))
theorem F80_ok (m : Nat) (z386 : Int) (z387 : Int) (z390 : Int) (h : F80 z386 z387 = z390) : call Try.prog X O0 18446744073709551616 (m + 1) 80 ([V.int IntKind.u64 z386, V.int IntKind.u64 z387]) ([]) = some (i64 z390, []) := by
  unfold F80 at h
  rcases ite_eq h with ⟨h0, h⟩ | ⟨h0, h⟩
  · skip
    subst h
    exact call_pathL (gs := [.a, .a, .a, .t, .t, .t, .t, .t, .a]) (notIn []) rfl rfl (by kernel_rfl) (And.intro (decide_eq_true h0) (And.intro (decide_eq_true h0) (And.intro (decide_eq_true h0) (And.intro (decide_eq_true h0) (And.intro (decide_eq_true h0) True.intro)))))
  · skip
    rcases ite_eq h with ⟨h1, h⟩ | ⟨h1, h⟩
    · skip
      rcases ite_eq h with ⟨h2, h⟩ | ⟨h2, h⟩
      · skip
        subst h
        exact call_pathL (gs := [.a, .a, .a, .f, .f, .f, .t, .t, .a, .t, .f, .t, .f, .t]) (notIn []) rfl rfl (by kernel_rfl) (And.intro (decide_eq_false h0) (And.intro (decide_eq_false h0) (And.intro (decide_eq_false h0) (And.intro h1 (And.intro h1 (And.intro h1 (And.intro (decide_eq_false h0) (And.intro h1 (And.intro (decide_eq_false h0) (And.intro h2 True.intro))))))))))
      · skip
        rcases ite_eq h with ⟨h3, h⟩ | ⟨h3, h⟩
        · skip
          subst h
          exact call_pathL (gs := [.a, .a, .a, .f, .f, .f, .t, .t, .a, .t, .f, .t, .f, .f, .t, .t, .t, .t, .t, .a]) (notIn []) rfl rfl (by kernel_rfl) (And.intro (decide_eq_false h0) (And.intro (decide_eq_false h0) (And.intro (decide_eq_false h0) (And.intro h1 (And.intro h1 (And.intro h1 (And.intro (decide_eq_false h0) (And.intro h1 (And.intro (decide_eq_false h0) (And.intro (Bool.eq_false_iff.mpr h2) (And.intro (decide_eq_true h3) (And.intro (decide_eq_true h3) (And.intro (decide_eq_true h3) (And.intro (decide_eq_true h3) (And.intro (decide_eq_true h3) True.intro)))))))))))))))
        · skip
          rcases ite_eq h with ⟨h4, h⟩ | ⟨h4, h⟩
          · skip
            rcases ite_eq h with ⟨h5, h⟩ | ⟨h5, h⟩
            · skip
              subst h
              exact call_pathL (gs := [.a, .a, .a, .f, .f, .f, .t, .t, .a, .t, .f, .t, .f, .f, .f, .f, .f, .t, .t, .a, .t, .f, .t, .f, .t]) (notIn []) rfl rfl (by kernel_rfl) (And.intro (decide_eq_false h0) (And.intro (decide_eq_false h0) (And.intro (decide_eq_false h0) (And.intro h1 (And.intro h1 (And.intro h1 (And.intro (decide_eq_false h0) (And.intro h1 (And.intro (decide_eq_false h0) (And.intro (Bool.eq_false_iff.mpr h2) (And.intro (decide_eq_false h3) (And.intro (decide_eq_false h3) (And.intro (decide_eq_false h3) (And.intro h4 (And.intro h4 (And.intro h4 (And.intro (decide_eq_false h3) (And.intro h4 (And.intro (decide_eq_false h3) (And.intro h5 True.intro))))))))))))))))))))
            · skip
              subst h
              exact call_pathL (gs := [.a, .a, .a, .f, .f, .f, .t, .t, .a, .t, .f, .t, .f, .f, .f, .f, .f, .t, .t, .a, .t, .f, .t, .f, .f]) (notIn []) rfl rfl (by kernel_rfl) (And.intro (decide_eq_false h0) (And.intro (decide_eq_false h0) (And.intro (decide_eq_false h0) (And.intro h1 (And.intro h1 (And.intro h1 (And.intro (decide_eq_false h0) (And.intro h1 (And.intro (decide_eq_false h0) (And.intro (Bool.eq_false_iff.mpr h2) (And.intro (decide_eq_false h3) (And.intro (decide_eq_false h3) (And.intro (decide_eq_false h3) (And.intro h4 (And.intro h4 (And.intro h4 (And.intro (decide_eq_false h3) (And.intro h4 (And.intro (decide_eq_false h3) (And.intro (Bool.eq_false_iff.mpr h5) True.intro))))))))))))))))))))
          · skip
            subst h
            exact call_pathL (gs := [.a, .a, .a, .f, .f, .f, .t, .t, .a, .t, .f, .t, .f, .f, .f, .f, .f, .f, .f, .f, .f, .f, .f, .a]) (notIn []) rfl rfl (by kernel_rfl) (And.intro (decide_eq_false h0) (And.intro (decide_eq_false h0) (And.intro (decide_eq_false h0) (And.intro h1 (And.intro h1 (And.intro h1 (And.intro (decide_eq_false h0) (And.intro h1 (And.intro (decide_eq_false h0) (And.intro (Bool.eq_false_iff.mpr h2) (And.intro (decide_eq_false h3) (And.intro (decide_eq_false h3) (And.intro (decide_eq_false h3) (And.intro (Bool.eq_false_iff.mpr h4) (And.intro (Bool.eq_false_iff.mpr h4) (And.intro (Bool.eq_false_iff.mpr h4) (And.intro (decide_eq_false h3) (And.intro (Bool.eq_false_iff.mpr h4) (And.intro (decide_eq_false h3) True.intro)))))))))))))))))))
    · skip
      rcases ite_eq h with ⟨h2, h⟩ | ⟨h2, h⟩
      · skip
        subst h
        exact call_pathL (gs := [.a, .a, .a, .f, .f, .f, .f, .f, .f, .f, .f, .f, .a, .t, .t, .t, .t, .t, .a]) (notIn []) rfl rfl (by kernel_rfl) (And.intro (decide_eq_false h0) (And.intro (decide_eq_false h0) (And.intro (decide_eq_false h0) (And.intro (Bool.eq_false_iff.mpr h1) (And.intro (Bool.eq_false_iff.mpr h1) (And.intro (Bool.eq_false_iff.mpr h1) (And.intro (decide_eq_false h0) (And.intro (Bool.eq_false_iff.mpr h1) (And.intro (decide_eq_false h0) (And.intro (decide_eq_true h2) (And.intro (decide_eq_true h2) (And.intro (decide_eq_true h2) (And.intro (decide_eq_true h2) (And.intro (decide_eq_true h2) True.intro))))))))))))))
      · skip
        rcases ite_eq h with ⟨h3, h⟩ | ⟨h3, h⟩
        · skip
          rcases ite_eq h with ⟨h4, h⟩ | ⟨h4, h⟩
          · skip
            subst h
            exact call_pathL (gs := [.a, .a, .a, .f, .f, .f, .f, .f, .f, .f, .f, .f, .a, .f, .f, .f, .t, .t, .a, .t, .f, .t, .f, .t]) (notIn []) rfl rfl (by kernel_rfl) (And.intro (decide_eq_false h0) (And.intro (decide_eq_false h0) (And.intro (decide_eq_false h0) (And.intro (Bool.eq_false_iff.mpr h1) (And.intro (Bool.eq_false_iff.mpr h1) (And.intro (Bool.eq_false_iff.mpr h1) (And.intro (decide_eq_false h0) (And.intro (Bool.eq_false_iff.mpr h1) (And.intro (decide_eq_false h0) (And.intro (decide_eq_false h2) (And.intro (decide_eq_false h2) (And.intro (decide_eq_false h2) (And.intro h3 (And.intro h3 (And.intro h3 (And.intro (decide_eq_false h2) (And.intro h3 (And.intro (decide_eq_false h2) (And.intro h4 True.intro)))))))))))))))))))
          · skip
            subst h
            exact call_pathL (gs := [.a, .a, .a, .f, .f, .f, .f, .f, .f, .f, .f, .f, .a, .f, .f, .f, .t, .t, .a, .t, .f, .t, .f, .f]) (notIn []) rfl rfl (by kernel_rfl) (And.intro (decide_eq_false h0) (And.intro (decide_eq_false h0) (And.intro (decide_eq_false h0) (And.intro (Bool.eq_false_iff.mpr h1) (And.intro (Bool.eq_false_iff.mpr h1) (And.intro (Bool.eq_false_iff.mpr h1) (And.intro (decide_eq_false h0) (And.intro (Bool.eq_false_iff.mpr h1) (And.intro (decide_eq_false h0) (And.intro (decide_eq_false h2) (And.intro (decide_eq_false h2) (And.intro (decide_eq_false h2) (And.intro h3 (And.intro h3 (And.intro h3 (And.intro (decide_eq_false h2) (And.intro h3 (And.intro (decide_eq_false h2) (And.intro (Bool.eq_false_iff.mpr h4) True.intro)))))))))))))))))))
        · skip
          subst h
          exact call_pathL (gs := [.a, .a, .a, .f, .f, .f, .f, .f, .f, .f, .f, .f, .a, .f, .f, .f, .f, .f, .f, .f, .f, .f, .a]) (notIn []) rfl rfl (by kernel_rfl) (And.intro (decide_eq_false h0) (And.intro (decide_eq_false h0) (And.intro (decide_eq_false h0) (And.intro (Bool.eq_false_iff.mpr h1) (And.intro (Bool.eq_false_iff.mpr h1) (And.intro (Bool.eq_false_iff.mpr h1) (And.intro (decide_eq_false h0) (And.intro (Bool.eq_false_iff.mpr h1) (And.intro (decide_eq_false h0) (And.intro (decide_eq_false h2) (And.intro (decide_eq_false h2) (And.intro (decide_eq_false h2) (And.intro (Bool.eq_false_iff.mpr h3) (And.intro (Bool.eq_false_iff.mpr h3) (And.intro (Bool.eq_false_iff.mpr h3) (And.intro (decide_eq_false h2) (And.intro (Bool.eq_false_iff.mpr h3) (And.intro (decide_eq_false h2) True.intro))))))))))))))))))
/-! ## 62 -/
inductive A62 where
  | a0 (z393 : Int)
@[reducible] def A62.out : A62 → V × Store
  | .a0 z393 => (i64 z393, [])
def F62 (z367 : Int) (z368 : Int) : Option A62 :=
  bnd (F56 (z367)) fun z370 =>
  bnd (F56 (z368)) fun z371 =>
  (F81 (z370) (z371)).bind fun r => match r with
  | .a0 z384 z385 =>
   bnd (F80 (z384) (z385)) fun z391 =>
   bnd (F56 (z391)) fun z392 =>
   some (A62.a0 (z392))
theorem F62_ok (m : Nat) (z367 : Int) (z368 : Int) (r : A62) (h : F62 z367 z368 = some r) : call Try.prog X O0 18446744073709551616 (m + 3) 62 ([i64 z367, i64 z368]) ([]) = some r.out := by
  unfold F62 at h
  obtain ⟨z370, h0, h⟩ := bnd_eq h
  obtain ⟨z371, h1, h⟩ := bnd_eq h
  obtain ⟨r2, h2, h⟩ := Option.bind_eq_some_iff.mp h
  have h2 := F81_ok (m + 0) (z370) (z371) r2 h2
  cases r2 with
  | a0 z384 z385 =>
    obtain ⟨z391, h3, h⟩ := bnd_eq h
    obtain ⟨z392, h4, h⟩ := bnd_eq h
    cases h
    exact call_pathL (gs := [.an (i64 z370) [], .an (i64 z371) [], .an (V.tup [V.int IntKind.u64 z384, V.int IntKind.u64 z385]) [], .an (i64 z391) [], .an (i64 z392) []]) (notIn []) rfl rfl (by kernel_rfl) (And.intro (F56_ok (m + 0) (z367) z370 h0) (And.intro (F56_ok (m + 0) (z368) z371 h1) (And.intro h2 (And.intro (F80_ok (m + 1) (z384) (z385) z391 h3) (And.intro (F56_ok (m + 0) (z391) z392 h4) True.intro)))))
/-! ## 77 -/
inductive A77 where
  | a0 (z396 : Int)
@[reducible] def A77.out : A77 → V × Store
  | .a0 z396 => (i64 z396, [])
def F77 (z361 : Int) (z362 : Int) (z363 : Int) : Option A77 :=
  bnd (F56 (z361)) fun z365 =>
  bnd (F55 (z362) (w64 (0 - z365))) fun z366 =>
  (F62 (z366) (z363)).bind fun r => match r with
  | .a0 z394 =>
   bnd (F55 (z365) (z394)) fun z395 =>
   some (A77.a0 (z395))
theorem F77_ok (m : Nat) (z361 : Int) (z362 : Int) (z363 : Int) (r : A77) (h : F77 z361 z362 z363 = some r) : call Try.prog X O0 18446744073709551616 (m + 4) 77 ([i64 z361, i64 z362, i64 z363]) ([]) = some r.out := by
  unfold F77 at h
  obtain ⟨z365, h0, h⟩ := bnd_eq h
  obtain ⟨z366, h1, h⟩ := bnd_eq h
  obtain ⟨r2, h2, h⟩ := Option.bind_eq_some_iff.mp h
  have h2 := F62_ok (m + 0) (z366) (z363) r2 h2
  cases r2 with
  | a0 z394 =>
    obtain ⟨z395, h3, h⟩ := bnd_eq h
    cases h
    exact call_pathL (gs := [.an (i64 z365) [], .an (i64 z366) [], .an (i64 z394) [], .an (i64 z395) []]) (notIn []) rfl rfl (by kernel_rfl) (And.intro (F56_ok (m + 1) (z361) z365 h0) (And.intro (F55_ok (m + 0) (z362) (w64 (0 - z365)) z366 h1) (And.intro h2 (And.intro (F55_ok (m + 0) (z365) (z394) z395 h3) True.intro))))
/-! ## 57 -/
inductive A57 where
  | a0 (z349 : Int) (z350 : Int)
@[reducible] def A57.out : A57 → V × Store
  | .a0 z349 z350 => (V.agg [i64 z349, i64 z350], [])
def F57 (z338 : Int) (z339 : Int) (z340 : Int) (z341 : Int) (z342 : Int) (z343 : Int) : Option A57 :=
  (F75 (z338) (z339)).bind fun r => match r with
  | .a0 z345 z346 =>
   (F75 (z340) (z341)).bind fun r => match r with
   | .a0 z347 z348 =>
    if z342 ≤ 0 then
     some (A57.a0 (z345) (z346))
    else
     if z342 ≥ z343 then
      some (A57.a0 (z347) (z348))
     else
      (F60 (z342) (z343)).bind fun r => match r with
      | .a0 z360 =>
       (F77 (z345) (z347) (z360)).bind fun r => match r with
       | .a0 z397 =>
        (F77 (z346) (z348) (z360)).bind fun r => match r with
        | .a0 z398 =>
         some (A57.a0 (z397) (z398))
theorem F57_ok (m : Nat) (z338 : Int) (z339 : Int) (z340 : Int) (z341 : Int) (z342 : Int) (z343 : Int) (r : A57) (h : F57 z338 z339 z340 z341 z342 z343 = some r) : call Try.prog X O0 18446744073709551616 (m + 5) 57 ([V.agg [i64 z338, i64 z339], V.agg [i64 z340, i64 z341], i64 z342, i64 z343]) ([]) = some r.out := by
  unfold F57 at h
  obtain ⟨r0, h0, h⟩ := Option.bind_eq_some_iff.mp h
  have h0 := F75_ok (m + 1) (z338) (z339) r0 h0
  cases r0 with
  | a0 z345 z346 =>
    obtain ⟨r1, h1, h⟩ := Option.bind_eq_some_iff.mp h
    have h1 := F75_ok (m + 1) (z340) (z341) r1 h1
    cases r1 with
    | a0 z347 z348 =>
      rcases ite_eq h with ⟨h2, h⟩ | ⟨h2, h⟩
      · skip
        cases h
        exact call_pathL (gs := [.a, .an (V.agg [i64 z345, i64 z346]) [], .a, .an (V.agg [i64 z347, i64 z348]) [], .a, .a, .ft [⟨0, [0], []⟩, ⟨1, [], []⟩, ⟨2, [1], []⟩, ⟨3, [], []⟩, ⟨4, [0], [0]⟩, ⟨5, [1], [1]⟩], .t, .a, .a]) (notIn []) rfl rfl (by kernel_rfl) (And.intro h0 (And.intro h1 (And.intro (Eq.refl ([⟨0, [0], []⟩, ⟨1, [], []⟩, ⟨2, [1], []⟩, ⟨3, [], []⟩, ⟨4, [0], [0]⟩, ⟨5, [1], [1]⟩] : List Foot)) (And.intro (decide_eq_true h2) True.intro))))
      · skip
        rcases ite_eq h with ⟨h3, h⟩ | ⟨h3, h⟩
        · skip
          cases h
          exact call_pathL (gs := [.a, .an (V.agg [i64 z345, i64 z346]) [], .a, .an (V.agg [i64 z347, i64 z348]) [], .a, .a, .ft [⟨0, [0], []⟩, ⟨1, [], []⟩, ⟨2, [1], []⟩, ⟨3, [], []⟩, ⟨4, [0], [0]⟩, ⟨5, [1], [1]⟩], .f, .t, .a, .a]) (notIn []) rfl rfl (by kernel_rfl) (And.intro h0 (And.intro h1 (And.intro (Eq.refl ([⟨0, [0], []⟩, ⟨1, [], []⟩, ⟨2, [1], []⟩, ⟨3, [], []⟩, ⟨4, [0], [0]⟩, ⟨5, [1], [1]⟩] : List Foot)) (And.intro (decide_eq_false h2) (And.intro (decide_eq_true h3) True.intro)))))
        · skip
          obtain ⟨r4, h4, h⟩ := Option.bind_eq_some_iff.mp h
          have h4 := F60_ok (m + 1) (z342) (z343) r4 h4
          cases r4 with
          | a0 z360 =>
            obtain ⟨r5, h5, h⟩ := Option.bind_eq_some_iff.mp h
            have h5 := F77_ok (m + 0) (z345) (z347) (z360) r5 h5
            cases r5 with
            | a0 z397 =>
              obtain ⟨r6, h6, h⟩ := Option.bind_eq_some_iff.mp h
              have h6 := F77_ok (m + 0) (z346) (z348) (z360) r6 h6
              cases r6 with
              | a0 z398 =>
                cases h
                exact call_pathL (gs := [.a, .an (V.agg [i64 z345, i64 z346]) [], .a, .an (V.agg [i64 z347, i64 z348]) [], .a, .a, .ft [⟨0, [0], []⟩, ⟨1, [], []⟩, ⟨2, [1], []⟩, ⟨3, [], []⟩, ⟨4, [0], [0]⟩, ⟨5, [1], [1]⟩], .f, .f, .an (i64 z360) [], .a, .a, .an (i64 z397) [], .a, .a, .an (i64 z398) [], .a, .ft [⟨0, [0], []⟩, ⟨1, [0], []⟩, ⟨2, [1], []⟩, ⟨3, [1], []⟩, ⟨4, [], []⟩, ⟨5, [], []⟩, ⟨6, [0], []⟩, ⟨7, [0], []⟩, ⟨8, [1], []⟩, ⟨9, [1], []⟩, ⟨10, [], []⟩, ⟨11, [], []⟩, ⟨12, [], []⟩, ⟨13, [2], [2]⟩]]) (notIn []) rfl rfl (by kernel_rfl) (And.intro h0 (And.intro h1 (And.intro (Eq.refl ([⟨0, [0], []⟩, ⟨1, [], []⟩, ⟨2, [1], []⟩, ⟨3, [], []⟩, ⟨4, [0], [0]⟩, ⟨5, [1], [1]⟩] : List Foot)) (And.intro (decide_eq_false h2) (And.intro (decide_eq_false h3) (And.intro h4 (And.intro h5 (And.intro h6 (And.intro (Eq.refl ([⟨0, [0], []⟩, ⟨1, [0], []⟩, ⟨2, [1], []⟩, ⟨3, [1], []⟩, ⟨4, [], []⟩, ⟨5, [], []⟩, ⟨6, [0], []⟩, ⟨7, [0], []⟩, ⟨8, [1], []⟩, ⟨9, [1], []⟩, ⟨10, [], []⟩, ⟨11, [], []⟩, ⟨12, [], []⟩, ⟨13, [2], [2]⟩] : List Foot)) True.intro)))))))))
/-! ## 33 -/
noncomputable abbrev B33 : Code := (Try.f33.body).getD .skip
inductive R33_0 where
  | e0 (k459 : Nat) (l460 : List (List V))
@[reducible] def s33_0_0 (z451 : Int) (z452 : Int) (z453 : Int) (z454 : Int) (z455 : Int) (b456 : Bool) (b457 : Bool) (l458 : List (List V)) (k459 : Nat) (l460 : List (List V)) : S := { T := U :: i64 z451 :: i64 z452 :: V.ptr 0 0 0 :: U :: U :: V.ptr 1 0 0 :: V.ptr 2 0 0 :: i64 z453 :: un 13 (i64 z454 :: i64 z455 :: vb b456 :: un 55 []), σ := [Ob.cells true false 2 [[vb b457, V.list 2 l458]], Ob.cells true false 2 [[vb false, V.hs 3 0 0]], Ob.cells true false 2 [[vb false, V.hs 4 0 k459]], Ob.cells true true 2 [], Ob.cells true true 2 l460] }
def R33_0.St : R33_0 → VX × S → Prop
  | .e0 k459 l460, p => ∃ z451 : Int, ∃ z452 : Int, ∃ z453 : Int, ∃ z454 : Int, ∃ z455 : Int, ∃ b456 : Bool, ∃ b457 : Bool, ∃ l458 : List (List V), p = (VX.exit 0, s33_0_0 z451 z452 z453 z454 z455 b456 b457 l458 k459 l460)
def L33_0 : Nat → Int → Int → Int → Int → Int → Bool → List (List V) → Nat → List (List V) → Option R33_0
  | 0, _, _, _, _, _, _, _, _, _ => none
  | n + 1, z404, z405, z406, z407, z408, b409, l410, k411, l412 =>
    if z408 < z407 then
     (F54 (b409) (l410) (z408)).bind fun r => match r with
     | .a0 z434 z435 z436 z437 z438 =>
      if z438 > 0 then
       bnd (F55 (z406) (z438)) fun z439 =>
       if z439 > z404 then
        if z406 < z405 then
         if ((↑k411 : Int) == 0) = true then
          (F57 (z434) (z435) (z436) (z437) (w64 (z404 - z406)) (z438)).bind fun r => match r with
          | .a0 z440 z441 =>
           if 0 + k411 ≤ List.length l412 ∧ (k411 + 1) * 16 ≤ 140737488355328 ∧ k411 + 1 ≤ 140737488355328 then
            (F57 (z434) (z435) (z436) (z437) (w64 (z405 - z406)) (z438)).bind fun r => match r with
            | .a0 z442 z443 =>
             if 0 + (k411 + 1) ≤ List.length (List.take k411 l412 ++ [[i64 z440, i64 z441]]) ∧ (k411 + 1 + 1) * 16 ≤ 140737488355328 ∧ k411 + 1 + 1 ≤ 140737488355328 then
              bnd (F55 (z406) (z438)) fun z444 =>
              L33_0 n (z404) (z405) (z444) (z407) (w64 (z408 + 1)) (b409) (l410) (k411 + 1 + 1) (List.take (k411 + 1) (List.take k411 l412 ++ [[i64 z440, i64 z441]]) ++ [[i64 z442, i64 z443]])
             else
              none -- none
           else
            none -- none
         else
          (F57 (z434) (z435) (z436) (z437) (w64 (z405 - z406)) (z438)).bind fun r => match r with
          | .a0 z445 z446 =>
           if 0 + k411 ≤ List.length l412 ∧ (k411 + 1) * 16 ≤ 140737488355328 ∧ k411 + 1 ≤ 140737488355328 then
            bnd (F55 (z406) (z438)) fun z447 =>
            L33_0 n (z404) (z405) (z447) (z407) (w64 (z408 + 1)) (b409) (l410) (k411 + 1) (List.take k411 l412 ++ [[i64 z445, i64 z446]])
           else
            none -- none
        else
         bnd (F55 (z406) (z438)) fun z448 =>
         L33_0 n (z404) (z405) (z448) (z407) (w64 (z408 + 1)) (b409) (l410) (k411) (l412)
       else
        bnd (F55 (z406) (z438)) fun z449 =>
        L33_0 n (z404) (z405) (z449) (z407) (w64 (z408 + 1)) (b409) (l410) (k411) (l412)
      else
       bnd (F55 (z406) (z438)) fun z450 =>
       L33_0 n (z404) (z405) (z450) (z407) (w64 (z408 + 1)) (b409) (l410) (k411) (l412)
    else
     some (R33_0.e0 (k411) (l412))
theorem L33_0_ok (m : Nat) : ∀ (n : Nat) (z404 : Int) (z405 : Int) (z406 : Int) (z407 : Int) (z408 : Int) (b409 : Bool) (l410 : List (List V)) (k411 : Nat) (l412 : List (List V)) (r : R33_0), L33_0 n z404 z405 z406 z407 z408 b409 l410 k411 l412 = some r → ∃ st, loopFrom Try.prog X (genO X (call Try.prog X O0 18446744073709551616 (m + 5))) 33 (0) 18446744073709551616 B33 0 n ({ T := U :: i64 z404 :: i64 z405 :: V.ptr 0 0 0 :: U :: U :: V.ptr 1 0 0 :: V.ptr 2 0 0 :: i64 z406 :: un 13 (i64 z407 :: i64 z408 :: un 56 []), σ := [Ob.cells true false 2 [[vb b409, V.list 2 l410]], Ob.cells true false 2 [[vb false, V.hs 3 0 0]], Ob.cells true false 2 [[vb false, V.hs 4 0 k411]], Ob.cells true true 2 [], Ob.cells true true 2 l412] }) = some st ∧ r.St st
  | 0, _, _, _, _, _, _, _, _, _, r, h => by cases h
  | n + 1, z404, z405, z406, z407, z408, b409, l410, k411, l412, r, h => by
    rw [L33_0] at h
    rcases ite_eq h with ⟨h0, h⟩ | ⟨h0, h⟩
    · skip
      obtain ⟨r1, h1, h⟩ := Option.bind_eq_some_iff.mp h
      have h1 := F54_ok (m + 1) (b409) (l410) (z408) r1 h1
      cases r1 with
      | a0 z434 z435 z436 z437 z438 =>
        rcases ite_eq h with ⟨h2, h⟩ | ⟨h2, h⟩
        · skip
          obtain ⟨z439, h3, h⟩ := bnd_eq h
          rcases ite_eq h with ⟨h4, h⟩ | ⟨h4, h⟩
          · skip
            rcases ite_eq h with ⟨h5, h⟩ | ⟨h5, h⟩
            · skip
              rcases ite_eq h with ⟨h6, h⟩ | ⟨h6, h⟩
              · skip
                obtain ⟨r7, h7, h⟩ := Option.bind_eq_some_iff.mp h
                have h7 := F57_ok (m + 0) (z434) (z435) (z436) (z437) (w64 (z404 - z406)) (z438) r7 h7
                cases r7 with
                | a0 z440 z441 =>
                  rcases ite_eq h with ⟨h8, h⟩ | ⟨h8, h⟩
                  · skip
                    obtain ⟨r9, h9, h⟩ := Option.bind_eq_some_iff.mp h
                    have h9 := F57_ok (m + 0) (z434) (z435) (z436) (z437) (w64 (z405 - z406)) (z438) r9 h9
                    cases r9 with
                    | a0 z442 z443 =>
                      rcases ite_eq h with ⟨h10, h⟩ | ⟨h10, h⟩
                      · skip
                        obtain ⟨z444, h11, h⟩ := bnd_eq h
                        obtain ⟨st, hs, hr⟩ := L33_0_ok m n (z404) (z405) (z444) (z407) (w64 (z408 + 1)) (b409) (l410) (k411 + 1 + 1) (List.take (k411 + 1) (List.take k411 l412 ++ [[i64 z440, i64 z441]]) ++ [[i64 z442, i64 z443]]) r h
                        exact ⟨st, (round_on (gs := [.t, .a, .an (V.tup [V.agg [i64 z434, i64 z435], V.agg [i64 z436, i64 z437], i64 z438]) [], .a, .a, .t, .t, .t, .an (i64 z439) [], .t, .t, .t, .t, .t, .t, .t, .t, .a, .t, .a, .a, .a, .an (V.agg [i64 z440, i64 z441]) [], .a, .t, .a, .ft [⟨0, [2], []⟩, ⟨1, [2], []⟩, ⟨2, [8], []⟩, ⟨3, [9], []⟩, ⟨4, [], []⟩, ⟨5, [], []⟩, ⟨6, [], []⟩, ⟨7, [], []⟩, ⟨8, [], []⟩, ⟨9, [10], [10]⟩, ⟨10, [10, 11, 4], [4, 11]⟩, ⟨11, [2], []⟩, ⟨12, [2], [2]⟩], .a, .a, .a, .an (V.agg [i64 z442, i64 z443]) [], .a, .t, .a, .ft [⟨0, [2], []⟩, ⟨1, [2], []⟩, ⟨2, [8], []⟩, ⟨3, [9], []⟩, ⟨4, [], []⟩, ⟨5, [], []⟩, ⟨6, [], []⟩, ⟨7, [], []⟩, ⟨8, [], []⟩, ⟨9, [12], [12]⟩, ⟨10, [12, 13, 11], [11, 13]⟩, ⟨11, [2], []⟩, ⟨12, [2], [2]⟩], .an (i64 z444) []]) (notIn []) (by kernel_rfl) (And.intro (decide_eq_true h0) (And.intro h1 (And.intro (decide_eq_true h2) (And.intro (decide_eq_true h2) (And.intro (decide_eq_true h2) (And.intro (F55_ok (m + 2) (z406) (z438) z439 h3) (And.intro (decide_eq_true h2) (And.intro (decide_eq_true h2) (And.intro (decide_eq_true h2) (And.intro (decide_eq_true h4) (And.intro (decide_eq_true h4) (And.intro (decide_eq_true h4) (And.intro (decide_eq_true h4) (And.intro (decide_eq_true h5) (And.intro h6 (And.intro h7 (And.intro (decide_eq_true h8) (And.intro (Eq.refl ([⟨0, [2], []⟩, ⟨1, [2], []⟩, ⟨2, [8], []⟩, ⟨3, [9], []⟩, ⟨4, [], []⟩, ⟨5, [], []⟩, ⟨6, [], []⟩, ⟨7, [], []⟩, ⟨8, [], []⟩, ⟨9, [10], [10]⟩, ⟨10, [10, 11, 4], [4, 11]⟩, ⟨11, [2], []⟩, ⟨12, [2], [2]⟩] : List Foot)) (And.intro h9 (And.intro (decide_eq_true h10) (And.intro (Eq.refl ([⟨0, [2], []⟩, ⟨1, [2], []⟩, ⟨2, [8], []⟩, ⟨3, [9], []⟩, ⟨4, [], []⟩, ⟨5, [], []⟩, ⟨6, [], []⟩, ⟨7, [], []⟩, ⟨8, [], []⟩, ⟨9, [12], [12]⟩, ⟨10, [12, 13, 11], [11, 13]⟩, ⟨11, [2], []⟩, ⟨12, [2], [2]⟩] : List Foot)) (And.intro (F55_ok (m + 2) (z406) (z438) z444 h11) True.intro)))))))))))))))))))))) n).trans hs, hr⟩
                      · skip
                        cases h
                  · skip
                    cases h
              · skip
                obtain ⟨r7, h7, h⟩ := Option.bind_eq_some_iff.mp h
                have h7 := F57_ok (m + 0) (z434) (z435) (z436) (z437) (w64 (z405 - z406)) (z438) r7 h7
                cases r7 with
                | a0 z445 z446 =>
                  rcases ite_eq h with ⟨h8, h⟩ | ⟨h8, h⟩
                  · skip
                    obtain ⟨z447, h9, h⟩ := bnd_eq h
                    obtain ⟨st, hs, hr⟩ := L33_0_ok m n (z404) (z405) (z447) (z407) (w64 (z408 + 1)) (b409) (l410) (k411 + 1) (List.take k411 l412 ++ [[i64 z445, i64 z446]]) r h
                    exact ⟨st, (round_on (gs := [.t, .a, .an (V.tup [V.agg [i64 z434, i64 z435], V.agg [i64 z436, i64 z437], i64 z438]) [], .a, .a, .t, .t, .t, .an (i64 z439) [], .t, .t, .t, .t, .t, .t, .t, .t, .a, .f, .a, .a, .a, .an (V.agg [i64 z445, i64 z446]) [], .a, .t, .a, .ft [⟨0, [2], []⟩, ⟨1, [2], []⟩, ⟨2, [8], []⟩, ⟨3, [9], []⟩, ⟨4, [], []⟩, ⟨5, [], []⟩, ⟨6, [], []⟩, ⟨7, [], []⟩, ⟨8, [], []⟩, ⟨9, [10], [10]⟩, ⟨10, [10, 11, 4], [4, 11]⟩, ⟨11, [2], []⟩, ⟨12, [2], [2]⟩], .an (i64 z447) []]) (notIn []) (by kernel_rfl) (And.intro (decide_eq_true h0) (And.intro h1 (And.intro (decide_eq_true h2) (And.intro (decide_eq_true h2) (And.intro (decide_eq_true h2) (And.intro (F55_ok (m + 2) (z406) (z438) z439 h3) (And.intro (decide_eq_true h2) (And.intro (decide_eq_true h2) (And.intro (decide_eq_true h2) (And.intro (decide_eq_true h4) (And.intro (decide_eq_true h4) (And.intro (decide_eq_true h4) (And.intro (decide_eq_true h4) (And.intro (decide_eq_true h5) (And.intro (Bool.eq_false_iff.mpr h6) (And.intro h7 (And.intro (decide_eq_true h8) (And.intro (Eq.refl ([⟨0, [2], []⟩, ⟨1, [2], []⟩, ⟨2, [8], []⟩, ⟨3, [9], []⟩, ⟨4, [], []⟩, ⟨5, [], []⟩, ⟨6, [], []⟩, ⟨7, [], []⟩, ⟨8, [], []⟩, ⟨9, [10], [10]⟩, ⟨10, [10, 11, 4], [4, 11]⟩, ⟨11, [2], []⟩, ⟨12, [2], [2]⟩] : List Foot)) (And.intro (F55_ok (m + 2) (z406) (z438) z447 h9) True.intro))))))))))))))))))) n).trans hs, hr⟩
                  · skip
                    cases h
            · skip
              obtain ⟨z448, h6, h⟩ := bnd_eq h
              obtain ⟨st, hs, hr⟩ := L33_0_ok m n (z404) (z405) (z448) (z407) (w64 (z408 + 1)) (b409) (l410) (k411) (l412) r h
              exact ⟨st, (round_on (gs := [.t, .a, .an (V.tup [V.agg [i64 z434, i64 z435], V.agg [i64 z436, i64 z437], i64 z438]) [], .a, .a, .t, .t, .t, .an (i64 z439) [], .t, .t, .t, .t, .t, .t, .t, .f, .an (i64 z448) []]) (notIn []) (by kernel_rfl) (And.intro (decide_eq_true h0) (And.intro h1 (And.intro (decide_eq_true h2) (And.intro (decide_eq_true h2) (And.intro (decide_eq_true h2) (And.intro (F55_ok (m + 2) (z406) (z438) z439 h3) (And.intro (decide_eq_true h2) (And.intro (decide_eq_true h2) (And.intro (decide_eq_true h2) (And.intro (decide_eq_true h4) (And.intro (decide_eq_true h4) (And.intro (decide_eq_true h4) (And.intro (decide_eq_true h4) (And.intro (decide_eq_false h5) (And.intro (F55_ok (m + 2) (z406) (z438) z448 h6) True.intro))))))))))))))) n).trans hs, hr⟩
          · skip
            obtain ⟨z449, h5, h⟩ := bnd_eq h
            obtain ⟨st, hs, hr⟩ := L33_0_ok m n (z404) (z405) (z449) (z407) (w64 (z408 + 1)) (b409) (l410) (k411) (l412) r h
            exact ⟨st, (round_on (gs := [.t, .a, .an (V.tup [V.agg [i64 z434, i64 z435], V.agg [i64 z436, i64 z437], i64 z438]) [], .a, .a, .t, .t, .t, .an (i64 z439) [], .t, .t, .t, .f, .f, .f, .f, .a, .an (i64 z449) []]) (notIn []) (by kernel_rfl) (And.intro (decide_eq_true h0) (And.intro h1 (And.intro (decide_eq_true h2) (And.intro (decide_eq_true h2) (And.intro (decide_eq_true h2) (And.intro (F55_ok (m + 2) (z406) (z438) z439 h3) (And.intro (decide_eq_true h2) (And.intro (decide_eq_true h2) (And.intro (decide_eq_true h2) (And.intro (decide_eq_false h4) (And.intro (decide_eq_false h4) (And.intro (decide_eq_false h4) (And.intro (decide_eq_false h4) (And.intro (F55_ok (m + 2) (z406) (z438) z449 h5) True.intro)))))))))))))) n).trans hs, hr⟩
        · skip
          obtain ⟨z450, h3, h⟩ := bnd_eq h
          obtain ⟨st, hs, hr⟩ := L33_0_ok m n (z404) (z405) (z450) (z407) (w64 (z408 + 1)) (b409) (l410) (k411) (l412) r h
          exact ⟨st, (round_on (gs := [.t, .a, .an (V.tup [V.agg [i64 z434, i64 z435], V.agg [i64 z436, i64 z437], i64 z438]) [], .a, .a, .f, .f, .f, .f, .f, .f, .a, .a, .a, .a, .a, .an (i64 z450) []]) (notIn []) (by kernel_rfl) (And.intro (decide_eq_true h0) (And.intro h1 (And.intro (decide_eq_false h2) (And.intro (decide_eq_false h2) (And.intro (decide_eq_false h2) (And.intro (decide_eq_false h2) (And.intro (decide_eq_false h2) (And.intro (decide_eq_false h2) (And.intro (F55_ok (m + 2) (z406) (z438) z450 h3) True.intro))))))))) n).trans hs, hr⟩
    · skip
      cases h
      exact ⟨_, round_out (gs := [.f]) (notIn []) (by kernel_rfl) rfl (And.intro (decide_eq_false h0) True.intro) n, z404, z405, z406, z407, z408, decide (z408 < z407), b409, l410, rfl⟩
inductive A33 where
  | a0 (b430 : Bool) (k431 : Nat) (l432 : List (List V))
@[reducible] def A33.out : A33 → V × Store
  | .a0 b430 k431 l432 => (V.agg [vb b430, V.hs 0 0 k431], [Ob.cells true true 2 l432])
def F33 (b316 : Bool) (l317 : List (List V)) (z318 : Int) (z319 : Int) : Option A33 :=
  bnd (F56 (z318)) fun z428 =>
  bnd (F56 (z319)) fun z429 =>
  if z428 ≥ z429 then
   some (A33.a0 (false) (0) ([]))
  else
   bnd (F53 (b316) (l317)) fun z433 =>
   (L33_0 18446744073709551616 (z428) (z429) (0) (z433) (0) (b316) (l317) (0) ([])).bind fun r => match r with
   | .e0 k469 l470 =>
    some (A33.a0 (false) (k469) (l470))
theorem F33_ok (m : Nat) (b316 : Bool) (l317 : List (List V)) (z318 : Int) (z319 : Int) (r : A33) (h : F33 b316 l317 z318 z319 = some r) : call Try.prog X O0 18446744073709551616 (m + 6) 33 ([V.agg [vb b316, V.list 2 l317], i64 z318, i64 z319]) ([]) = some r.out := by
  unfold F33 at h
  obtain ⟨z428, h0, h⟩ := bnd_eq h
  obtain ⟨z429, h1, h⟩ := bnd_eq h
  rcases ite_eq h with ⟨h2, h⟩ | ⟨h2, h⟩
  · skip
    cases h
    exact call_pathL (gs := [.an (i64 z428) [], .an (i64 z429) [], .t, .a, .a]) (notIn []) rfl rfl (by kernel_rfl) (And.intro (F56_ok (m + 3) (z318) z428 h0) (And.intro (F56_ok (m + 3) (z319) z429 h1) (And.intro (decide_eq_true h2) True.intro)))
  · skip
    obtain ⟨z433, h3, h⟩ := bnd_eq h
    obtain ⟨r4, h4, h⟩ := Option.bind_eq_some_iff.mp h
    obtain ⟨st4, h4, hr4⟩ := L33_0_ok m 18446744073709551616 (z428) (z429) (0) (z433) (0) (b316) (l317) (0) ([]) r4 h4
    have h4 : loopRun Try.prog X (genO X (call Try.prog X O0 18446744073709551616 (m + 5))) 33 (0) 18446744073709551616 B33 0 ({ T := V.agg [vb b316, V.list 2 l317] :: i64 z428 :: i64 z429 :: V.ptr 0 0 0 :: U :: U :: V.ptr 1 0 0 :: V.ptr 2 0 0 :: i64 0 :: un 4 (i64 z318 :: i64 z428 :: i64 z319 :: i64 z429 :: i64 z428 :: i64 z429 :: vb (decide (z428 ≥ z429)) :: U :: V.agg [vb b316, V.list 2 l317] :: i64 z433 :: i64 0 :: un 56 []), σ := [Ob.cells true false 2 [[vb b316, V.list 2 l317]], Ob.cells true false 2 [[vb false, V.nilS]], Ob.cells true false 2 [[vb false, V.nilS]]] }) = some st4 := by
      rw [loopRun_from, show pre X 33 (0) 0 ({ T := V.agg [vb b316, V.list 2 l317] :: i64 z428 :: i64 z429 :: V.ptr 0 0 0 :: U :: U :: V.ptr 1 0 0 :: V.ptr 2 0 0 :: i64 0 :: un 4 (i64 z318 :: i64 z428 :: i64 z319 :: i64 z429 :: i64 z428 :: i64 z429 :: vb (decide (z428 ≥ z429)) :: U :: V.agg [vb b316, V.list 2 l317] :: i64 z433 :: i64 0 :: un 56 []), σ := [Ob.cells true false 2 [[vb b316, V.list 2 l317]], Ob.cells true false 2 [[vb false, V.nilS]], Ob.cells true false 2 [[vb false, V.nilS]]] }) = { T := U :: i64 z428 :: i64 z429 :: V.ptr 0 0 0 :: U :: U :: V.ptr 1 0 0 :: V.ptr 2 0 0 :: i64 0 :: un 13 (i64 z433 :: i64 0 :: un 56 []), σ := [Ob.cells true false 2 [[vb b316, V.list 2 l317]], Ob.cells true false 2 [[vb false, V.hs 3 0 0]], Ob.cells true false 2 [[vb false, V.hs 4 0 0]], Ob.cells true true 2 [], Ob.cells true true 2 []] } by kernel_rfl]
      exact h4
    cases r4 with
    | e0 k469 l470 =>
      obtain ⟨z461, z462, z463, z464, z465, b466, b467, l468, rfl⟩ := hr4
      cases h
      exact call_pathL (gs := [.an (i64 z428) [], .an (i64 z429) [], .f, .a, .an (i64 z433) [], .lp (VX.exit 0) (s33_0_0 z461 z462 z463 z464 z465 b466 b467 l468 k469 l470), .a, .a]) (notIn []) rfl rfl (by kernel_rfl) (And.intro (F56_ok (m + 3) (z318) z428 h0) (And.intro (F56_ok (m + 3) (z319) z429 h1) (And.intro (decide_eq_false h2) (And.intro (F53_ok (m + 4) (b316) (l317) z433 h3) (And.intro h4 True.intro)))))
/-! ## 12 -/
noncomputable abbrev B12 : Code := (Try.f12.body).getD .skip
inductive R12_0 where
  | e0 (k503 : Nat) (l511 : List (List V))
  | e1 (k513 : Nat) (l520 : List (List V))
@[reducible] def s12_0_0 (l502 : List (List V)) (k503 : Nat) (z504 : Int) (z505 : Int) (z506 : Int) (b507 : Bool) (b508 : Bool) (b509 : Bool) (l510 : List (List V)) (l511 : List (List V)) : S := { T := U :: V.list 1 l502 :: V.ptr 0 0 0 :: U :: U :: V.hs 1 0 k503 :: i64 z504 :: i64 z505 :: i64 z506 :: un 19 (i64 z506 :: vb b507 :: vb b507 :: i64 z505 :: i64 z504 :: vb b508 :: vb b508 :: un 30 []), σ := [Ob.cells true false 2 [[vb b509, V.list 2 l510]], Ob.cells true true 2 l511] }
@[reducible] def s12_0_1 (l512 : List (List V)) (k513 : Nat) (z514 : Int) (z515 : Int) (z516 : Int) (b517 : Bool) (b518 : Bool) (l519 : List (List V)) (l520 : List (List V)) : S := { T := U :: V.list 1 l512 :: V.ptr 0 0 0 :: U :: U :: V.hs 1 0 k513 :: i64 z514 :: i64 z515 :: i64 z516 :: un 19 (i64 z516 :: vb b517 :: vb b517 :: E :: E :: E :: vb false :: un 30 []), σ := [Ob.cells true false 2 [[vb b518, V.list 2 l519]], Ob.cells true true 2 l520] }
def R12_0.St : R12_0 → VX × S → Prop
  | .e0 k503 l511, p => ∃ l502 : List (List V), ∃ z504 : Int, ∃ z505 : Int, ∃ z506 : Int, ∃ b507 : Bool, ∃ b508 : Bool, ∃ b509 : Bool, ∃ l510 : List (List V), p = (VX.exit 0, s12_0_0 l502 k503 z504 z505 z506 b507 b508 b509 l510 l511)
  | .e1 k513 l520, p => ∃ l512 : List (List V), ∃ z514 : Int, ∃ z515 : Int, ∃ z516 : Int, ∃ b517 : Bool, ∃ b518 : Bool, ∃ l519 : List (List V), p = (VX.exit 0, s12_0_1 l512 k513 z514 z515 z516 b517 b518 l519 l520)
def L12_0 : Nat → List (List V) → Nat → Int → Int → Int → Bool → List (List V) → List (List V) → Option R12_0
  | 0, _, _, _, _, _, _, _, _ => none
  | n + 1, l474, k475, z476, z477, z478, b479, l480, l481 =>
    if z478 < 128 then
     if z477 < z476 then
      if (↑(List.length l474) : Int) = 0 then
       none -- none
      else
       if 0 ≤ Int.tmod z478 (↑(List.length l474) : Int) then
        ((l474[Int.toNat (Int.tmod z478 (↑(List.length l474) : Int))]?).bind W2.dec).bind fun e498 =>
        if (Int.tmod z478 2 == 0) = true then
         (F33 (b479) (l480) (z477) (w64 (z477 + e498.c0))).bind fun r => match r with
         | .a0 b499 k500 l501 =>
          if (↑k500 : Int) ≥ 2 then
           if 0 + k500 ≤ List.length l501 then
            if 0 + k475 ≤ List.length l481 ∧ (k475 + 1) * 32 ≤ 140737488355328 ∧ k475 + 1 ≤ 140737488355328 then
             L12_0 n (l474) (k475 + 1) (z476) (w64 (z477 + e498.c0)) (w64 (z478 + 1)) (b479) (l480) (List.take k475 l481 ++ [[vb b499, V.list 2 (List.take k500 l501)]])
            else
             none -- none
           else
            none -- none
          else
           L12_0 n (l474) (k475) (z476) (w64 (z477 + e498.c0)) (w64 (z478 + 1)) (b479) (l480) (l481)
        else
         L12_0 n (l474) (k475) (z476) (w64 (z477 + e498.c0)) (w64 (z478 + 1)) (b479) (l480) (l481)
       else
        none -- none
     else
      some (R12_0.e0 (k475) (l481))
    else
     some (R12_0.e1 (k475) (l481))
theorem L12_0_ok (m : Nat) : ∀ (n : Nat) (l474 : List (List V)) (k475 : Nat) (z476 : Int) (z477 : Int) (z478 : Int) (b479 : Bool) (l480 : List (List V)) (l481 : List (List V)) (r : R12_0), L12_0 n l474 k475 z476 z477 z478 b479 l480 l481 = some r → ∃ st, loopFrom Try.prog X (genO X (call Try.prog X O0 18446744073709551616 (m + 6))) 12 (0) 18446744073709551616 B12 0 n ({ T := U :: V.list 1 l474 :: V.ptr 0 0 0 :: U :: U :: V.hs 1 0 k475 :: i64 z476 :: i64 z477 :: i64 z478 :: un 56 [], σ := [Ob.cells true false 2 [[vb b479, V.list 2 l480]], Ob.cells true true 2 l481] }) = some st ∧ r.St st
  | 0, _, _, _, _, _, _, _, _, r, h => by cases h
  | n + 1, l474, k475, z476, z477, z478, b479, l480, l481, r, h => by
    rw [L12_0] at h
    rcases ite_eq h with ⟨h0, h⟩ | ⟨h0, h⟩
    · skip
      rcases ite_eq h with ⟨h1, h⟩ | ⟨h1, h⟩
      · skip
        rcases ite_eq h with ⟨h2, h⟩ | ⟨h2, h⟩
        · skip
          cases h
        · skip
          rcases ite_eq h with ⟨h3, h⟩ | ⟨h3, h⟩
          · skip
            obtain ⟨e498, h4, h⟩ := Option.bind_eq_some_iff.mp h
            rcases ite_eq h with ⟨h5, h⟩ | ⟨h5, h⟩
            · skip
              obtain ⟨r6, h6, h⟩ := Option.bind_eq_some_iff.mp h
              have h6 := F33_ok (m + 0) (b479) (l480) (z477) (w64 (z477 + e498.c0)) r6 h6
              cases r6 with
              | a0 b499 k500 l501 =>
                rcases ite_eq h with ⟨h7, h⟩ | ⟨h7, h⟩
                · skip
                  rcases ite_eq h with ⟨h8, h⟩ | ⟨h8, h⟩
                  · skip
                    rcases ite_eq h with ⟨h9, h⟩ | ⟨h9, h⟩
                    · skip
                      obtain ⟨st, hs, hr⟩ := L12_0_ok m n (l474) (k475 + 1) (z476) (w64 (z477 + e498.c0)) (w64 (z478 + 1)) (b479) (l480) (List.take k475 l481 ++ [[vb b499, V.list 2 (List.take k500 l501)]]) r h
                      exact ⟨st, (round_on (gs := [.t, .t, .t, .t, .t, .f, .t, .el (W2.cells e498), .a, .t, .a, .an (V.agg [vb b499, V.hs 0 0 k500]) [Ob.cells true true 2 l501], .a, .a, .t, .a, .t, .a, .t]) (notIn []) (by kernel_rfl) (And.intro (decide_eq_true h0) (And.intro (decide_eq_true h0) (And.intro (decide_eq_true h0) (And.intro (decide_eq_true h0) (And.intro (decide_eq_true h1) (And.intro (decide_eq_false h2) (And.intro (decide_eq_true h3) (And.intro (W2.dec_ok h4) (And.intro h5 (And.intro h6 (And.intro (decide_eq_true h7) (And.intro (decide_eq_true h8) (And.intro (decide_eq_true h9) True.intro))))))))))))) n).trans hs, hr⟩
                    · skip
                      cases h
                  · skip
                    cases h
                · skip
                  obtain ⟨st, hs, hr⟩ := L12_0_ok m n (l474) (k475) (z476) (w64 (z477 + e498.c0)) (w64 (z478 + 1)) (b479) (l480) (l481) r h
                  exact ⟨st, (round_on (gs := [.t, .t, .t, .t, .t, .f, .t, .el (W2.cells e498), .a, .t, .a, .an (V.agg [vb b499, V.hs 0 0 k500]) [Ob.cells true true 2 l501], .a, .a, .f]) (notIn []) (by kernel_rfl) (And.intro (decide_eq_true h0) (And.intro (decide_eq_true h0) (And.intro (decide_eq_true h0) (And.intro (decide_eq_true h0) (And.intro (decide_eq_true h1) (And.intro (decide_eq_false h2) (And.intro (decide_eq_true h3) (And.intro (W2.dec_ok h4) (And.intro h5 (And.intro h6 (And.intro (decide_eq_false h7) True.intro))))))))))) n).trans hs, hr⟩
            · skip
              obtain ⟨st, hs, hr⟩ := L12_0_ok m n (l474) (k475) (z476) (w64 (z477 + e498.c0)) (w64 (z478 + 1)) (b479) (l480) (l481) r h
              exact ⟨st, (round_on (gs := [.t, .t, .t, .t, .t, .f, .t, .el (W2.cells e498), .a, .f]) (notIn []) (by kernel_rfl) (And.intro (decide_eq_true h0) (And.intro (decide_eq_true h0) (And.intro (decide_eq_true h0) (And.intro (decide_eq_true h0) (And.intro (decide_eq_true h1) (And.intro (decide_eq_false h2) (And.intro (decide_eq_true h3) (And.intro (W2.dec_ok h4) (And.intro (Bool.eq_false_iff.mpr h5) True.intro))))))))) n).trans hs, hr⟩
          · skip
            cases h
      · skip
        cases h
        exact ⟨_, round_out (gs := [.t, .t, .t, .t, .f]) (notIn []) (by kernel_rfl) rfl (And.intro (decide_eq_true h0) (And.intro (decide_eq_true h0) (And.intro (decide_eq_true h0) (And.intro (decide_eq_true h0) (And.intro (decide_eq_false h1) True.intro))))) n, l474, z476, z477, z478, decide (z478 < 128), decide (z477 < z476), b479, l480, rfl⟩
    · skip
      cases h
      exact ⟨_, round_out (gs := [.f, .f, .f, .f, .a]) (notIn []) (by kernel_rfl) rfl (And.intro (decide_eq_false h0) (And.intro (decide_eq_false h0) (And.intro (decide_eq_false h0) (And.intro (decide_eq_false h0) True.intro)))) n, l474, z476, z477, z478, decide (z478 < 128), b479, l480, rfl⟩
inductive A12 where
  | a0 (k493 : Nat) (l494 : List (List V))
@[reducible] def A12.out : A12 → V × Store
  | .a0 k493 l494 => (V.hs 0 0 k493, [Ob.cells true true 2 l494])
def F12 (b117 : Bool) (l118 : List (List V)) (l119 : List (List V)) : Option A12 :=
  if ((↑(List.length l119) : Int) == 0) = true then
   (F31 (l118)).bind fun r => match r with
   | .a0 l492 =>
    if 0 + List.length l492 ≤ List.length l492 then
     some (A12.a0 (1) ([[vb b117, V.list 2 (List.take (List.length l492) l492)]]))
    else
     none -- none
  else
   (F30 (l119)).bind fun r => match r with
   | .a0 b495 =>
    if (!b495) = true then
     (F31 (l118)).bind fun r => match r with
     | .a0 l496 =>
      if 0 + List.length l496 ≤ List.length l496 then
       some (A12.a0 (1) ([[vb b117, V.list 2 (List.take (List.length l496) l496)]]))
      else
       none -- none
    else
     (F32 (b117) (l118)).bind fun r => match r with
     | .a0 z497 =>
      (L12_0 18446744073709551616 (l119) (0) (z497) (0) (0) (b117) (l118) ([])).bind fun r => match r with
      | .e0 k522 l530 =>
       some (A12.a0 (k522) (l530))
      | .e1 k532 l539 =>
       some (A12.a0 (k532) (l539))
theorem F12_ok (m : Nat) (b117 : Bool) (l118 : List (List V)) (l119 : List (List V)) (r : A12) (h : F12 b117 l118 l119 = some r) : call Try.prog X O0 18446744073709551616 (m + 7) 12 ([V.agg [vb b117, V.list 2 l118], V.list 1 l119]) ([]) = some r.out := by
  unfold F12 at h
  rcases ite_eq h with ⟨h0, h⟩ | ⟨h0, h⟩
  · skip
    obtain ⟨r1, h1, h⟩ := Option.bind_eq_some_iff.mp h
    have h1 := F31_ok (m + 5) (l118) r1 h1
    cases r1 with
    | a0 l492 =>
      rcases ite_eq h with ⟨h2, h⟩ | ⟨h2, h⟩
      · skip
        cases h
        exact call_pathL (gs := [.t, .t, .t, .t, .a, .a, .a, .an (V.hs 0 0 (List.length l492)) [Ob.cells true true 2 l492], .t, .ft [⟨0, [0], []⟩, ⟨1, [0], []⟩, ⟨2, [0], []⟩, ⟨3, [0], []⟩, ⟨4, [1], [1]⟩, ⟨5, [], []⟩, ⟨6, [1, 2], [1, 2]⟩, ⟨7, [], []⟩]]) (notIn []) rfl rfl (by kernel_rfl) (And.intro h0 (And.intro h0 (And.intro h0 (And.intro h0 (And.intro h1 (And.intro (decide_eq_true h2) (And.intro (Eq.refl ([⟨0, [0], []⟩, ⟨1, [0], []⟩, ⟨2, [0], []⟩, ⟨3, [0], []⟩, ⟨4, [1], [1]⟩, ⟨5, [], []⟩, ⟨6, [1, 2], [1, 2]⟩, ⟨7, [], []⟩] : List Foot)) True.intro)))))))
      · skip
        cases h
  · skip
    obtain ⟨r1, h1, h⟩ := Option.bind_eq_some_iff.mp h
    have h1 := F30_ok (m + 2) (l119) r1 h1
    cases r1 with
    | a0 b495 =>
      rcases ite_eq h with ⟨h2, h⟩ | ⟨h2, h⟩
      · skip
        obtain ⟨r3, h3, h⟩ := Option.bind_eq_some_iff.mp h
        have h3 := F31_ok (m + 5) (l118) r3 h3
        cases r3 with
        | a0 l496 =>
          rcases ite_eq h with ⟨h4, h⟩ | ⟨h4, h⟩
          · skip
            cases h
            exact call_pathL (gs := [.f, .f, .an (vb b495) [], .f, .f, .t, .a, .a, .an (V.hs 0 0 (List.length l496)) [Ob.cells true true 2 l496], .t, .ft [⟨0, [0], []⟩, ⟨1, [0], []⟩, ⟨2, [0], []⟩, ⟨3, [0], []⟩, ⟨4, [1], [1]⟩, ⟨5, [], []⟩, ⟨6, [1, 2], [1, 2]⟩, ⟨7, [], []⟩]]) (notIn []) rfl rfl (by kernel_rfl) (And.intro (Bool.eq_false_iff.mpr h0) (And.intro (Bool.eq_false_iff.mpr h0) (And.intro h1 (And.intro (Bool.eq_false_iff.mpr h0) (And.intro (Bool.eq_false_iff.mpr h0) (And.intro h2 (And.intro h3 (And.intro (decide_eq_true h4) (And.intro (Eq.refl ([⟨0, [0], []⟩, ⟨1, [0], []⟩, ⟨2, [0], []⟩, ⟨3, [0], []⟩, ⟨4, [1], [1]⟩, ⟨5, [], []⟩, ⟨6, [1, 2], [1, 2]⟩, ⟨7, [], []⟩] : List Foot)) True.intro)))))))))
          · skip
            cases h
      · skip
        obtain ⟨r3, h3, h⟩ := Option.bind_eq_some_iff.mp h
        have h3 := F32_ok (m + 1) (b117) (l118) r3 h3
        cases r3 with
        | a0 z497 =>
          obtain ⟨r4, h4, h⟩ := Option.bind_eq_some_iff.mp h
          obtain ⟨st4, h4, hr4⟩ := L12_0_ok m 18446744073709551616 (l119) (0) (z497) (0) (0) (b117) (l118) ([]) r4 h4
          have h4 : loopRun Try.prog X (genO X (call Try.prog X O0 18446744073709551616 (m + 6))) 12 (0) 18446744073709551616 B12 0 ({ T := V.agg [vb b117, V.list 2 l118] :: V.list 1 l119 :: V.ptr 0 0 0 :: U :: V.nilS :: V.nilS :: i64 z497 :: i64 0 :: i64 0 :: U :: U :: V.list 1 l119 :: i64 (↑(List.length l119) : Int) :: vb ((↑(List.length l119) : Int) == 0) :: vb ((↑(List.length l119) : Int) == 0) :: V.list 1 l119 :: vb b495 :: (vb !b495) :: (vb !b495) :: un 7 (V.agg [vb b117, V.list 2 l118] :: i64 z497 :: un 37 []), σ := [Ob.cells true false 2 [[vb b117, V.list 2 l118]]] }) = some st4 := by
            rw [loopRun_from, show pre X 12 (0) 0 ({ T := V.agg [vb b117, V.list 2 l118] :: V.list 1 l119 :: V.ptr 0 0 0 :: U :: V.nilS :: V.nilS :: i64 z497 :: i64 0 :: i64 0 :: U :: U :: V.list 1 l119 :: i64 (↑(List.length l119) : Int) :: vb ((↑(List.length l119) : Int) == 0) :: vb ((↑(List.length l119) : Int) == 0) :: V.list 1 l119 :: vb b495 :: (vb !b495) :: (vb !b495) :: un 7 (V.agg [vb b117, V.list 2 l118] :: i64 z497 :: un 37 []), σ := [Ob.cells true false 2 [[vb b117, V.list 2 l118]]] }) = { T := U :: V.list 1 l119 :: V.ptr 0 0 0 :: U :: U :: V.hs 1 0 0 :: i64 z497 :: i64 0 :: i64 0 :: un 56 [], σ := [Ob.cells true false 2 [[vb b117, V.list 2 l118]], Ob.cells true true 2 []] } by kernel_rfl]
            exact h4
          cases r4 with
          | e0 k522 l530 =>
            obtain ⟨l521, z523, z524, z525, b526, b527, b528, l529, rfl⟩ := hr4
            cases h
            exact call_pathL (gs := [.f, .f, .an (vb b495) [], .f, .f, .f, .a, .an (i64 z497) [], .lp (VX.exit 0) (s12_0_0 l521 k522 z523 z524 z525 b526 b527 b528 l529 l530)]) (notIn []) rfl rfl (by kernel_rfl) (And.intro (Bool.eq_false_iff.mpr h0) (And.intro (Bool.eq_false_iff.mpr h0) (And.intro h1 (And.intro (Bool.eq_false_iff.mpr h0) (And.intro (Bool.eq_false_iff.mpr h0) (And.intro (Bool.eq_false_iff.mpr h2) (And.intro h3 (And.intro h4 True.intro))))))))
          | e1 k532 l539 =>
            obtain ⟨l531, z533, z534, z535, b536, b537, l538, rfl⟩ := hr4
            cases h
            exact call_pathL (gs := [.f, .f, .an (vb b495) [], .f, .f, .f, .a, .an (i64 z497) [], .lp (VX.exit 0) (s12_0_1 l531 k532 z533 z534 z535 b536 b537 l538 l539)]) (notIn []) rfl rfl (by kernel_rfl) (And.intro (Bool.eq_false_iff.mpr h0) (And.intro (Bool.eq_false_iff.mpr h0) (And.intro h1 (And.intro (Bool.eq_false_iff.mpr h0) (And.intro (Bool.eq_false_iff.mpr h0) (And.intro (Bool.eq_false_iff.mpr h2) (And.intro h3 (And.intro h4 True.intro))))))))
/-! ## 21 -/
def F21 (b555 : Bool) (l556 : List (List V)) : Int :=
  if (↑(List.length l556) : Int) < 2 then
   0
  else
   if (b555) = true then
    (↑(List.length l556) : Int)
   else
    w64 ((↑(List.length l556) : Int) - 1)
theorem F21_ok (m : Nat) (b555 : Bool) (l556 : List (List V)) (z559 : Int) (h : F21 b555 l556 = z559) : call Try.prog X O0 18446744073709551616 (m + 1) 21 ([V.agg [vb b555, V.list 2 l556]]) ([]) = some (i64 z559, []) := by
  unfold F21 at h
  rcases ite_eq h with ⟨h0, h⟩ | ⟨h0, h⟩
  · skip
    subst h
    exact call_pathL (gs := [.a, .t]) (notIn []) rfl rfl (by kernel_rfl) (And.intro (decide_eq_true h0) True.intro)
  · skip
    rcases ite_eq h with ⟨h1, h⟩ | ⟨h1, h⟩
    · skip
      subst h
      exact call_pathL (gs := [.a, .f, .a, .t]) (notIn []) rfl rfl (by kernel_rfl) (And.intro (decide_eq_false h0) (And.intro h1 True.intro))
    · skip
      subst h
      exact call_pathL (gs := [.a, .f, .a, .f]) (notIn []) rfl rfl (by kernel_rfl) (And.intro (decide_eq_false h0) (And.intro (Bool.eq_false_iff.mpr h1) True.intro))
/-! ## 67 -/
def F67 (z571 : Int) (z572 : Int) (z573 : Int) : Int :=
  if z571 < z572 then
   z572
  else
   if z571 > z573 then
    z573
   else
    z571
theorem F67_ok (m : Nat) (z571 : Int) (z572 : Int) (z573 : Int) (z576 : Int) (h : F67 z571 z572 z573 = z576) : call Try.prog X O0 18446744073709551616 (m + 1) 67 ([i64 z571, i64 z572, i64 z573]) ([]) = some (i64 z576, []) := by
  unfold F67 at h
  rcases ite_eq h with ⟨h0, h⟩ | ⟨h0, h⟩
  · skip
    subst h
    exact call_pathL (gs := [.t]) (notIn []) rfl rfl (by kernel_rfl) (And.intro (decide_eq_true h0) True.intro)
  · skip
    rcases ite_eq h with ⟨h1, h⟩ | ⟨h1, h⟩
    · skip
      subst h
      exact call_pathL (gs := [.f, .t]) (notIn []) rfl rfl (by kernel_rfl) (And.intro (decide_eq_false h0) (And.intro (decide_eq_true h1) True.intro))
    · skip
      subst h
      exact call_pathL (gs := [.f, .f]) (notIn []) rfl rfl (by kernel_rfl) (And.intro (decide_eq_false h0) (And.intro (decide_eq_false h1) True.intro))
/-! ## 78 -/
def F78 (z569 : Int) : Int :=
  bnd (F67 (z569) (-536870912) (536870912)) fun z577 =>
  z577
theorem F78_ok (m : Nat) (z569 : Int) (z579 : Int) (h : F78 z569 = z579) : call Try.prog X O0 18446744073709551616 (m + 2) 78 ([i64 z569]) ([]) = some (i64 z579, []) := by
  unfold F78 at h
  obtain ⟨z577, h0, h⟩ := bnd_eq h
  subst h
  exact call_pathL (gs := [.an (i64 z577) []]) (notIn []) rfl rfl (by kernel_rfl) (And.intro (F67_ok (m + 0) (z569) (-536870912) (536870912) z577 h0) True.intro)
/-! ## 58 -/
inductive A58 where
  | a0 (z582 : Int) (z583 : Int)
@[reducible] def A58.out : A58 → V × Store
  | .a0 z582 z583 => (V.agg [i64 z582, i64 z583], [])
def F58 (z566 : Int) (z567 : Int) : Option A58 :=
  bnd (F78 (z566)) fun z580 =>
  bnd (F78 (z567)) fun z581 =>
  some (A58.a0 (z580) (z581))
theorem F58_ok (m : Nat) (z566 : Int) (z567 : Int) (r : A58) (h : F58 z566 z567 = some r) : call Try.prog X O0 18446744073709551616 (m + 3) 58 ([V.agg [i64 z566, i64 z567]]) ([]) = some r.out := by
  unfold F58 at h
  obtain ⟨z580, h0, h⟩ := bnd_eq h
  obtain ⟨z581, h1, h⟩ := bnd_eq h
  cases h
  exact call_pathL (gs := [.a, .an (i64 z580) [], .a, .an (i64 z581) [], .a, .ft [⟨0, [0], []⟩, ⟨1, [0], []⟩, ⟨2, [], []⟩, ⟨3, [0], []⟩, ⟨4, [0], []⟩, ⟨5, [], []⟩, ⟨6, [], []⟩, ⟨7, [1], [1]⟩]]) (notIn []) rfl rfl (by kernel_rfl) (And.intro (F78_ok (m + 0) (z566) z580 h0) (And.intro (F78_ok (m + 0) (z567) z581 h1) (And.intro (Eq.refl ([⟨0, [0], []⟩, ⟨1, [0], []⟩, ⟨2, [], []⟩, ⟨3, [0], []⟩, ⟨4, [0], []⟩, ⟨5, [], []⟩, ⟨6, [], []⟩, ⟨7, [1], [1]⟩] : List Foot)) True.intro)))
/-! ## 34 -/
inductive A34 where
  | a0 (z589 : Int) (z590 : Int) (z591 : Int) (z592 : Int)
@[reducible] def A34.out : A34 → V × Store
  | .a0 z589 z590 z591 z592 => (V.tup [V.agg [i64 z589, i64 z590], V.agg [i64 z591, i64 z592]], [])
def F34 (b561 : Bool) (l562 : List (List V)) (z563 : Int) : Option A34 :=
  if 0 ≤ z563 then
   ((l562[Int.toNat z563]?).bind W43.dec).bind fun e565 =>
   (F58 (e565.c0) (e565.c1)).bind fun r => match r with
   | .a0 z584 z585 =>
    if (↑(List.length l562) : Int) = 0 then
     none -- none
    else
     if 0 ≤ Int.tmod (w64 (z563 + 1)) (↑(List.length l562) : Int) then
      ((l562[Int.toNat (Int.tmod (w64 (z563 + (1 : Int))) (↑(List.length l562) : Int))]?).bind W43.dec).bind fun e586 =>
      (F58 (e586.c0) (e586.c1)).bind fun r => match r with
      | .a0 z587 z588 =>
       some (A34.a0 (z584) (z585) (z587) (z588))
     else
      none -- none
  else
   none -- none
theorem F34_ok (m : Nat) (b561 : Bool) (l562 : List (List V)) (z563 : Int) (r : A34) (h : F34 b561 l562 z563 = some r) : call Try.prog X O0 18446744073709551616 (m + 4) 34 ([V.agg [vb b561, V.list 2 l562], i64 z563]) ([]) = some r.out := by
  unfold F34 at h
  rcases ite_eq h with ⟨h0, h⟩ | ⟨h0, h⟩
  · skip
    obtain ⟨e565, h1, h⟩ := Option.bind_eq_some_iff.mp h
    obtain ⟨r2, h2, h⟩ := Option.bind_eq_some_iff.mp h
    have h2 := F58_ok (m + 0) (e565.c0) (e565.c1) r2 h2
    cases r2 with
    | a0 z584 z585 =>
      rcases ite_eq h with ⟨h3, h⟩ | ⟨h3, h⟩
      · skip
        cases h
      · skip
        rcases ite_eq h with ⟨h4, h⟩ | ⟨h4, h⟩
        · skip
          obtain ⟨e586, h5, h⟩ := Option.bind_eq_some_iff.mp h
          obtain ⟨r6, h6, h⟩ := Option.bind_eq_some_iff.mp h
          have h6 := F58_ok (m + 0) (e586.c0) (e586.c1) r6 h6
          cases r6 with
          | a0 z587 z588 =>
            cases h
            exact call_pathL (gs := [.a, .t, .el (W43.cells e565), .an (V.agg [i64 z584, i64 z585]) [], .a, .a, .f, .t, .el (W43.cells e586), .an (V.agg [i64 z587, i64 z588]) [], .a, .a, .ft [⟨0, [0], []⟩, ⟨1, [0], []⟩, ⟨2, [], []⟩, ⟨3, [], []⟩, ⟨4, [], []⟩, ⟨5, [], []⟩, ⟨6, [0], []⟩, ⟨7, [0], []⟩, ⟨8, [], []⟩, ⟨9, [], []⟩, ⟨10, [0], []⟩, ⟨11, [0], []⟩, ⟨12, [], []⟩, ⟨13, [], []⟩, ⟨14, [], []⟩, ⟨15, [], []⟩, ⟨16, [], []⟩, ⟨17, [1], [1]⟩, ⟨18, [2], [2]⟩]]) (notIn []) rfl rfl (by kernel_rfl) (And.intro (decide_eq_true h0) (And.intro (W43.dec_ok h1) (And.intro h2 (And.intro (decide_eq_false h3) (And.intro (decide_eq_true h4) (And.intro (W43.dec_ok h5) (And.intro h6 (And.intro (Eq.refl ([⟨0, [0], []⟩, ⟨1, [0], []⟩, ⟨2, [], []⟩, ⟨3, [], []⟩, ⟨4, [], []⟩, ⟨5, [], []⟩, ⟨6, [0], []⟩, ⟨7, [0], []⟩, ⟨8, [], []⟩, ⟨9, [], []⟩, ⟨10, [0], []⟩, ⟨11, [0], []⟩, ⟨12, [], []⟩, ⟨13, [], []⟩, ⟨14, [], []⟩, ⟨15, [], []⟩, ⟨16, [], []⟩, ⟨17, [1], [1]⟩, ⟨18, [2], [2]⟩] : List Foot)) True.intro))))))))
        · skip
          cases h
  · skip
    cases h
/-! ## 79 -/
noncomputable abbrev B79 : Code := (Try.f79.body).getD .skip
inductive R79_0 where
  | e0 (z614 : Int)
@[reducible] def s79_0_0 (z613 : Int) (z614 : Int) (z615 : Int) (b616 : Bool) : S := { T := V.int IntKind.u64 z613 :: U :: U :: V.int IntKind.u64 z614 :: V.int IntKind.u64 z615 :: V.int IntKind.u64 z615 :: vb b616 :: un 15 [], σ := [] }
def R79_0.St : R79_0 → VX × S → Prop
  | .e0 z614, p => ∃ z613 : Int, ∃ z615 : Int, ∃ b616 : Bool, p = (VX.exit 0, s79_0_0 z613 z614 z615 b616)
def L79_0 : Nat → Int → Int → Int → Option R79_0
  | 0, _, _, _ => none
  | n + 1, z610, z611, z612 =>
    if z612 > 0 then
     if IntKind.wrap IntKind.u64 (IntKind.wrap IntKind.u64 (z611 + z612) * IntKind.wrap IntKind.u64 (z611 + z612)) ≤ z610 then
      L79_0 n (z610) (IntKind.wrap IntKind.u64 (z611 + z612)) (IntKind.wrap IntKind.u64 (Int.tdiv z612 2))
     else
      L79_0 n (z610) (z611) (IntKind.wrap IntKind.u64 (Int.tdiv z612 2))
    else
     some (R79_0.e0 (z611))
theorem L79_0_ok (m : Nat) : ∀ (n : Nat) (z610 : Int) (z611 : Int) (z612 : Int) (r : R79_0), L79_0 n z610 z611 z612 = some r → ∃ st, loopFrom Try.prog X (genO X (call Try.prog X O0 18446744073709551616 (m + 0))) 79 (0) 18446744073709551616 B79 0 n ({ T := V.int IntKind.u64 z610 :: U :: U :: V.int IntKind.u64 z611 :: V.int IntKind.u64 z612 :: un 17 [], σ := [] }) = some st ∧ r.St st
  | 0, _, _, _, r, h => by cases h
  | n + 1, z610, z611, z612, r, h => by
    rw [L79_0] at h
    rcases ite_eq h with ⟨h0, h⟩ | ⟨h0, h⟩
    · skip
      rcases ite_eq h with ⟨h1, h⟩ | ⟨h1, h⟩
      · skip
        obtain ⟨st, hs, hr⟩ := L79_0_ok m n (z610) (IntKind.wrap IntKind.u64 (z611 + z612)) (IntKind.wrap IntKind.u64 (Int.tdiv z612 2)) r h
        exact ⟨st, (round_on (gs := [.t, .t, .a]) (notIn []) (by kernel_rfl) (And.intro (decide_eq_true h0) (And.intro (decide_eq_true h1) True.intro)) n).trans hs, hr⟩
      · skip
        obtain ⟨st, hs, hr⟩ := L79_0_ok m n (z610) (z611) (IntKind.wrap IntKind.u64 (Int.tdiv z612 2)) r h
        exact ⟨st, (round_on (gs := [.t, .f, .a]) (notIn []) (by kernel_rfl) (And.intro (decide_eq_true h0) (And.intro (decide_eq_false h1) True.intro)) n).trans hs, hr⟩
    · skip
      cases h
      exact ⟨_, round_out (gs := [.f]) (notIn []) (by kernel_rfl) rfl (And.intro (decide_eq_false h0) True.intro) n, z610, z612, decide (z612 > 0), rfl⟩
inductive A79 where
  | a0 (z621 : Int)
@[reducible] def A79.out : A79 → V × Store
  | .a0 z621 => (V.int IntKind.u64 z621, [])
def F79 (z607 : Int) : Option A79 :=
  (L79_0 18446744073709551616 (z607) (0) (2147483648)).bind fun r => match r with
  | .e0 z618 =>
   some (A79.a0 (z618))
theorem F79_ok (m : Nat) (z607 : Int) (r : A79) (h : F79 z607 = some r) : call Try.prog X O0 18446744073709551616 (m + 1) 79 ([V.int IntKind.u64 z607]) ([]) = some r.out := by
  unfold F79 at h
  obtain ⟨r0, h0, h⟩ := Option.bind_eq_some_iff.mp h
  obtain ⟨st0, h0, hr0⟩ := L79_0_ok m 18446744073709551616 (z607) (0) (2147483648) r0 h0
  have h0 : loopRun Try.prog X (genO X (call Try.prog X O0 18446744073709551616 (m + 0))) 79 (0) 18446744073709551616 B79 0 ({ T := V.int IntKind.u64 z607 :: U :: V.int IntKind.u64 0 :: V.int IntKind.u64 0 :: V.int IntKind.u64 2147483648 :: un 17 [], σ := [] }) = some st0 := by
    rw [loopRun_from, show pre X 79 (0) 0 ({ T := V.int IntKind.u64 z607 :: U :: V.int IntKind.u64 0 :: V.int IntKind.u64 0 :: V.int IntKind.u64 2147483648 :: un 17 [], σ := [] }) = { T := V.int IntKind.u64 z607 :: U :: U :: V.int IntKind.u64 0 :: V.int IntKind.u64 2147483648 :: un 17 [], σ := [] } by kernel_rfl]
    exact h0
  cases r0 with
  | e0 z618 =>
    obtain ⟨z617, z619, b620, rfl⟩ := hr0
    cases h
    exact call_pathL (gs := [.lp (VX.exit 0) (s79_0_0 z617 z618 z619 b620)]) (notIn []) rfl rfl (by kernel_rfl) (And.intro h0 True.intro)
/-! ## 59 -/
inductive A59 where
  | a0 (z623 : Int)
@[reducible] def A59.out : A59 → V × Store
  | .a0 z623 => (i64 z623, [])
def F59 (z602 : Int) (z603 : Int) : Option A59 :=
  bnd (F67 (z602) (-1073741824) (1073741824)) fun z605 =>
  bnd (F67 (z603) (-1073741824) (1073741824)) fun z606 =>
  (F79 (IntKind.wrap IntKind.u64 (IntKind.wrap IntKind.u64 (w64 (z605 * z605)) + IntKind.wrap IntKind.u64 (w64 (z606 * z606))))).bind fun r => match r with
  | .a0 z622 =>
   some (A59.a0 (w64 z622))
theorem F59_ok (m : Nat) (z602 : Int) (z603 : Int) (r : A59) (h : F59 z602 z603 = some r) : call Try.prog X O0 18446744073709551616 (m + 2) 59 ([i64 z602, i64 z603]) ([]) = some r.out := by
  unfold F59 at h
  obtain ⟨z605, h0, h⟩ := bnd_eq h
  obtain ⟨z606, h1, h⟩ := bnd_eq h
  obtain ⟨r2, h2, h⟩ := Option.bind_eq_some_iff.mp h
  have h2 := F79_ok (m + 0) (IntKind.wrap IntKind.u64 (IntKind.wrap IntKind.u64 (w64 (z605 * z605)) + IntKind.wrap IntKind.u64 (w64 (z606 * z606)))) r2 h2
  cases r2 with
  | a0 z622 =>
    cases h
    exact call_pathL (gs := [.an (i64 z605) [], .an (i64 z606) [], .an (V.int IntKind.u64 z622) []]) (notIn []) rfl rfl (by kernel_rfl) (And.intro (F67_ok (m + 0) (z602) (-1073741824) (1073741824) z605 h0) (And.intro (F67_ok (m + 0) (z603) (-1073741824) (1073741824) z606 h1) (And.intro h2 True.intro)))
/-! ## 36 -/
inductive A36 where
  | a0 (z625 : Int)
@[reducible] def A36.out : A36 → V × Store
  | .a0 z625 => (i64 z625, [])
def F36 (z597 : Int) (z598 : Int) (z599 : Int) (z600 : Int) : Option A36 :=
  (F59 (w64 (z599 - z597)) (w64 (z600 - z598))).bind fun r => match r with
  | .a0 z624 =>
   some (A36.a0 (z624))
theorem F36_ok (m : Nat) (z597 : Int) (z598 : Int) (z599 : Int) (z600 : Int) (r : A36) (h : F36 z597 z598 z599 z600 = some r) : call Try.prog X O0 18446744073709551616 (m + 3) 36 ([V.agg [i64 z597, i64 z598], V.agg [i64 z599, i64 z600]]) ([]) = some r.out := by
  unfold F36 at h
  obtain ⟨r0, h0, h⟩ := Option.bind_eq_some_iff.mp h
  have h0 := F59_ok (m + 0) (w64 (z599 - z597)) (w64 (z600 - z598)) r0 h0
  cases r0 with
  | a0 z624 =>
    cases h
    exact call_pathL (gs := [.a, .a, .a, .a, .an (i64 z624) []]) (notIn []) rfl rfl (by kernel_rfl) (And.intro h0 True.intro)
/-! ## 45 -/
def F45 (z630 : Int) : Int :=
  bnd (F67 (z630) (-1099511627776) (1099511627776)) fun z632 =>
  z632
theorem F45_ok (m : Nat) (z630 : Int) (z634 : Int) (h : F45 z630 = z634) : call Try.prog X O0 18446744073709551616 (m + 2) 45 ([i64 z630]) ([]) = some (i64 z634, []) := by
  unfold F45 at h
  obtain ⟨z632, h0, h⟩ := bnd_eq h
  subst h
  exact call_pathL (gs := [.an (i64 z632) []]) (notIn []) rfl rfl (by kernel_rfl) (And.intro (F67_ok (m + 0) (z630) (-1099511627776) (1099511627776) z632 h0) True.intro)
/-! ## 35 -/
def F35 (z627 : Int) (z628 : Int) : Int :=
  bnd (F45 (z627)) fun z635 =>
  bnd (F45 (z628)) fun z636 =>
  bnd (F45 (w64 (z635 + z636))) fun z637 =>
  z637
theorem F35_ok (m : Nat) (z627 : Int) (z628 : Int) (z639 : Int) (h : F35 z627 z628 = z639) : call Try.prog X O0 18446744073709551616 (m + 3) 35 ([i64 z627, i64 z628]) ([]) = some (i64 z639, []) := by
  unfold F35 at h
  obtain ⟨z635, h0, h⟩ := bnd_eq h
  obtain ⟨z636, h1, h⟩ := bnd_eq h
  obtain ⟨z637, h2, h⟩ := bnd_eq h
  subst h
  exact call_pathL (gs := [.an (i64 z635) [], .an (i64 z636) [], .an (i64 z637) []]) (notIn []) rfl rfl (by kernel_rfl) (And.intro (F45_ok (m + 0) (z627) z635 h0) (And.intro (F45_ok (m + 0) (z628) z636 h1) (And.intro (F45_ok (m + 0) (w64 (z635 + z636)) z637 h2) True.intro)))
/-! ## 13 -/
noncomputable abbrev B13 : Code := (Try.f13.body).getD .skip
inductive R13_0 where
  | e0 (z661 : Int)
@[reducible] def s13_0_0 (z661 : Int) (z662 : Int) (b663 : Bool) (l664 : List (List V)) (z665 : Int) (b666 : Bool) : S := { T := U :: V.ptr 0 0 0 :: U :: i64 z661 :: i64 z662 :: U :: U :: i64 z662 :: V.agg [vb b663, V.list 2 l664] :: i64 z665 :: vb b666 :: un 14 [], σ := [Ob.cells true false 2 [[vb b663, V.list 2 l664]]] }
def R13_0.St : R13_0 → VX × S → Prop
  | .e0 z661, p => ∃ z662 : Int, ∃ b663 : Bool, ∃ l664 : List (List V), ∃ z665 : Int, ∃ b666 : Bool, p = (VX.exit 0, s13_0_0 z661 z662 b663 l664 z665 b666)
def L13_0 : Nat → Int → Int → Bool → List (List V) → Option R13_0
  | 0, _, _, _, _ => none
  | n + 1, z641, z642, b643, l644 =>
    bnd (F21 (b643) (l644)) fun z654 =>
    if z642 < z654 then
     (F34 (b643) (l644) (z642)).bind fun r => match r with
     | .a0 z655 z656 z657 z658 =>
      (F36 (z655) (z656) (z657) (z658)).bind fun r => match r with
      | .a0 z659 =>
       bnd (F35 (z641) (z659)) fun z660 =>
       L13_0 n (z660) (w64 (z642 + 1)) (b643) (l644)
    else
     some (R13_0.e0 (z641))
theorem L13_0_ok (m : Nat) : ∀ (n : Nat) (z641 : Int) (z642 : Int) (b643 : Bool) (l644 : List (List V)) (r : R13_0), L13_0 n z641 z642 b643 l644 = some r → ∃ st, loopFrom Try.prog X (genO X (call Try.prog X O0 18446744073709551616 (m + 4))) 13 (0) 18446744073709551616 B13 0 n ({ T := U :: V.ptr 0 0 0 :: U :: i64 z641 :: i64 z642 :: un 20 [], σ := [Ob.cells true false 2 [[vb b643, V.list 2 l644]]] }) = some st ∧ r.St st
  | 0, _, _, _, _, r, h => by cases h
  | n + 1, z641, z642, b643, l644, r, h => by
    rw [L13_0] at h
    obtain ⟨z654, h0, h⟩ := bnd_eq h
    rcases ite_eq h with ⟨h1, h⟩ | ⟨h1, h⟩
    · skip
      obtain ⟨r2, h2, h⟩ := Option.bind_eq_some_iff.mp h
      have h2 := F34_ok (m + 0) (b643) (l644) (z642) r2 h2
      cases r2 with
      | a0 z655 z656 z657 z658 =>
        obtain ⟨r3, h3, h⟩ := Option.bind_eq_some_iff.mp h
        have h3 := F36_ok (m + 1) (z655) (z656) (z657) (z658) r3 h3
        cases r3 with
        | a0 z659 =>
          obtain ⟨z660, h4, h⟩ := bnd_eq h
          obtain ⟨st, hs, hr⟩ := L13_0_ok m n (z660) (w64 (z642 + 1)) (b643) (l644) r h
          exact ⟨st, (round_on (gs := [.a, .an (i64 z654) [], .t, .a, .an (V.tup [V.agg [i64 z655, i64 z656], V.agg [i64 z657, i64 z658]]) [], .a, .a, .a, .a, .an (i64 z659) [], .an (i64 z660) []]) (notIn []) (by kernel_rfl) (And.intro (F21_ok (m + 3) (b643) (l644) z654 h0) (And.intro (decide_eq_true h1) (And.intro h2 (And.intro h3 (And.intro (F35_ok (m + 1) (z641) (z659) z660 h4) True.intro))))) n).trans hs, hr⟩
    · skip
      cases h
      exact ⟨_, round_out (gs := [.a, .an (i64 z654) [], .f]) (notIn []) (by kernel_rfl) rfl (And.intro (F21_ok (m + 3) (b643) (l644) z654 h0) (And.intro (decide_eq_false h1) True.intro)) n, z642, b643, l644, z654, decide (z642 < z654), rfl⟩
inductive A13 where
  | a0 (z673 : Int)
@[reducible] def A13.out : A13 → V × Store
  | .a0 z673 => (i64 z673, [])
def F13 (b550 : Bool) (l551 : List (List V)) : Option A13 :=
  (L13_0 18446744073709551616 (0) (0) (b550) (l551)).bind fun r => match r with
  | .e0 z667 =>
   some (A13.a0 (z667))
theorem F13_ok (m : Nat) (b550 : Bool) (l551 : List (List V)) (r : A13) (h : F13 b550 l551 = some r) : call Try.prog X O0 18446744073709551616 (m + 5) 13 ([V.agg [vb b550, V.list 2 l551]]) ([]) = some r.out := by
  unfold F13 at h
  obtain ⟨r0, h0, h⟩ := Option.bind_eq_some_iff.mp h
  obtain ⟨st0, h0, hr0⟩ := L13_0_ok m 18446744073709551616 (0) (0) (b550) (l551) r0 h0
  have h0 : loopRun Try.prog X (genO X (call Try.prog X O0 18446744073709551616 (m + 4))) 13 (0) 18446744073709551616 B13 0 ({ T := V.agg [vb b550, V.list 2 l551] :: V.ptr 0 0 0 :: i64 0 :: i64 0 :: i64 0 :: un 20 [], σ := [Ob.cells true false 2 [[vb b550, V.list 2 l551]]] }) = some st0 := by
    rw [loopRun_from, show pre X 13 (0) 0 ({ T := V.agg [vb b550, V.list 2 l551] :: V.ptr 0 0 0 :: i64 0 :: i64 0 :: i64 0 :: un 20 [], σ := [Ob.cells true false 2 [[vb b550, V.list 2 l551]]] }) = { T := U :: V.ptr 0 0 0 :: U :: i64 0 :: i64 0 :: un 20 [], σ := [Ob.cells true false 2 [[vb b550, V.list 2 l551]]] } by kernel_rfl]
    exact h0
  cases r0 with
  | e0 z667 =>
    obtain ⟨z668, b669, l670, z671, b672, rfl⟩ := hr0
    cases h
    exact call_pathL (gs := [.lp (VX.exit 0) (s13_0_0 z667 z668 b669 l670 z671 b672)]) (notIn []) rfl rfl (by kernel_rfl) (And.intro h0 True.intro)
/-! ## 14 -/
inductive A14 where
  | a0 (b788 : Bool)
@[reducible] def A14.out : A14 → V × Store
  | .a0 b788 => (vb b788, [])
def F14 : Option A14 :=
  (F12 (false) ([[i64 0, i64 0], [i64 1048576, i64 0]]) ([[i64 131072], [i64 196608]])).bind fun r => match r with
  | .a0 k780 l781 =>
   if ((↑k780 : Int) == 4) = true then
    if (0 : Int) ≤ (0 : Int) ∧ (0 : Int) < (↑k780 : Int) then
     ((l781[(0 : Nat)]?).bind W25.dec).bind fun e782 =>
     if ((↑(List.length e782.2) : Int) == 2) = true then
      if (0 : Int) ≤ (1 : Int) ∧ (1 : Int) < (↑k780 : Int) then
       ((l781[(1 : Nat)]?).bind W25.dec).bind fun e783 =>
       if ((↑(List.length e783.2) : Int) == 2) = true then
        ((e782.2[(1 : Nat)]?).bind W43.dec).bind fun e784 =>
        if (e784.c0 == 131072) = true then
         ((e783.2[(0 : Nat)]?).bind W43.dec).bind fun e785 =>
         if (e785.c0 == 327680) = true then
          (F30 ([[i64 0]])).bind fun r => match r with
          | .a0 b786 =>
           if (!b786) = true then
            (F30 ([])).bind fun r => match r with
            | .a0 b787 =>
             some (A14.a0 (b787))
           else
            some (A14.a0 (false))
         else
          some (A14.a0 (false))
        else
         some (A14.a0 (false))
       else
        some (A14.a0 (false))
      else
       none -- none
     else
      some (A14.a0 (false))
    else
     none -- none
   else
    some (A14.a0 (false))
theorem F14_ok (m : Nat) (r : A14) (h : F14 = some r) : call Try.prog X O0 18446744073709551616 (m + 8) 14 ([]) ([]) = some r.out := by
  unfold F14 at h
  obtain ⟨r0, h0, h⟩ := Option.bind_eq_some_iff.mp h
  have h0 := F12_ok (m + 0) (false) ([[i64 0, i64 0], [i64 1048576, i64 0]]) ([[i64 131072], [i64 196608]]) r0 h0
  cases r0 with
  | a0 k780 l781 =>
    rcases ite_eq h with ⟨h1, h⟩ | ⟨h1, h⟩
    · skip
      rcases ite_eq h with ⟨h2, h⟩ | ⟨h2, h⟩
      · skip
        obtain ⟨e782, h3, h⟩ := Option.bind_eq_some_iff.mp h
        rcases ite_eq h with ⟨h4, h⟩ | ⟨h4, h⟩
        · skip
          rcases ite_eq h with ⟨h5, h⟩ | ⟨h5, h⟩
          · skip
            obtain ⟨e783, h6, h⟩ := Option.bind_eq_some_iff.mp h
            rcases ite_eq h with ⟨h7, h⟩ | ⟨h7, h⟩
            · skip
              obtain ⟨e784, h8, h⟩ := Option.bind_eq_some_iff.mp h
              rcases ite_eq h with ⟨h9, h⟩ | ⟨h9, h⟩
              · skip
                obtain ⟨e785, h10, h⟩ := Option.bind_eq_some_iff.mp h
                rcases ite_eq h with ⟨h11, h⟩ | ⟨h11, h⟩
                · skip
                  obtain ⟨r12, h12, h⟩ := Option.bind_eq_some_iff.mp h
                  have h12 := F30_ok (m + 3) ([[i64 0]]) r12 h12
                  cases r12 with
                  | a0 b786 =>
                    rcases ite_eq h with ⟨h13, h⟩ | ⟨h13, h⟩
                    · skip
                      obtain ⟨r14, h14, h⟩ := Option.bind_eq_some_iff.mp h
                      have h14 := F30_ok (m + 3) ([]) r14 h14
                      cases r14 with
                      | a0 b787 =>
                        cases h
                        exact call_pathL (gs := [.a, .a, .a, .a, .an (V.hs 0 0 k780) [Ob.cells true true 2 l781], .t, .t, .t, .t, .t, .el (W25.cells e782), .t, .t, .t, .t, .t, .t, .t, .t, .el (W25.cells e783), .t, .t, .t, .t, .t, .t, .t, .t, .el (W25.cells e782), .t, .a, .el (W43.cells e784), .t, .t, .t, .t, .t, .t, .t, .t, .t, .el (W25.cells e783), .t, .a, .el (W43.cells e785), .t, .t, .t, .t, .t, .t, .a, .an (vb b786) [], .t, .t, .t, .an (vb b787) [], .t]) (notIn []) rfl rfl (by kernel_rfl) (And.intro h0 (And.intro h1 (And.intro h1 (And.intro (decide_eq_true h2) (And.intro h1 (And.intro h1 (And.intro (W25.dec_ok h3) (And.intro h1 (And.intro h1 (And.intro h1 (And.intro h4 (And.intro h4 (And.intro (decide_eq_true h5) (And.intro h4 (And.intro h4 (And.intro (W25.dec_ok h6) (And.intro h4 (And.intro h4 (And.intro h4 (And.intro h7 (And.intro h7 (And.intro (decide_eq_true h2) (And.intro h7 (And.intro h7 (And.intro (W25.dec_ok h3) (And.intro h7 (And.intro (W43.dec_ok h8) (And.intro h7 (And.intro h7 (And.intro h7 (And.intro h7 (And.intro h9 (And.intro h9 (And.intro (decide_eq_true h5) (And.intro h9 (And.intro h9 (And.intro (W25.dec_ok h6) (And.intro h9 (And.intro (W43.dec_ok h10) (And.intro h9 (And.intro h9 (And.intro h9 (And.intro h9 (And.intro h11 (And.intro h11 (And.intro h12 (And.intro h11 (And.intro h11 (And.intro h13 (And.intro h14 (And.intro h13 True.intro)))))))))))))))))))))))))))))))))))))))))))))))))))
                    · skip
                      cases h
                      exact call_pathL (gs := [.a, .a, .a, .a, .an (V.hs 0 0 k780) [Ob.cells true true 2 l781], .t, .t, .t, .t, .t, .el (W25.cells e782), .t, .t, .t, .t, .t, .t, .t, .t, .el (W25.cells e783), .t, .t, .t, .t, .t, .t, .t, .t, .el (W25.cells e782), .t, .a, .el (W43.cells e784), .t, .t, .t, .t, .t, .t, .t, .t, .t, .el (W25.cells e783), .t, .a, .el (W43.cells e785), .t, .t, .t, .t, .t, .t, .a, .an (vb b786) [], .t, .t, .f, .f]) (notIn []) rfl rfl (by kernel_rfl) (And.intro h0 (And.intro h1 (And.intro h1 (And.intro (decide_eq_true h2) (And.intro h1 (And.intro h1 (And.intro (W25.dec_ok h3) (And.intro h1 (And.intro h1 (And.intro h1 (And.intro h4 (And.intro h4 (And.intro (decide_eq_true h5) (And.intro h4 (And.intro h4 (And.intro (W25.dec_ok h6) (And.intro h4 (And.intro h4 (And.intro h4 (And.intro h7 (And.intro h7 (And.intro (decide_eq_true h2) (And.intro h7 (And.intro h7 (And.intro (W25.dec_ok h3) (And.intro h7 (And.intro (W43.dec_ok h8) (And.intro h7 (And.intro h7 (And.intro h7 (And.intro h7 (And.intro h9 (And.intro h9 (And.intro (decide_eq_true h5) (And.intro h9 (And.intro h9 (And.intro (W25.dec_ok h6) (And.intro h9 (And.intro (W43.dec_ok h10) (And.intro h9 (And.intro h9 (And.intro h9 (And.intro h9 (And.intro h11 (And.intro h11 (And.intro h12 (And.intro h11 (And.intro h11 (And.intro (Bool.eq_false_iff.mpr h13) (And.intro (Bool.eq_false_iff.mpr h13) True.intro))))))))))))))))))))))))))))))))))))))))))))))))))
                · skip
                  cases h
                  exact call_pathL (gs := [.a, .a, .a, .a, .an (V.hs 0 0 k780) [Ob.cells true true 2 l781], .t, .t, .t, .t, .t, .el (W25.cells e782), .t, .t, .t, .t, .t, .t, .t, .t, .el (W25.cells e783), .t, .t, .t, .t, .t, .t, .t, .t, .el (W25.cells e782), .t, .a, .el (W43.cells e784), .t, .t, .t, .t, .t, .t, .t, .t, .t, .el (W25.cells e783), .t, .a, .el (W43.cells e785), .t, .t, .t, .t, .f, .f, .f, .f, .a, .a]) (notIn []) rfl rfl (by kernel_rfl) (And.intro h0 (And.intro h1 (And.intro h1 (And.intro (decide_eq_true h2) (And.intro h1 (And.intro h1 (And.intro (W25.dec_ok h3) (And.intro h1 (And.intro h1 (And.intro h1 (And.intro h4 (And.intro h4 (And.intro (decide_eq_true h5) (And.intro h4 (And.intro h4 (And.intro (W25.dec_ok h6) (And.intro h4 (And.intro h4 (And.intro h4 (And.intro h7 (And.intro h7 (And.intro (decide_eq_true h2) (And.intro h7 (And.intro h7 (And.intro (W25.dec_ok h3) (And.intro h7 (And.intro (W43.dec_ok h8) (And.intro h7 (And.intro h7 (And.intro h7 (And.intro h7 (And.intro h9 (And.intro h9 (And.intro (decide_eq_true h5) (And.intro h9 (And.intro h9 (And.intro (W25.dec_ok h6) (And.intro h9 (And.intro (W43.dec_ok h10) (And.intro h9 (And.intro h9 (And.intro h9 (And.intro h9 (And.intro (Bool.eq_false_iff.mpr h11) (And.intro (Bool.eq_false_iff.mpr h11) (And.intro (Bool.eq_false_iff.mpr h11) (And.intro (Bool.eq_false_iff.mpr h11) True.intro)))))))))))))))))))))))))))))))))))))))))))))))
              · skip
                cases h
                exact call_pathL (gs := [.a, .a, .a, .a, .an (V.hs 0 0 k780) [Ob.cells true true 2 l781], .t, .t, .t, .t, .t, .el (W25.cells e782), .t, .t, .t, .t, .t, .t, .t, .t, .el (W25.cells e783), .t, .t, .t, .t, .t, .t, .t, .t, .el (W25.cells e782), .t, .a, .el (W43.cells e784), .t, .t, .t, .t, .f, .f, .f, .f, .f, .f, .f, .f, .f, .a, .a, .a, .a, .a, .a]) (notIn []) rfl rfl (by kernel_rfl) (And.intro h0 (And.intro h1 (And.intro h1 (And.intro (decide_eq_true h2) (And.intro h1 (And.intro h1 (And.intro (W25.dec_ok h3) (And.intro h1 (And.intro h1 (And.intro h1 (And.intro h4 (And.intro h4 (And.intro (decide_eq_true h5) (And.intro h4 (And.intro h4 (And.intro (W25.dec_ok h6) (And.intro h4 (And.intro h4 (And.intro h4 (And.intro h7 (And.intro h7 (And.intro (decide_eq_true h2) (And.intro h7 (And.intro h7 (And.intro (W25.dec_ok h3) (And.intro h7 (And.intro (W43.dec_ok h8) (And.intro h7 (And.intro h7 (And.intro h7 (And.intro h7 (And.intro (Bool.eq_false_iff.mpr h9) (And.intro (Bool.eq_false_iff.mpr h9) (And.intro (Bool.eq_false_iff.mpr h9) (And.intro (Bool.eq_false_iff.mpr h9) (And.intro (Bool.eq_false_iff.mpr h9) (And.intro (Bool.eq_false_iff.mpr h9) (And.intro (Bool.eq_false_iff.mpr h9) (And.intro (Bool.eq_false_iff.mpr h9) (And.intro (Bool.eq_false_iff.mpr h9) True.intro))))))))))))))))))))))))))))))))))))))))
            · skip
              cases h
              exact call_pathL (gs := [.a, .a, .a, .a, .an (V.hs 0 0 k780) [Ob.cells true true 2 l781], .t, .t, .t, .t, .t, .el (W25.cells e782), .t, .t, .t, .t, .t, .t, .t, .t, .el (W25.cells e783), .t, .t, .t, .f, .f, .f, .f, .f, .f, .f, .f, .f, .a, .a, .a, .a, .a, .a, .a, .a, .a, .a, .a, .a, .a, .a, .a]) (notIn []) rfl rfl (by kernel_rfl) (And.intro h0 (And.intro h1 (And.intro h1 (And.intro (decide_eq_true h2) (And.intro h1 (And.intro h1 (And.intro (W25.dec_ok h3) (And.intro h1 (And.intro h1 (And.intro h1 (And.intro h4 (And.intro h4 (And.intro (decide_eq_true h5) (And.intro h4 (And.intro h4 (And.intro (W25.dec_ok h6) (And.intro h4 (And.intro h4 (And.intro h4 (And.intro (Bool.eq_false_iff.mpr h7) (And.intro (Bool.eq_false_iff.mpr h7) (And.intro (Bool.eq_false_iff.mpr h7) (And.intro (Bool.eq_false_iff.mpr h7) (And.intro (Bool.eq_false_iff.mpr h7) (And.intro (Bool.eq_false_iff.mpr h7) (And.intro (Bool.eq_false_iff.mpr h7) (And.intro (Bool.eq_false_iff.mpr h7) (And.intro (Bool.eq_false_iff.mpr h7) True.intro))))))))))))))))))))))))))))
          · skip
            cases h
        · skip
          cases h
          exact call_pathL (gs := [.a, .a, .a, .a, .an (V.hs 0 0 k780) [Ob.cells true true 2 l781], .t, .t, .t, .t, .t, .el (W25.cells e782), .t, .t, .t, .f, .f, .f, .f, .f, .f, .f, .a, .a, .a, .a, .a, .a, .a, .a, .a, .a, .a, .a, .a, .a, .a, .a, .a, .a, .a, .a, .a, .a, .a, .a]) (notIn []) rfl rfl (by kernel_rfl) (And.intro h0 (And.intro h1 (And.intro h1 (And.intro (decide_eq_true h2) (And.intro h1 (And.intro h1 (And.intro (W25.dec_ok h3) (And.intro h1 (And.intro h1 (And.intro h1 (And.intro (Bool.eq_false_iff.mpr h4) (And.intro (Bool.eq_false_iff.mpr h4) (And.intro (Bool.eq_false_iff.mpr h4) (And.intro (Bool.eq_false_iff.mpr h4) (And.intro (Bool.eq_false_iff.mpr h4) (And.intro (Bool.eq_false_iff.mpr h4) (And.intro (Bool.eq_false_iff.mpr h4) True.intro)))))))))))))))))
      · skip
        cases h
    · skip
      cases h
      exact call_pathL (gs := [.a, .a, .a, .a, .an (V.hs 0 0 k780) [Ob.cells true true 2 l781], .f, .f, .f, .f, .f, .f, .f, .a, .a, .a, .a, .a, .a, .a, .a, .a, .a, .a, .a, .a, .a, .a, .a, .a, .a, .a, .a, .a, .a, .a, .a, .a, .a, .a, .a, .a, .a, .a]) (notIn []) rfl rfl (by kernel_rfl) (And.intro h0 (And.intro (Bool.eq_false_iff.mpr h1) (And.intro (Bool.eq_false_iff.mpr h1) (And.intro (Bool.eq_false_iff.mpr h1) (And.intro (Bool.eq_false_iff.mpr h1) (And.intro (Bool.eq_false_iff.mpr h1) (And.intro (Bool.eq_false_iff.mpr h1) (And.intro (Bool.eq_false_iff.mpr h1) True.intro))))))))
/-! ## 3 -/
noncomputable abbrev B3 : Code := (Try.f3.body).getD .skip
inductive R3_0 where
  | e0
  | e1
  | e2
  | e3 (z849 : Int) (k850 : Nat) (b854 : Bool) (k855 : Nat) (l857 : List (List V))
@[reducible] def s3_0_0 (z800 : Int) (z801 : Int) (k802 : Nat) (z803 : Int) (z804 : Int) (z805 : Int) (b806 : Bool) (k807 : Nat) (b808 : Bool) (l809 : List (List V)) (b810 : Bool) (k811 : Nat) (l812 : List (List V)) (l813 : List (List V)) : S := { T := un 6 (vb false :: V.ptr 0 0 0 :: i64 z800 :: U :: i64 z801 :: V.hs 1 0 k802 :: U :: V.ptr 3 0 0 :: i64 z803 :: un 15 (V.hs 1 0 k802 :: i64 z804 :: i64 z805 :: vb b806 :: V.ptr 1 k807 0 :: V.agg [vb b808, V.list 2 l809] :: V.agg [vb b808, V.list 2 l809] :: i64 z803 :: V.ptr 3 0 0 :: vb b808 :: vb b808 :: E :: E :: E :: E :: vb true :: vb true :: E :: E :: E :: E :: vb true :: un 17 [])), σ := [Ob.cells true false 2 [[vb b810, V.hs 2 0 k811]], Ob.cells true true 2 l812, Ob.cells false true 2 l813, Ob.cells true false 2 [[vb b808, V.list 2 l809]]] }
@[reducible] def s3_0_1 (z814 : Int) (z815 : Int) (k816 : Nat) (z817 : Int) (z818 : Int) (z819 : Int) (b820 : Bool) (k821 : Nat) (b822 : Bool) (l823 : List (List V)) (z824 : Int) (b825 : Bool) (b826 : Bool) (k827 : Nat) (l828 : List (List V)) (l829 : List (List V)) : S := { T := un 6 (vb false :: V.ptr 0 0 0 :: i64 z814 :: U :: i64 z815 :: V.hs 1 0 k816 :: U :: V.ptr 3 0 0 :: i64 z817 :: un 15 (V.hs 1 0 k816 :: i64 z818 :: i64 z819 :: vb b820 :: V.ptr 1 k821 0 :: V.agg [vb b822, V.list 2 l823] :: V.agg [vb b822, V.list 2 l823] :: i64 z817 :: V.ptr 3 0 0 :: vb b822 :: vb b822 :: V.ptr 3 0 1 :: V.list 2 l823 :: i64 z824 :: vb b825 :: vb b825 :: vb b825 :: E :: E :: E :: E :: vb true :: un 17 [])), σ := [Ob.cells true false 2 [[vb b826, V.hs 2 0 k827]], Ob.cells true true 2 l828, Ob.cells false true 2 l829, Ob.cells true false 2 [[vb b822, V.list 2 l823]]] }
@[reducible] def s3_0_2 (z830 : Int) (z831 : Int) (k832 : Nat) (z833 : Int) (z834 : Int) (z835 : Int) (b836 : Bool) (k837 : Nat) (b838 : Bool) (l839 : List (List V)) (z840 : Int) (b841 : Bool) (z842 : Int) (b843 : Bool) (b844 : Bool) (k845 : Nat) (l846 : List (List V)) (l847 : List (List V)) : S := { T := un 6 (vb false :: V.ptr 0 0 0 :: i64 z830 :: U :: i64 z831 :: V.hs 1 0 k832 :: U :: V.ptr 3 0 0 :: i64 z833 :: un 15 (V.hs 1 0 k832 :: i64 z834 :: i64 z835 :: vb b836 :: V.ptr 1 k837 0 :: V.agg [vb b838, V.list 2 l839] :: V.agg [vb b838, V.list 2 l839] :: i64 z833 :: V.ptr 3 0 0 :: vb b838 :: vb b838 :: V.ptr 3 0 1 :: V.list 2 l839 :: i64 z840 :: vb b841 :: vb b841 :: vb b841 :: i64 z833 :: i64 z830 :: i64 z842 :: vb b843 :: vb b843 :: un 17 [])), σ := [Ob.cells true false 2 [[vb b844, V.hs 2 0 k845]], Ob.cells true true 2 l846, Ob.cells false true 2 l847, Ob.cells true false 2 [[vb b838, V.list 2 l839]]] }
@[reducible] def s3_0_3 (z848 : Int) (z849 : Int) (k850 : Nat) (z851 : Int) (z852 : Int) (b853 : Bool) (b854 : Bool) (k855 : Nat) (l856 : List (List V)) (l857 : List (List V)) : S := { T := un 7 (V.ptr 0 0 0 :: i64 z848 :: U :: i64 z849 :: V.hs 1 0 k850 :: un 18 (V.hs 1 0 k850 :: i64 z851 :: i64 z852 :: vb b853 :: un 35 [])), σ := [Ob.cells true false 2 [[vb b854, V.hs 2 0 k855]], Ob.cells true true 2 l856, Ob.cells false true 2 l857] }
def R3_0.St : R3_0 → VX × S → Prop
  | .e0, p => ∃ z800 : Int, ∃ z801 : Int, ∃ k802 : Nat, ∃ z803 : Int, ∃ z804 : Int, ∃ z805 : Int, ∃ b806 : Bool, ∃ k807 : Nat, ∃ b808 : Bool, ∃ l809 : List (List V), ∃ b810 : Bool, ∃ k811 : Nat, ∃ l812 : List (List V), ∃ l813 : List (List V), p = (VX.ret, s3_0_0 z800 z801 k802 z803 z804 z805 b806 k807 b808 l809 b810 k811 l812 l813)
  | .e1, p => ∃ z814 : Int, ∃ z815 : Int, ∃ k816 : Nat, ∃ z817 : Int, ∃ z818 : Int, ∃ z819 : Int, ∃ b820 : Bool, ∃ k821 : Nat, ∃ b822 : Bool, ∃ l823 : List (List V), ∃ z824 : Int, ∃ b825 : Bool, ∃ b826 : Bool, ∃ k827 : Nat, ∃ l828 : List (List V), ∃ l829 : List (List V), p = (VX.ret, s3_0_1 z814 z815 k816 z817 z818 z819 b820 k821 b822 l823 z824 b825 b826 k827 l828 l829)
  | .e2, p => ∃ z830 : Int, ∃ z831 : Int, ∃ k832 : Nat, ∃ z833 : Int, ∃ z834 : Int, ∃ z835 : Int, ∃ b836 : Bool, ∃ k837 : Nat, ∃ b838 : Bool, ∃ l839 : List (List V), ∃ z840 : Int, ∃ b841 : Bool, ∃ z842 : Int, ∃ b843 : Bool, ∃ b844 : Bool, ∃ k845 : Nat, ∃ l846 : List (List V), ∃ l847 : List (List V), p = (VX.ret, s3_0_2 z830 z831 k832 z833 z834 z835 b836 k837 b838 l839 z840 b841 z842 b843 b844 k845 l846 l847)
  | .e3 z849 k850 b854 k855 l857, p => ∃ z848 : Int, ∃ z851 : Int, ∃ z852 : Int, ∃ b853 : Bool, ∃ l856 : List (List V), p = (VX.exit 0, s3_0_3 z848 z849 k850 z851 z852 b853 b854 k855 l856 l857)
def L3_0 : Nat → Int → Int → Nat → Int → Int → Bool → Nat → List (List V) → List (List V) → Option R3_0
  | 0, _, _, _, _, _, _, _, _, _ => none
  | n + 1, z714, z715, k716, z717, z718, b719, k720, l721, l722 =>
    if z718 < z717 then
     if 0 ≤ z718 ∧ z718 < (↑k716 : Int) then
      ((l721[(0 : Nat) + Int.toNat z718]?).bind W25.dec).bind fun e798 =>
      (F13 (e798.c0) (e798.2)).bind fun r => match r with
      | .a0 z799 =>
       if (e798.c0) = true then
        some (R3_0.e0)
       else
        if (↑(List.length e798.2) : Int) < 2 then
         some (R3_0.e1)
        else
         if z799 > w64 (z714 + 16384) then
          some (R3_0.e2)
         else
          L3_0 n (z714) (w64 (z715 + z799)) (k716) (z717) (w64 (z718 + 1)) (b719) (k720) (l721) (l722)
     else
      none -- none
    else
     some (R3_0.e3 (z715) (k716) (b719) (k720) (l722))
theorem L3_0_ok (m : Nat) : ∀ (n : Nat) (z714 : Int) (z715 : Int) (k716 : Nat) (z717 : Int) (z718 : Int) (b719 : Bool) (k720 : Nat) (l721 : List (List V)) (l722 : List (List V)) (r : R3_0), L3_0 n z714 z715 k716 z717 z718 b719 k720 l721 l722 = some r → ∃ st, loopFrom Try.prog X (genO X (call Try.prog X O0 18446744073709551616 (m + 8))) 3 (0) 18446744073709551616 B3 0 n ({ T := un 7 (V.ptr 0 0 0 :: i64 z714 :: U :: i64 z715 :: V.hs 1 0 k716 :: un 18 (V.hs 1 0 k716 :: i64 z717 :: i64 z718 :: un 36 [])), σ := [Ob.cells true false 2 [[vb b719, V.hs 2 0 k720]], Ob.cells true true 2 l721, Ob.cells false true 2 l722] }) = some st ∧ r.St st
  | 0, _, _, _, _, _, _, _, _, _, r, h => by cases h
  | n + 1, z714, z715, k716, z717, z718, b719, k720, l721, l722, r, h => by
    rw [L3_0] at h
    rcases ite_eq h with ⟨h0, h⟩ | ⟨h0, h⟩
    · skip
      rcases ite_eq h with ⟨h1, h⟩ | ⟨h1, h⟩
      · skip
        obtain ⟨e798, h2, h⟩ := Option.bind_eq_some_iff.mp h
        obtain ⟨r3, h3, h⟩ := Option.bind_eq_some_iff.mp h
        have h3 := F13_ok (m + 3) (e798.c0) (e798.2) r3 h3
        cases r3 with
        | a0 z799 =>
          rcases ite_eq h with ⟨h4, h⟩ | ⟨h4, h⟩
          · skip
            cases h
            exact ⟨_, round_out (gs := [.t, .t, .el (W25.cells e798), .a, .a, .an (i64 z799) [], .a, .t, .t, .t, .t, .t, .a, .a, .a, .a, .a, .a]) (notIn []) (by kernel_rfl) rfl (And.intro (decide_eq_true h0) (And.intro (decide_eq_true h1) (And.intro (W25.dec_ok h2) (And.intro h3 (And.intro h4 (And.intro h4 (And.intro h4 (And.intro h4 (And.intro h4 True.intro))))))))) n, z714, z715, k716, z799, z717, z718, decide (z718 < z717), 0 + Int.toNat z718, e798.c0, e798.2, b719, k720, l721, l722, rfl⟩
          · skip
            rcases ite_eq h with ⟨h5, h⟩ | ⟨h5, h⟩
            · skip
              cases h
              exact ⟨_, round_out (gs := [.t, .t, .el (W25.cells e798), .a, .a, .an (i64 z799) [], .a, .f, .f, .a, .f, .f, .f, .t, .t, .t, .t, .t, .a]) (notIn []) (by kernel_rfl) rfl (And.intro (decide_eq_true h0) (And.intro (decide_eq_true h1) (And.intro (W25.dec_ok h2) (And.intro h3 (And.intro (Bool.eq_false_iff.mpr h4) (And.intro (Bool.eq_false_iff.mpr h4) (And.intro (Bool.eq_false_iff.mpr h4) (And.intro (Bool.eq_false_iff.mpr h4) (And.intro (Bool.eq_false_iff.mpr h4) (And.intro (decide_eq_true h5) (And.intro (decide_eq_true h5) (And.intro (decide_eq_true h5) (And.intro (decide_eq_true h5) (And.intro (decide_eq_true h5) True.intro)))))))))))))) n, z714, z715, k716, z799, z717, z718, decide (z718 < z717), 0 + Int.toNat z718, e798.c0, e798.2, (↑(List.length e798.2) : Int), decide ((↑(List.length e798.2) : Int) < 2), b719, k720, l721, l722, rfl⟩
            · skip
              rcases ite_eq h with ⟨h6, h⟩ | ⟨h6, h⟩
              · skip
                cases h
                exact ⟨_, round_out (gs := [.t, .t, .el (W25.cells e798), .a, .a, .an (i64 z799) [], .a, .f, .f, .a, .f, .f, .f, .f, .f, .f, .f, .f, .t]) (notIn []) (by kernel_rfl) rfl (And.intro (decide_eq_true h0) (And.intro (decide_eq_true h1) (And.intro (W25.dec_ok h2) (And.intro h3 (And.intro (Bool.eq_false_iff.mpr h4) (And.intro (Bool.eq_false_iff.mpr h4) (And.intro (Bool.eq_false_iff.mpr h4) (And.intro (Bool.eq_false_iff.mpr h4) (And.intro (Bool.eq_false_iff.mpr h4) (And.intro (decide_eq_false h5) (And.intro (decide_eq_false h5) (And.intro (decide_eq_false h5) (And.intro (decide_eq_false h5) (And.intro (decide_eq_false h5) (And.intro (decide_eq_true h6) True.intro))))))))))))))) n, z714, z715, k716, z799, z717, z718, decide (z718 < z717), 0 + Int.toNat z718, e798.c0, e798.2, (↑(List.length e798.2) : Int), decide ((↑(List.length e798.2) : Int) < 2), w64 (z714 + 16384), decide (z799 > w64 (z714 + 16384)), b719, k720, l721, l722, rfl⟩
              · skip
                obtain ⟨st, hs, hr⟩ := L3_0_ok m n (z714) (w64 (z715 + z799)) (k716) (z717) (w64 (z718 + 1)) (b719) (k720) (l721) (l722) r h
                exact ⟨st, (round_on (gs := [.t, .t, .el (W25.cells e798), .a, .a, .an (i64 z799) [], .a, .f, .f, .a, .f, .f, .f, .f, .f, .f, .f, .f, .f]) (notIn []) (by kernel_rfl) (And.intro (decide_eq_true h0) (And.intro (decide_eq_true h1) (And.intro (W25.dec_ok h2) (And.intro h3 (And.intro (Bool.eq_false_iff.mpr h4) (And.intro (Bool.eq_false_iff.mpr h4) (And.intro (Bool.eq_false_iff.mpr h4) (And.intro (Bool.eq_false_iff.mpr h4) (And.intro (Bool.eq_false_iff.mpr h4) (And.intro (decide_eq_false h5) (And.intro (decide_eq_false h5) (And.intro (decide_eq_false h5) (And.intro (decide_eq_false h5) (And.intro (decide_eq_false h5) (And.intro (decide_eq_false h6) True.intro))))))))))))))) n).trans hs, hr⟩
      · skip
        cases h
    · skip
      cases h
      exact ⟨_, round_out (gs := [.f]) (notIn []) (by kernel_rfl) rfl (And.intro (decide_eq_false h0) True.intro) n, z714, z717, z718, decide (z718 < z717), l721, rfl⟩
inductive A3 where
  | a0 (b918 : Bool)
@[reducible] def A3.out : A3 → V × Store
  | .a0 b918 => (vb b918, [])
def F3 (l0 : List (List V)) (z1 : Int) (z2 : Int) : Option A3 :=
  (F11 (l0) (0)).bind fun r => match r with
  | .a0 b791 k792 l793 z794 l795 =>
   if 0 + k792 ≤ List.length l795 then
    (F12 (b791) (List.take k792 l795) ([[i64 (w64 (65536 + w64 (↑(BitVec.toNat (BitVec.ofInt (IntKind.bits IntKind.i64) z1 &&& BitVec.ofInt (IntKind.bits IntKind.i64) 262143)) : Int)))], [i64 (w64 (65536 + w64 (↑(BitVec.toNat (BitVec.ofInt (IntKind.bits IntKind.i64) z2 &&& BitVec.ofInt (IntKind.bits IntKind.i64) 262143)) : Int)))]])).bind fun r => match r with
    | .a0 k796 l797 =>
     (L3_0 18446744073709551616 (w64 (65536 + w64 (↑(BitVec.toNat (BitVec.ofInt (IntKind.bits IntKind.i64) z1 &&& BitVec.ofInt (IntKind.bits IntKind.i64) 262143)) : Int))) (0) (k796) ((↑k796 : Int)) (0) (b791) (k792) (l797) (l795)).bind fun r => match r with
     | .e0 =>
      none -- false
     | .e1 =>
      none -- false
     | .e2 =>
      none -- false
     | .e3 z907 k908 b912 k913 l915 =>
      if (↑k908 : Int) ≤ 64 then
       if 0 + k913 ≤ List.length l915 then
        (F13 (b912) (List.take k913 l915)).bind fun r => match r with
        | .a0 z916 =>
         if z907 ≤ w64 (z916 + 65536) then
          (F14).bind fun r => match r with
          | .a0 b917 =>
           some (A3.a0 (b917))
         else
          none -- false
       else
        none -- none
      else
       none -- false
   else
    none -- none
theorem F3_ok (m : Nat) (l0 : List (List V)) (z1 : Int) (z2 : Int) (r : A3) (h : F3 l0 z1 z2 = some r) : call Try.prog X O0 18446744073709551616 (m + 9) 3 ([V.list 1 l0, i64 z1, i64 z2]) ([]) = some r.out := by
  unfold F3 at h
  obtain ⟨r0, h0, h⟩ := Option.bind_eq_some_iff.mp h
  have h0 := F11_ok (m + 4) (l0) (0) r0 h0
  cases r0 with
  | a0 b791 k792 l793 z794 l795 =>
    rcases ite_eq h with ⟨h1, h⟩ | ⟨h1, h⟩
    · skip
      obtain ⟨r2, h2, h⟩ := Option.bind_eq_some_iff.mp h
      have h2 := F12_ok (m + 1) (b791) (List.take k792 l795) ([[i64 (w64 (65536 + w64 (↑(BitVec.toNat (BitVec.ofInt (IntKind.bits IntKind.i64) z1 &&& BitVec.ofInt (IntKind.bits IntKind.i64) 262143)) : Int)))], [i64 (w64 (65536 + w64 (↑(BitVec.toNat (BitVec.ofInt (IntKind.bits IntKind.i64) z2 &&& BitVec.ofInt (IntKind.bits IntKind.i64) 262143)) : Int)))]]) r2 h2
      cases r2 with
      | a0 k796 l797 =>
        obtain ⟨r3, h3, h⟩ := Option.bind_eq_some_iff.mp h
        obtain ⟨st3, h3, hr3⟩ := L3_0_ok m 18446744073709551616 (w64 (65536 + w64 (↑(BitVec.toNat (BitVec.ofInt (IntKind.bits IntKind.i64) z1 &&& BitVec.ofInt (IntKind.bits IntKind.i64) 262143)) : Int))) (0) (k796) ((↑k796 : Int)) (0) (b791) (k792) (l797) (l795) r3 h3
        have h3 : loopRun Try.prog X (genO X (call Try.prog X O0 18446744073709551616 (m + 8))) 3 (0) 18446744073709551616 B3 0 ({ T := V.list 1 l0 :: i64 z1 :: i64 z2 :: U :: U :: U :: vb false :: V.ptr 2 0 0 :: i64 (w64 (65536 + w64 (↑(BitVec.toNat (BitVec.ofInt (IntKind.bits IntKind.i64) z1 &&& BitVec.ofInt (IntKind.bits IntKind.i64) 262143)) : Int))) :: i64 (w64 (65536 + w64 (↑(BitVec.toNat (BitVec.ofInt (IntKind.bits IntKind.i64) z2 &&& BitVec.ofInt (IntKind.bits IntKind.i64) 262143)) : Int))) :: i64 0 :: V.hs 4 0 k796 :: U :: U :: U :: V.list 1 l0 :: V.agg [V.list 1 l0, i64 0] :: V.ptr 0 0 0 :: V.agg [vb b791, V.hs 1 0 k792] :: i64 z1 :: i64 (w64 (↑(BitVec.toNat (BitVec.ofInt (IntKind.bits IntKind.i64) z1 &&& BitVec.ofInt (IntKind.bits IntKind.i64) 262143)) : Int)) :: i64 (w64 (65536 + w64 (↑(BitVec.toNat (BitVec.ofInt (IntKind.bits IntKind.i64) z1 &&& BitVec.ofInt (IntKind.bits IntKind.i64) 262143)) : Int))) :: i64 z2 :: i64 (w64 (↑(BitVec.toNat (BitVec.ofInt (IntKind.bits IntKind.i64) z2 &&& BitVec.ofInt (IntKind.bits IntKind.i64) 262143)) : Int)) :: i64 (w64 (65536 + w64 (↑(BitVec.toNat (BitVec.ofInt (IntKind.bits IntKind.i64) z2 &&& BitVec.ofInt (IntKind.bits IntKind.i64) 262143)) : Int))) :: V.agg [vb b791, V.hs 1 0 k792] :: i64 (w64 (65536 + w64 (↑(BitVec.toNat (BitVec.ofInt (IntKind.bits IntKind.i64) z1 &&& BitVec.ofInt (IntKind.bits IntKind.i64) 262143)) : Int))) :: i64 (w64 (65536 + w64 (↑(BitVec.toNat (BitVec.ofInt (IntKind.bits IntKind.i64) z2 &&& BitVec.ofInt (IntKind.bits IntKind.i64) 262143)) : Int))) :: V.hs 3 0 2 :: V.hs 4 0 k796 :: V.hs 4 0 k796 :: i64 (↑k796 : Int) :: i64 0 :: un 36 [], σ := [Ob.cells true false 2 [[V.list 1 l793, i64 z794]], Ob.cells false true 2 l795, Ob.cells true false 2 [[vb b791, V.hs 1 0 k792]], Ob.cells false true 1 [[i64 (w64 (65536 + w64 (↑(BitVec.toNat (BitVec.ofInt (IntKind.bits IntKind.i64) z1 &&& BitVec.ofInt (IntKind.bits IntKind.i64) 262143)) : Int)))], [i64 (w64 (65536 + w64 (↑(BitVec.toNat (BitVec.ofInt (IntKind.bits IntKind.i64) z2 &&& BitVec.ofInt (IntKind.bits IntKind.i64) 262143)) : Int)))]], Ob.cells true true 2 l797] }) = some st3 := by
          rw [loopRun_from, show pre X 3 (0) 0 ({ T := V.list 1 l0 :: i64 z1 :: i64 z2 :: U :: U :: U :: vb false :: V.ptr 2 0 0 :: i64 (w64 (65536 + w64 (↑(BitVec.toNat (BitVec.ofInt (IntKind.bits IntKind.i64) z1 &&& BitVec.ofInt (IntKind.bits IntKind.i64) 262143)) : Int))) :: i64 (w64 (65536 + w64 (↑(BitVec.toNat (BitVec.ofInt (IntKind.bits IntKind.i64) z2 &&& BitVec.ofInt (IntKind.bits IntKind.i64) 262143)) : Int))) :: i64 0 :: V.hs 4 0 k796 :: U :: U :: U :: V.list 1 l0 :: V.agg [V.list 1 l0, i64 0] :: V.ptr 0 0 0 :: V.agg [vb b791, V.hs 1 0 k792] :: i64 z1 :: i64 (w64 (↑(BitVec.toNat (BitVec.ofInt (IntKind.bits IntKind.i64) z1 &&& BitVec.ofInt (IntKind.bits IntKind.i64) 262143)) : Int)) :: i64 (w64 (65536 + w64 (↑(BitVec.toNat (BitVec.ofInt (IntKind.bits IntKind.i64) z1 &&& BitVec.ofInt (IntKind.bits IntKind.i64) 262143)) : Int))) :: i64 z2 :: i64 (w64 (↑(BitVec.toNat (BitVec.ofInt (IntKind.bits IntKind.i64) z2 &&& BitVec.ofInt (IntKind.bits IntKind.i64) 262143)) : Int)) :: i64 (w64 (65536 + w64 (↑(BitVec.toNat (BitVec.ofInt (IntKind.bits IntKind.i64) z2 &&& BitVec.ofInt (IntKind.bits IntKind.i64) 262143)) : Int))) :: V.agg [vb b791, V.hs 1 0 k792] :: i64 (w64 (65536 + w64 (↑(BitVec.toNat (BitVec.ofInt (IntKind.bits IntKind.i64) z1 &&& BitVec.ofInt (IntKind.bits IntKind.i64) 262143)) : Int))) :: i64 (w64 (65536 + w64 (↑(BitVec.toNat (BitVec.ofInt (IntKind.bits IntKind.i64) z2 &&& BitVec.ofInt (IntKind.bits IntKind.i64) 262143)) : Int))) :: V.hs 3 0 2 :: V.hs 4 0 k796 :: V.hs 4 0 k796 :: i64 (↑k796 : Int) :: i64 0 :: un 36 [], σ := [Ob.cells true false 2 [[V.list 1 l793, i64 z794]], Ob.cells false true 2 l795, Ob.cells true false 2 [[vb b791, V.hs 1 0 k792]], Ob.cells false true 1 [[i64 (w64 (65536 + w64 (↑(BitVec.toNat (BitVec.ofInt (IntKind.bits IntKind.i64) z1 &&& BitVec.ofInt (IntKind.bits IntKind.i64) 262143)) : Int)))], [i64 (w64 (65536 + w64 (↑(BitVec.toNat (BitVec.ofInt (IntKind.bits IntKind.i64) z2 &&& BitVec.ofInt (IntKind.bits IntKind.i64) 262143)) : Int)))]], Ob.cells true true 2 l797] }) = { T := un 7 (V.ptr 0 0 0 :: i64 (w64 (65536 + w64 (↑(BitVec.toNat (BitVec.ofInt (IntKind.bits IntKind.i64) z1 &&& BitVec.ofInt (IntKind.bits IntKind.i64) 262143)) : Int))) :: U :: i64 0 :: V.hs 1 0 k796 :: un 18 (V.hs 1 0 k796 :: i64 (↑k796 : Int) :: i64 0 :: un 36 [])), σ := [Ob.cells true false 2 [[vb b791, V.hs 2 0 k792]], Ob.cells true true 2 l797, Ob.cells false true 2 l795] } by kernel_rfl]
          exact h3
        cases r3 with
        | e0 =>
          obtain ⟨z858, z859, k860, z861, z862, z863, b864, k865, b866, l867, b868, k869, l870, l871, rfl⟩ := hr3
          cases h
        | e1 =>
          obtain ⟨z872, z873, k874, z875, z876, z877, b878, k879, b880, l881, z882, b883, b884, k885, l886, l887, rfl⟩ := hr3
          cases h
        | e2 =>
          obtain ⟨z888, z889, k890, z891, z892, z893, b894, k895, b896, l897, z898, b899, z900, b901, b902, k903, l904, l905, rfl⟩ := hr3
          cases h
        | e3 z907 k908 b912 k913 l915 =>
          obtain ⟨z906, z909, z910, b911, l914, rfl⟩ := hr3
          rcases ite_eq h with ⟨h4, h⟩ | ⟨h4, h⟩
          · skip
            rcases ite_eq h with ⟨h5, h⟩ | ⟨h5, h⟩
            · skip
              obtain ⟨r6, h6, h⟩ := Option.bind_eq_some_iff.mp h
              have h6 := F13_ok (m + 3) (b912) (List.take k913 l915) r6 h6
              cases r6 with
              | a0 z916 =>
                rcases ite_eq h with ⟨h7, h⟩ | ⟨h7, h⟩
                · skip
                  obtain ⟨r8, h8, h⟩ := Option.bind_eq_some_iff.mp h
                  have h8 := F14_ok (m + 0) r8 h8
                  cases r8 with
                  | a0 b917 =>
                    cases h
                    exact call_pathL (gs := [.an (V.agg [vb b791, V.hs 1 0 k792]) [Ob.cells true false 2 [[V.list 1 l793, i64 z794]], Ob.cells true true 2 l795], .a, .a, .t, .a, .an (V.hs 0 0 k796) [Ob.cells true true 2 l797], .lp (VX.exit 0) (s3_0_3 z906 z907 k908 z909 z910 b911 b912 k913 l914 l915), .t, .t, .a, .t, .t, .an (i64 z916) [], .t, .t, .t, .t, .an (vb b917) [], .t]) (notIn []) rfl rfl (by kernel_rfl) (And.intro h0 (And.intro (decide_eq_true h1) (And.intro h2 (And.intro h3 (And.intro (decide_eq_true h4) (And.intro (decide_eq_true h4) (And.intro (decide_eq_true h4) (And.intro (decide_eq_true h5) (And.intro h6 (And.intro (decide_eq_true h4) (And.intro (decide_eq_true h4) (And.intro (decide_eq_true h4) (And.intro (decide_eq_true h7) (And.intro h8 (And.intro (decide_eq_true h7) True.intro)))))))))))))))
                · skip
                  cases h
            · skip
              cases h
          · skip
            cases h
    · skip
      cases h
/-! ## 43 -/
noncomputable abbrev B43 : Code := (Try.f43.body).getD .skip
inductive R43_0 where
  | e0
  | e1
  | e2 (l1015 : List (List V))
@[reducible] def s43_0_0 (l1002 : List (List V)) (z1003 : Int) (z1004 : Int) (b1005 : Bool) (z1006 : Int) (b1007 : Bool) : S := { T := [V.list 1 l1002, U, vb false, i64 z1003, i64 z1003, V.list 1 l1002, i64 z1004, vb b1005, U, U, V.list 1 l1002, i64 z1003, V.pp [i64 z1006], i64 z1006, vb b1007, vb b1007, E, E, E, E, E, vb true, U, U, U], σ := [] }
@[reducible] def s43_0_1 (l1008 : List (List V)) (z1009 : Int) (z1010 : Int) (b1011 : Bool) (z1012 : Int) (b1013 : Bool) (b1014 : Bool) : S := { T := [V.list 1 l1008, U, vb false, i64 z1009, i64 z1009, V.list 1 l1008, i64 z1010, vb b1011, U, U, V.list 1 l1008, i64 z1009, V.pp [i64 z1012], i64 z1012, vb b1013, vb b1013, V.list 1 l1008, i64 z1009, V.pp [i64 z1012], i64 z1012, vb b1014, vb b1014, U, U, U], σ := [] }
@[reducible] def s43_0_2 (l1015 : List (List V)) (z1016 : Int) (z1017 : Int) (b1018 : Bool) : S := { T := V.list 1 l1015 :: U :: U :: i64 z1016 :: i64 z1016 :: V.list 1 l1015 :: i64 z1017 :: vb b1018 :: un 17 [], σ := [] }
def R43_0.St : R43_0 → VX × S → Prop
  | .e0, p => ∃ l1002 : List (List V), ∃ z1003 : Int, ∃ z1004 : Int, ∃ b1005 : Bool, ∃ z1006 : Int, ∃ b1007 : Bool, p = (VX.ret, s43_0_0 l1002 z1003 z1004 b1005 z1006 b1007)
  | .e1, p => ∃ l1008 : List (List V), ∃ z1009 : Int, ∃ z1010 : Int, ∃ b1011 : Bool, ∃ z1012 : Int, ∃ b1013 : Bool, ∃ b1014 : Bool, p = (VX.ret, s43_0_1 l1008 z1009 z1010 b1011 z1012 b1013 b1014)
  | .e2 l1015, p => ∃ z1016 : Int, ∃ z1017 : Int, ∃ b1018 : Bool, p = (VX.exit 0, s43_0_2 l1015 z1016 z1017 b1018)
def L43_0 : Nat → List (List V) → Int → Option R43_0
  | 0, _, _ => none
  | n + 1, l981, z982 =>
    if z982 < (↑(List.length l981) : Int) then
     if 0 ≤ z982 then
      ((l981[Int.toNat z982]?).bind W2.dec).bind fun e1001 =>
      if e1001.c0 < 65536 then
       some (R43_0.e0)
      else
       if e1001.c0 > 67108864 then
        some (R43_0.e1)
       else
        L43_0 n (l981) (w64 (z982 + 1))
     else
      none -- none
    else
     some (R43_0.e2 (l981))
theorem L43_0_ok (m : Nat) : ∀ (n : Nat) (l981 : List (List V)) (z982 : Int) (r : R43_0), L43_0 n l981 z982 = some r → ∃ st, loopFrom Try.prog X (genO X (call Try.prog X O0 18446744073709551616 (m + 0))) 43 (0) 18446744073709551616 B43 0 n ({ T := V.list 1 l981 :: U :: U :: i64 z982 :: un 21 [], σ := [] }) = some st ∧ r.St st
  | 0, _, _, r, h => by cases h
  | n + 1, l981, z982, r, h => by
    rw [L43_0] at h
    rcases ite_eq h with ⟨h0, h⟩ | ⟨h0, h⟩
    · skip
      rcases ite_eq h with ⟨h1, h⟩ | ⟨h1, h⟩
      · skip
        obtain ⟨e1001, h2, h⟩ := Option.bind_eq_some_iff.mp h
        rcases ite_eq h with ⟨h3, h⟩ | ⟨h3, h⟩
        · skip
          cases h
          exact ⟨_, round_out (gs := [.t, .t, .el (W2.cells e1001), .t, .t, .t, .t, .t, .t, .a]) (notIn []) (by kernel_rfl) rfl (And.intro (decide_eq_true h0) (And.intro (decide_eq_true h1) (And.intro (W2.dec_ok h2) (And.intro (decide_eq_true h3) (And.intro (decide_eq_true h3) (And.intro (decide_eq_true h3) (And.intro (decide_eq_true h3) (And.intro (decide_eq_true h3) (And.intro (decide_eq_true h3) True.intro))))))))) n, l981, z982, (↑(List.length l981) : Int), decide (z982 < (↑(List.length l981) : Int)), e1001.c0, decide (e1001.c0 < 65536), rfl⟩
        · skip
          rcases ite_eq h with ⟨h4, h⟩ | ⟨h4, h⟩
          · skip
            cases h
            exact ⟨_, round_out (gs := [.t, .t, .el (W2.cells e1001), .f, .f, .f, .t, .el (W2.cells e1001), .f, .f, .f, .t]) (notIn []) (by kernel_rfl) rfl (And.intro (decide_eq_true h0) (And.intro (decide_eq_true h1) (And.intro (W2.dec_ok h2) (And.intro (decide_eq_false h3) (And.intro (decide_eq_false h3) (And.intro (decide_eq_false h3) (And.intro (decide_eq_true h1) (And.intro (W2.dec_ok h2) (And.intro (decide_eq_false h3) (And.intro (decide_eq_false h3) (And.intro (decide_eq_false h3) (And.intro (decide_eq_true h4) True.intro)))))))))))) n, l981, z982, (↑(List.length l981) : Int), decide (z982 < (↑(List.length l981) : Int)), e1001.c0, decide (e1001.c0 < 65536), decide (e1001.c0 > 67108864), rfl⟩
          · skip
            obtain ⟨st, hs, hr⟩ := L43_0_ok m n (l981) (w64 (z982 + 1)) r h
            exact ⟨st, (round_on (gs := [.t, .t, .el (W2.cells e1001), .f, .f, .f, .t, .el (W2.cells e1001), .f, .f, .f, .f]) (notIn []) (by kernel_rfl) (And.intro (decide_eq_true h0) (And.intro (decide_eq_true h1) (And.intro (W2.dec_ok h2) (And.intro (decide_eq_false h3) (And.intro (decide_eq_false h3) (And.intro (decide_eq_false h3) (And.intro (decide_eq_true h1) (And.intro (W2.dec_ok h2) (And.intro (decide_eq_false h3) (And.intro (decide_eq_false h3) (And.intro (decide_eq_false h3) (And.intro (decide_eq_false h4) True.intro)))))))))))) n).trans hs, hr⟩
      · skip
        cases h
    · skip
      cases h
      exact ⟨_, round_out (gs := [.f]) (notIn []) (by kernel_rfl) rfl (And.intro (decide_eq_false h0) True.intro) n, z982, (↑(List.length l981) : Int), decide (z982 < (↑(List.length l981) : Int)), rfl⟩
inductive A43 where
  | a0 (b1025 : Bool)
@[reducible] def A43.out : A43 → V × Store
  | .a0 b1025 => (vb b1025, [])
def F43 (l966 : List (List V)) : Option A43 :=
  (L43_0 18446744073709551616 (l966) (0)).bind fun r => match r with
  | .e0 =>
   some (A43.a0 (false))
  | .e1 =>
   some (A43.a0 (false))
  | .e2 l1033 =>
   some (A43.a0 (decide ((↑(List.length l1033) : Int) ≤ 8)))
theorem F43_ok (m : Nat) (l966 : List (List V)) (r : A43) (h : F43 l966 = some r) : call Try.prog X O0 18446744073709551616 (m + 1) 43 ([V.list 1 l966]) ([]) = some r.out := by
  unfold F43 at h
  obtain ⟨r0, h0, h⟩ := Option.bind_eq_some_iff.mp h
  obtain ⟨st0, h0, hr0⟩ := L43_0_ok m 18446744073709551616 (l966) (0) r0 h0
  have h0 : loopRun Try.prog X (genO X (call Try.prog X O0 18446744073709551616 (m + 0))) 43 (0) 18446744073709551616 B43 0 ({ T := V.list 1 l966 :: U :: vb false :: i64 0 :: un 21 [], σ := [] }) = some st0 := by
    rw [loopRun_from, show pre X 43 (0) 0 ({ T := V.list 1 l966 :: U :: vb false :: i64 0 :: un 21 [], σ := [] }) = { T := V.list 1 l966 :: U :: U :: i64 0 :: un 21 [], σ := [] } by kernel_rfl]
    exact h0
  cases r0 with
  | e0 =>
    obtain ⟨l1019, z1020, z1021, b1022, z1023, b1024, rfl⟩ := hr0
    cases h
    exact call_pathL (gs := [.lp (VX.ret) (s43_0_0 l1019 z1020 z1021 b1022 z1023 b1024)]) (notIn []) rfl rfl (by kernel_rfl) (And.intro h0 True.intro)
  | e1 =>
    obtain ⟨l1026, z1027, z1028, b1029, z1030, b1031, b1032, rfl⟩ := hr0
    cases h
    exact call_pathL (gs := [.lp (VX.ret) (s43_0_1 l1026 z1027 z1028 b1029 z1030 b1031 b1032)]) (notIn []) rfl rfl (by kernel_rfl) (And.intro h0 True.intro)
  | e2 l1033 =>
    obtain ⟨z1034, z1035, b1036, rfl⟩ := hr0
    cases h
    exact call_pathL (gs := [.lp (VX.exit 0) (s43_0_2 l1033 z1034 z1035 b1036)]) (notIn []) rfl rfl (by kernel_rfl) (And.intro h0 True.intro)
/-! ## 66 -/
inductive A66 where
  | a0 (b1047 : Bool) (k1048 : Nat) (l1049 : List (List V))
@[reducible] def A66.out : A66 → V × Store
  | .a0 b1047 k1048 l1049 => (V.agg [vb b1047, V.hs 0 0 k1048], [Ob.cells true true 2 l1049])
def F66 (b1044 : Bool) (l1045 : List (List V)) : Option A66 :=
  if (0 : Nat) ≤ (0 : Nat) ∧ ((0 : Nat) + List.length l1045) * (16 : Nat) ≤ (140737488355328 : Nat) ∧ (0 : Nat) + List.length l1045 ≤ (140737488355328 : Nat) then
   some (A66.a0 (b1044) (0 + List.length l1045) ([] ++ l1045))
  else
   none -- none
theorem F66_ok (m : Nat) (b1044 : Bool) (l1045 : List (List V)) (r : A66) (h : F66 b1044 l1045 = some r) : call Try.prog X O0 18446744073709551616 (m + 1) 66 ([V.agg [vb b1044, V.list 2 l1045]]) ([]) = some r.out := by
  unfold F66 at h
  rcases ite_eq h with ⟨h0, h⟩ | ⟨h0, h⟩
  · skip
    cases h
    exact call_pathL (gs := [.a, .a, .t, .a, .ft [⟨0, [0], []⟩, ⟨1, [0], []⟩, ⟨2, [2], [2]⟩, ⟨3, [0], []⟩, ⟨4, [0], []⟩, ⟨5, [3, 2], [2, 3]⟩, ⟨6, [], []⟩, ⟨7, [1], [1]⟩]]) (notIn []) rfl rfl (by kernel_rfl) (And.intro (decide_eq_true h0) (And.intro (Eq.refl ([⟨0, [0], []⟩, ⟨1, [0], []⟩, ⟨2, [2], [2]⟩, ⟨3, [0], []⟩, ⟨4, [0], []⟩, ⟨5, [3, 2], [2, 3]⟩, ⟨6, [], []⟩, ⟨7, [1], [1]⟩] : List Foot)) True.intro))
  · skip
    cases h
/-! ## 82 -/
inductive A82 where
  | a0 (z1106 : Int) (b1107 : Bool)
@[reducible] def A82.out : A82 → V × Store
  | .a0 z1106 b1107 => (V.tup [V.int IntKind.u64 z1106, vb b1107], [])
def F82 (z1104 : Int) : Option A82 :=
  if z1104 < 0 then
   some (A82.a0 (IntKind.wrap IntKind.u64 (w64 (0 - z1104))) (true))
  else
   some (A82.a0 (IntKind.wrap IntKind.u64 z1104) (false))
theorem F82_ok (m : Nat) (z1104 : Int) (r : A82) (h : F82 z1104 = some r) : call Try.prog X O0 18446744073709551616 (m + 1) 82 ([i64 z1104]) ([]) = some r.out := by
  unfold F82 at h
  rcases ite_eq h with ⟨h0, h⟩ | ⟨h0, h⟩
  · skip
    cases h
    exact call_pathL (gs := [.t]) (notIn []) rfl rfl (by kernel_rfl) (And.intro (decide_eq_true h0) True.intro)
  · skip
    cases h
    exact call_pathL (gs := [.f]) (notIn []) rfl rfl (by kernel_rfl) (And.intro (decide_eq_false h0) True.intro)
def Y0 : ByteArray := { data := List.toArray (List.append (List.append [0, 1, 2, 2, 3, 3, 3, 3, 4, 4, 4, 4, 4, 4, 4, 4, 5, 5, 5, 5, 5, 5, 5, 5, 5, 5, 5, 5, 5, 5, 5, 5, 6, 6, 6, 6, 6, 6, 6, 6, 6, 6, 6, 6, 6, 6, 6, 6, 6, 6, 6, 6, 6, 6, 6, 6, 6, 6, 6, 6, 6, 6, 6, 6] [7, 7, 7, 7, 7, 7, 7, 7, 7, 7, 7, 7, 7, 7, 7, 7, 7, 7, 7, 7, 7, 7, 7, 7, 7, 7, 7, 7, 7, 7, 7, 7, 7, 7, 7, 7, 7, 7, 7, 7, 7, 7, 7, 7, 7, 7, 7, 7, 7, 7, 7, 7, 7, 7, 7, 7, 7, 7, 7, 7, 7, 7, 7, 7]) (List.append [8, 8, 8, 8, 8, 8, 8, 8, 8, 8, 8, 8, 8, 8, 8, 8, 8, 8, 8, 8, 8, 8, 8, 8, 8, 8, 8, 8, 8, 8, 8, 8, 8, 8, 8, 8, 8, 8, 8, 8, 8, 8, 8, 8, 8, 8, 8, 8, 8, 8, 8, 8, 8, 8, 8, 8, 8, 8, 8, 8, 8, 8, 8, 8] [8, 8, 8, 8, 8, 8, 8, 8, 8, 8, 8, 8, 8, 8, 8, 8, 8, 8, 8, 8, 8, 8, 8, 8, 8, 8, 8, 8, 8, 8, 8, 8, 8, 8, 8, 8, 8, 8, 8, 8, 8, 8, 8, 8, 8, 8, 8, 8, 8, 8, 8, 8, 8, 8, 8, 8, 8, 8, 8, 8, 8, 8, 8, 8])) }
/-! ## 89 -/
inductive A89 where
  | a0 (z1132 : Int)
@[reducible] def A89.out : A89 → V × Store
  | .a0 z1132 => (i64 z1132, [])
def F89 (z1130 : Int) : Option A89 :=
  if z1130 ≥ 4294967296 then
   if Int.fdiv z1130 4294967296 ≥ 65536 then
    if Int.fdiv (Int.fdiv z1130 4294967296) 65536 ≥ 256 then
     if 0 ≤ IntKind.wrap IntKind.u8 (Int.fdiv (Int.fdiv (Int.fdiv z1130 4294967296) 65536) 256) ∧ Int.toNat (IntKind.wrap IntKind.u8 (Int.fdiv (Int.fdiv (Int.fdiv z1130 4294967296) 65536) 256)) < 256 then
      some (A89.a0 (w64 (56 + w64 (byteAt Y0 (Int.toNat (IntKind.wrap IntKind.u8 (Int.fdiv (Int.fdiv (Int.fdiv z1130 4294967296) 65536) 256)))))))
     else
      none -- none
    else
     if 0 ≤ IntKind.wrap IntKind.u8 (Int.fdiv (Int.fdiv z1130 4294967296) 65536) ∧ Int.toNat (IntKind.wrap IntKind.u8 (Int.fdiv (Int.fdiv z1130 4294967296) 65536)) < 256 then
      some (A89.a0 (w64 (48 + w64 (byteAt Y0 (Int.toNat (IntKind.wrap IntKind.u8 (Int.fdiv (Int.fdiv z1130 4294967296) 65536)))))))
     else
      none -- none
   else
    if Int.fdiv z1130 4294967296 ≥ 256 then
     if 0 ≤ IntKind.wrap IntKind.u8 (Int.fdiv (Int.fdiv z1130 4294967296) 256) ∧ Int.toNat (IntKind.wrap IntKind.u8 (Int.fdiv (Int.fdiv z1130 4294967296) 256)) < 256 then
      some (A89.a0 (w64 (40 + w64 (byteAt Y0 (Int.toNat (IntKind.wrap IntKind.u8 (Int.fdiv (Int.fdiv z1130 4294967296) 256)))))))
     else
      none -- none
    else
     if 0 ≤ IntKind.wrap IntKind.u8 (Int.fdiv z1130 4294967296) ∧ Int.toNat (IntKind.wrap IntKind.u8 (Int.fdiv z1130 4294967296)) < 256 then
      some (A89.a0 (w64 (32 + w64 (byteAt Y0 (Int.toNat (IntKind.wrap IntKind.u8 (Int.fdiv z1130 4294967296)))))))
     else
      none -- none
  else
   if z1130 ≥ 65536 then
    if Int.fdiv z1130 65536 ≥ 256 then
     if 0 ≤ IntKind.wrap IntKind.u8 (Int.fdiv (Int.fdiv z1130 65536) 256) ∧ Int.toNat (IntKind.wrap IntKind.u8 (Int.fdiv (Int.fdiv z1130 65536) 256)) < 256 then
      some (A89.a0 (w64 (24 + w64 (byteAt Y0 (Int.toNat (IntKind.wrap IntKind.u8 (Int.fdiv (Int.fdiv z1130 65536) 256)))))))
     else
      none -- none
    else
     if 0 ≤ IntKind.wrap IntKind.u8 (Int.fdiv z1130 65536) ∧ Int.toNat (IntKind.wrap IntKind.u8 (Int.fdiv z1130 65536)) < 256 then
      some (A89.a0 (w64 (16 + w64 (byteAt Y0 (Int.toNat (IntKind.wrap IntKind.u8 (Int.fdiv z1130 65536)))))))
     else
      none -- none
   else
    if z1130 ≥ 256 then
     if 0 ≤ IntKind.wrap IntKind.u8 (Int.fdiv z1130 256) ∧ Int.toNat (IntKind.wrap IntKind.u8 (Int.fdiv z1130 256)) < 256 then
      some (A89.a0 (w64 (8 + w64 (byteAt Y0 (Int.toNat (IntKind.wrap IntKind.u8 (Int.fdiv z1130 256)))))))
     else
      none -- none
    else
     if 0 ≤ IntKind.wrap IntKind.u8 z1130 ∧ Int.toNat (IntKind.wrap IntKind.u8 z1130) < 256 then
      some (A89.a0 (w64 (0 + w64 (byteAt Y0 (Int.toNat (IntKind.wrap IntKind.u8 z1130))))))
     else
      none -- none
theorem F89_ok (m : Nat) (z1130 : Int) (r : A89) (h : F89 z1130 = some r) : call Try.prog X O0 18446744073709551616 (m + 1) 89 ([V.int IntKind.u64 z1130]) ([]) = some r.out := by
  unfold F89 at h
  rcases ite_eq h with ⟨h0, h⟩ | ⟨h0, h⟩
  · skip
    rcases ite_eq h with ⟨h1, h⟩ | ⟨h1, h⟩
    · skip
      rcases ite_eq h with ⟨h2, h⟩ | ⟨h2, h⟩
      · skip
        rcases ite_eq h with ⟨h3, h⟩ | ⟨h3, h⟩
        · skip
          cases h
          exact call_pathL (gs := [.t, .a, .t, .a, .t, .a, .t]) (notIn []) rfl rfl (by kernel_rfl) (And.intro (decide_eq_true h0) (And.intro (decide_eq_true h1) (And.intro (decide_eq_true h2) (And.intro (decide_eq_true h3) True.intro))))
        · skip
          cases h
      · skip
        rcases ite_eq h with ⟨h3, h⟩ | ⟨h3, h⟩
        · skip
          cases h
          exact call_pathL (gs := [.t, .a, .t, .a, .f, .t]) (notIn []) rfl rfl (by kernel_rfl) (And.intro (decide_eq_true h0) (And.intro (decide_eq_true h1) (And.intro (decide_eq_false h2) (And.intro (decide_eq_true h3) True.intro))))
        · skip
          cases h
    · skip
      rcases ite_eq h with ⟨h2, h⟩ | ⟨h2, h⟩
      · skip
        rcases ite_eq h with ⟨h3, h⟩ | ⟨h3, h⟩
        · skip
          cases h
          exact call_pathL (gs := [.t, .a, .f, .t, .a, .t]) (notIn []) rfl rfl (by kernel_rfl) (And.intro (decide_eq_true h0) (And.intro (decide_eq_false h1) (And.intro (decide_eq_true h2) (And.intro (decide_eq_true h3) True.intro))))
        · skip
          cases h
      · skip
        rcases ite_eq h with ⟨h3, h⟩ | ⟨h3, h⟩
        · skip
          cases h
          exact call_pathL (gs := [.t, .a, .f, .f, .t]) (notIn []) rfl rfl (by kernel_rfl) (And.intro (decide_eq_true h0) (And.intro (decide_eq_false h1) (And.intro (decide_eq_false h2) (And.intro (decide_eq_true h3) True.intro))))
        · skip
          cases h
  · skip
    rcases ite_eq h with ⟨h1, h⟩ | ⟨h1, h⟩
    · skip
      rcases ite_eq h with ⟨h2, h⟩ | ⟨h2, h⟩
      · skip
        rcases ite_eq h with ⟨h3, h⟩ | ⟨h3, h⟩
        · skip
          cases h
          exact call_pathL (gs := [.f, .t, .a, .t, .a, .t]) (notIn []) rfl rfl (by kernel_rfl) (And.intro (decide_eq_false h0) (And.intro (decide_eq_true h1) (And.intro (decide_eq_true h2) (And.intro (decide_eq_true h3) True.intro))))
        · skip
          cases h
      · skip
        rcases ite_eq h with ⟨h3, h⟩ | ⟨h3, h⟩
        · skip
          cases h
          exact call_pathL (gs := [.f, .t, .a, .f, .t]) (notIn []) rfl rfl (by kernel_rfl) (And.intro (decide_eq_false h0) (And.intro (decide_eq_true h1) (And.intro (decide_eq_false h2) (And.intro (decide_eq_true h3) True.intro))))
        · skip
          cases h
    · skip
      rcases ite_eq h with ⟨h2, h⟩ | ⟨h2, h⟩
      · skip
        rcases ite_eq h with ⟨h3, h⟩ | ⟨h3, h⟩
        · skip
          cases h
          exact call_pathL (gs := [.f, .f, .t, .a, .t]) (notIn []) rfl rfl (by kernel_rfl) (And.intro (decide_eq_false h0) (And.intro (decide_eq_false h1) (And.intro (decide_eq_true h2) (And.intro (decide_eq_true h3) True.intro))))
        · skip
          cases h
      · skip
        rcases ite_eq h with ⟨h3, h⟩ | ⟨h3, h⟩
        · skip
          cases h
          exact call_pathL (gs := [.f, .f, .f, .t]) (notIn []) rfl rfl (by kernel_rfl) (And.intro (decide_eq_false h0) (And.intro (decide_eq_false h1) (And.intro (decide_eq_false h2) (And.intro (decide_eq_true h3) True.intro))))
        · skip
          cases h
end Go.Proofs.Ytojigbcgmneiiaa.H
