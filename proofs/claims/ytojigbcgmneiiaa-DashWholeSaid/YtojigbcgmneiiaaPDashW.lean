/- What the functions compute, and that they do so over the machine of plain values (printed by this session's program wip/vm/Walk.lean). No condition beyond those stated. -/
import Derived.Test.YtojigbcgmneiiaaWk
import Derived.Test.YtojigbcgmneiiaaRowsR3
set_option linter.unusedVariables false
set_option linter.unusedSimpArgs false
namespace Go.Proofs.Ytojigbcgmneiiaa.H
open Go Go.VM
set_option maxRecDepth 100000
/-! ## 50 -/
inductive A50 where
  | a0 (z17 : Int)
@[reducible] def A50.out : A50 → V × Store
  | .a0 z17 => (i64 z17, [])
def F50 (z13 : Int) (z14 : Int) (z15 : Int) : Option A50 :=
  if z13 ≥ z14 then
   if z13 ≤ z15 then
    some (A50.a0 (z13))
   else
    if w64 (w64 (z15 - z14) + 1) = 0 then
     none -- none
    else
     if Int.tmod z13 (w64 (w64 (z15 - z14) + 1)) < 0 then
      some (A50.a0 (w64 (z14 + w64 (w64 (w64 (Int.tmod z13 (w64 (w64 (z15 - z14) + 1)) + z15) - z14) + 1))))
     else
      some (A50.a0 (w64 (z14 + Int.tmod z13 (w64 (w64 (z15 - z14) + 1)))))
  else
   if w64 (w64 (z15 - z14) + 1) = 0 then
    none -- none
   else
    if Int.tmod z13 (w64 (w64 (z15 - z14) + 1)) < 0 then
     some (A50.a0 (w64 (z14 + w64 (w64 (w64 (Int.tmod z13 (w64 (w64 (z15 - z14) + 1)) + z15) - z14) + 1))))
    else
     some (A50.a0 (w64 (z14 + Int.tmod z13 (w64 (w64 (z15 - z14) + 1)))))
theorem F50_ok (m : Nat) (z13 : Int) (z14 : Int) (z15 : Int) (r : A50) (h : F50 z13 z14 z15 = some r) : call Try.prog X O0 100000 (m + 1) 50 ([i64 z13, i64 z14, i64 z15]) ([]) = some r.out := by
  unfold F50 at h
  rcases ite_eq h with ⟨h0, h⟩ | ⟨h0, h⟩
  · skip
    rcases ite_eq h with ⟨h1, h⟩ | ⟨h1, h⟩
    · skip
      cases h
      exact call_pathL (gs := [.t, .t, .t, .t, .t]) (notIn []) rfl rfl (by kernel_rfl) (And.intro (decide_eq_true h0) (And.intro (decide_eq_true h0) (And.intro (decide_eq_true h0) (And.intro (decide_eq_true h0) (And.intro (decide_eq_true h1) True.intro)))))
    · skip
      rcases ite_eq h with ⟨h2, h⟩ | ⟨h2, h⟩
      · skip
        cases h
      · skip
        rcases ite_eq h with ⟨h3, h⟩ | ⟨h3, h⟩
        · skip
          cases h
          exact call_pathL (gs := [.t, .t, .t, .t, .f, .f, .t]) (notIn []) rfl rfl (by kernel_rfl) (And.intro (decide_eq_true h0) (And.intro (decide_eq_true h0) (And.intro (decide_eq_true h0) (And.intro (decide_eq_true h0) (And.intro (decide_eq_false h1) (And.intro (decide_eq_false h2) (And.intro (decide_eq_true h3) True.intro)))))))
        · skip
          cases h
          exact call_pathL (gs := [.t, .t, .t, .t, .f, .f, .f]) (notIn []) rfl rfl (by kernel_rfl) (And.intro (decide_eq_true h0) (And.intro (decide_eq_true h0) (And.intro (decide_eq_true h0) (And.intro (decide_eq_true h0) (And.intro (decide_eq_false h1) (And.intro (decide_eq_false h2) (And.intro (decide_eq_false h3) True.intro)))))))
  · skip
    rcases ite_eq h with ⟨h1, h⟩ | ⟨h1, h⟩
    · skip
      cases h
    · skip
      rcases ite_eq h with ⟨h2, h⟩ | ⟨h2, h⟩
      · skip
        cases h
        exact call_pathL (gs := [.f, .f, .f, .f, .a, .f, .t]) (notIn []) rfl rfl (by kernel_rfl) (And.intro (decide_eq_false h0) (And.intro (decide_eq_false h0) (And.intro (decide_eq_false h0) (And.intro (decide_eq_false h0) (And.intro (decide_eq_false h1) (And.intro (decide_eq_true h2) True.intro))))))
      · skip
        cases h
        exact call_pathL (gs := [.f, .f, .f, .f, .a, .f, .f]) (notIn []) rfl rfl (by kernel_rfl) (And.intro (decide_eq_false h0) (And.intro (decide_eq_false h0) (And.intro (decide_eq_false h0) (And.intro (decide_eq_false h0) (And.intro (decide_eq_false h1) (And.intro (decide_eq_false h2) True.intro))))))
/-! ## 28 -/
inductive A28 where
  | a0 (z9 : Int) (l10 : List (List V)) (z11 : Int)
@[reducible] def A28.out : A28 → V × Store
  | .a0 z9 l10 z11 => (i64 z9, [Ob.cells true false 2 [[V.list 1 l10, i64 z11]]])
def F28 (z5 : Int) (l6 : List (List V)) (z7 : Int) : Option A28 :=
  if z7 ≥ (↑(List.length l6) : Int) then
   some (A28.a0 (0) (l6) (z7))
  else
   if 0 ≤ w64 (w64 (z7 + 1) - 1) then
    ((l6[Int.toNat (w64 (w64 (z7 + (1 : Int)) - (1 : Int)))]?).bind W3.dec).bind fun e12 =>
    (F50 (e12.c0) (0) (1073741824)).bind fun r => match r with
    | .a0 z18 =>
     if z5 = 0 then
      none -- none
     else
      some (A28.a0 (Int.tmod z18 z5) (l6) (w64 (z7 + 1)))
   else
    none -- none
theorem F28_ok (m : Nat) (z5 : Int) (l6 : List (List V)) (z7 : Int) (r : A28) (h : F28 z5 l6 z7 = some r) : call Try.prog X O0 100000 (m + 2) 28 ([V.ptr 0 0 0, i64 z5]) ([Ob.cells true false 2 [[V.list 1 l6, i64 z7]]]) = some r.out := by
  unfold F28 at h
  rcases ite_eq h with ⟨h0, h⟩ | ⟨h0, h⟩
  · skip
    cases h
    exact call_pathL (gs := [.a, .a, .ft [⟨0, [], []⟩, ⟨1, [0], []⟩, ⟨2, [0], []⟩, ⟨3, [0], []⟩, ⟨4, [], []⟩, ⟨5, [0], []⟩, ⟨6, [0], []⟩, ⟨7, [0], []⟩, ⟨8, [], []⟩, ⟨9, [], []⟩], .t]) (notIn []) rfl rfl (by kernel_rfl) (And.intro (Eq.refl ([⟨0, [], []⟩, ⟨1, [0], []⟩, ⟨2, [0], []⟩, ⟨3, [0], []⟩, ⟨4, [], []⟩, ⟨5, [0], []⟩, ⟨6, [0], []⟩, ⟨7, [0], []⟩, ⟨8, [], []⟩, ⟨9, [], []⟩] : List Foot)) (And.intro (decide_eq_true h0) True.intro))
  · skip
    rcases ite_eq h with ⟨h1, h⟩ | ⟨h1, h⟩
    · skip
      obtain ⟨e12, h2, h⟩ := Option.bind_eq_some_iff.mp h
      obtain ⟨r3, h3, h⟩ := Option.bind_eq_some_iff.mp h
      have h3 := F50_ok (m + 0) (e12.c0) (0) (1073741824) r3 h3
      cases r3 with
      | a0 z18 =>
        rcases ite_eq h with ⟨h4, h⟩ | ⟨h4, h⟩
        · skip
          cases h
        · skip
          cases h
          exact call_pathL (gs := [.a, .a, .ft [⟨0, [], []⟩, ⟨1, [0], []⟩, ⟨2, [0], []⟩, ⟨3, [0], []⟩, ⟨4, [], []⟩, ⟨5, [0], []⟩, ⟨6, [0], []⟩, ⟨7, [0], []⟩, ⟨8, [], []⟩, ⟨9, [], []⟩], .f, .a, .a, .a, .a, .t, .el (W3.cells e12), .an (i64 z18) [], .f, .ft [⟨0, [], []⟩, ⟨1, [0], []⟩, ⟨2, [0], []⟩, ⟨3, [0], []⟩, ⟨4, [], []⟩, ⟨5, [0], []⟩, ⟨6, [0], []⟩, ⟨7, [0], []⟩, ⟨8, [], []⟩, ⟨9, [], []⟩, ⟨10, [], []⟩, ⟨11, [], []⟩, ⟨12, [], []⟩, ⟨13, [], []⟩, ⟨14, [], []⟩]]) (notIn []) rfl rfl (by kernel_rfl) (And.intro (Eq.refl ([⟨0, [], []⟩, ⟨1, [0], []⟩, ⟨2, [0], []⟩, ⟨3, [0], []⟩, ⟨4, [], []⟩, ⟨5, [0], []⟩, ⟨6, [0], []⟩, ⟨7, [0], []⟩, ⟨8, [], []⟩, ⟨9, [], []⟩] : List Foot)) (And.intro (decide_eq_false h0) (And.intro (decide_eq_true h1) (And.intro (W3.dec_ok h2) (And.intro h3 (And.intro (decide_eq_false h4) (And.intro (Eq.refl ([⟨0, [], []⟩, ⟨1, [0], []⟩, ⟨2, [0], []⟩, ⟨3, [0], []⟩, ⟨4, [], []⟩, ⟨5, [0], []⟩, ⟨6, [0], []⟩, ⟨7, [0], []⟩, ⟨8, [], []⟩, ⟨9, [], []⟩, ⟨10, [], []⟩, ⟨11, [], []⟩, ⟨12, [], []⟩, ⟨13, [], []⟩, ⟨14, [], []⟩] : List Foot)) True.intro)))))))
    · skip
      cases h
/-! ## 29 -/
inductive A29 where
  | a0 (z40 : Int) (l41 : List (List V)) (z42 : Int)
@[reducible] def A29.out : A29 → V × Store
  | .a0 z40 l41 z42 => (i64 z40, [Ob.cells true false 2 [[V.list 1 l41, i64 z42]]])
def F29 (z29 : Int) (z30 : Int) (l31 : List (List V)) (z32 : Int) : Option A29 :=
  (F28 (w64 (w64 (z30 - z29) + 1)) (l31) (z32)).bind fun r => match r with
  | .a0 z34 l35 z36 =>
   (F28 (4) (l35) (z36)).bind fun r => match r with
   | .a0 z37 l38 z39 =>
    if (z37 == 0) = true then
     some (A29.a0 (w64 (w64 (w64 (z29 + z34) * 65536) + 32768)) (l38) (z39))
    else
     if (z37 == 1) = true then
      (F28 (65536) (l38) (z39)).bind fun r => match r with
      | .a0 z43 l44 z45 =>
       some (A29.a0 (w64 (w64 (w64 (z29 + z34) * 65536) + z43)) (l44) (z45))
     else
      some (A29.a0 (w64 (w64 (z29 + z34) * 65536)) (l38) (z39))
theorem F29_ok (m : Nat) (z29 : Int) (z30 : Int) (l31 : List (List V)) (z32 : Int) (r : A29) (h : F29 z29 z30 l31 z32 = some r) : call Try.prog X O0 100000 (m + 3) 29 ([V.ptr 0 0 0, i64 z29, i64 z30]) ([Ob.cells true false 2 [[V.list 1 l31, i64 z32]]]) = some r.out := by
  unfold F29 at h
  obtain ⟨r0, h0, h⟩ := Option.bind_eq_some_iff.mp h
  have h0 := F28_ok (m + 0) (w64 (w64 (z30 - z29) + 1)) (l31) (z32) r0 h0
  cases r0 with
  | a0 z34 l35 z36 =>
    obtain ⟨r1, h1, h⟩ := Option.bind_eq_some_iff.mp h
    have h1 := F28_ok (m + 0) (4) (l35) (z36) r1 h1
    cases r1 with
    | a0 z37 l38 z39 =>
      rcases ite_eq h with ⟨h2, h⟩ | ⟨h2, h⟩
      · skip
        cases h
        exact call_pathL (gs := [.an (i64 z34) [Ob.cells true false 2 [[V.list 1 l35, i64 z36]]], .an (i64 z37) [Ob.cells true false 2 [[V.list 1 l38, i64 z39]]], .t]) (notIn []) rfl rfl (by kernel_rfl) (And.intro h0 (And.intro h1 (And.intro h2 True.intro)))
      · skip
        rcases ite_eq h with ⟨h3, h⟩ | ⟨h3, h⟩
        · skip
          obtain ⟨r4, h4, h⟩ := Option.bind_eq_some_iff.mp h
          have h4 := F28_ok (m + 0) (65536) (l38) (z39) r4 h4
          cases r4 with
          | a0 z43 l44 z45 =>
            cases h
            exact call_pathL (gs := [.an (i64 z34) [Ob.cells true false 2 [[V.list 1 l35, i64 z36]]], .an (i64 z37) [Ob.cells true false 2 [[V.list 1 l38, i64 z39]]], .f, .t, .an (i64 z43) [Ob.cells true false 2 [[V.list 1 l44, i64 z45]]]]) (notIn []) rfl rfl (by kernel_rfl) (And.intro h0 (And.intro h1 (And.intro (Bool.eq_false_iff.mpr h2) (And.intro h3 (And.intro h4 True.intro)))))
        · skip
          cases h
          exact call_pathL (gs := [.an (i64 z34) [Ob.cells true false 2 [[V.list 1 l35, i64 z36]]], .an (i64 z37) [Ob.cells true false 2 [[V.list 1 l38, i64 z39]]], .f, .f]) (notIn []) rfl rfl (by kernel_rfl) (And.intro h0 (And.intro h1 (And.intro (Bool.eq_false_iff.mpr h2) (And.intro (Bool.eq_false_iff.mpr h3) True.intro))))
/-! ## 11 -/
noncomputable abbrev B11 : Code := (Try.f11.body).getD .skip
inductive R11_0 where
  | e0 (l124 : List (List V)) (z125 : Int) (b126 : Bool)
  | e1 (l138 : List (List V)) (z139 : Int) (b140 : Bool) (k141 : Nat) (l142 : List (List V))
@[reducible] def s11_0_0 (z122 : Int) (b123 : Bool) (l124 : List (List V)) (z125 : Int) (b126 : Bool) : S := { T := V.ptr 0 0 0 :: U :: V.ptr 1 0 0 :: V.ptr 2 0 0 :: i64 z122 :: un 7 (i64 z122 :: vb b123 :: un 23 []), σ := [Ob.cells true false 2 [[V.list 1 l124, i64 z125]], Ob.cells true false 2 [[vb false, V.nilS]], Ob.cells true false 2 [[vb b126, V.nilS]]] }
@[reducible] def s11_0_1 (z136 : Int) (b137 : Bool) (l138 : List (List V)) (z139 : Int) (b140 : Bool) (k141 : Nat) (l142 : List (List V)) : S := { T := V.ptr 0 0 0 :: U :: V.ptr 1 0 0 :: V.ptr 2 0 0 :: i64 z136 :: un 7 (i64 z136 :: vb b137 :: un 23 []), σ := [Ob.cells true false 2 [[V.list 1 l138, i64 z139]], Ob.cells true false 2 [[vb false, V.nilS]], Ob.cells true false 2 [[vb b140, V.hs 3 0 k141]], Ob.cells true true 2 l142] }
def R11_0.St : R11_0 → VX × S → Prop
  | .e0 l124 z125 b126, p => ∃ z122 : Int, ∃ b123 : Bool, p = (VX.exit 0, s11_0_0 z122 b123 l124 z125 b126)
  | .e1 l138 z139 b140 k141 l142, p => ∃ z136 : Int, ∃ b137 : Bool, p = (VX.exit 0, s11_0_1 z136 b137 l138 z139 b140 k141 l142)
def L11_0s1 : Nat → Int → List (List V) → Int → Bool → Nat → List (List V) → Option R11_0
  | 0, _, _, _, _, _, _ => none
  | n + 1, z60, l61, z62, b63, k64, l65 =>
    if z60 > 0 then
     (F29 (-5) (20) (l61) (z62)).bind fun r => match r with
     | .a0 z127 l128 z129 =>
      (F29 (-5) (20) (l128) (z129)).bind fun r => match r with
      | .a0 z130 l131 z132 =>
       if 0 + k64 ≤ List.length l65 ∧ (k64 + 1) * 16 ≤ 140737488355328 ∧ k64 + 1 ≤ 140737488355328 then
        (F28 (6) (l131) (z132)).bind fun r => match r with
        | .a0 z133 l134 z135 =>
         if (z133 == 0) = true then
          if 0 + (k64 + 1) ≤ List.length (List.take k64 l65 ++ [[i64 z127, i64 z130]]) ∧ (k64 + 1 + 1) * 16 ≤ 140737488355328 ∧ k64 + 1 + 1 ≤ 140737488355328 then
           L11_0s1 n (w64 (z60 - 1)) (l134) (z135) (b63) (k64 + 1 + 1) (List.take (k64 + 1) (List.take k64 l65 ++ [[i64 z127, i64 z130]]) ++ [[i64 z127, i64 z130]])
          else
           none -- none
         else
          L11_0s1 n (w64 (z60 - 1)) (l134) (z135) (b63) (k64 + 1) (List.take k64 l65 ++ [[i64 z127, i64 z130]])
       else
        none -- none
    else
     some (R11_0.e1 (l61) (z62) (b63) (k64) (l65))
theorem L11_0s1_ok (m : Nat) : ∀ (n : Nat) (z60 : Int) (l61 : List (List V)) (z62 : Int) (b63 : Bool) (k64 : Nat) (l65 : List (List V)) (r : R11_0), L11_0s1 n z60 l61 z62 b63 k64 l65 = some r → ∃ st, loopFrom Try.prog X (call Try.prog X O0 100000 (m + 3)) 11 (1) 100000 B11 0 n ({ T := V.ptr 0 0 0 :: U :: V.ptr 1 0 0 :: V.ptr 2 0 0 :: i64 z60 :: un 32 [], σ := [Ob.cells true false 2 [[V.list 1 l61, i64 z62]], Ob.cells true false 2 [[vb false, V.nilS]], Ob.cells true false 2 [[vb b63, V.hs 3 0 k64]], Ob.cells true true 2 l65] }) = some st ∧ r.St st
  | 0, _, _, _, _, _, _, r, h => by cases h
  | n + 1, z60, l61, z62, b63, k64, l65, r, h => by
    rw [L11_0s1] at h
    rcases ite_eq h with ⟨h0, h⟩ | ⟨h0, h⟩
    · skip
      obtain ⟨r1, h1, h⟩ := Option.bind_eq_some_iff.mp h
      have h1 := F29_ok (m + 0) (-5) (20) (l61) (z62) r1 h1
      cases r1 with
      | a0 z127 l128 z129 =>
        obtain ⟨r2, h2, h⟩ := Option.bind_eq_some_iff.mp h
        have h2 := F29_ok (m + 0) (-5) (20) (l128) (z129) r2 h2
        cases r2 with
        | a0 z130 l131 z132 =>
          rcases ite_eq h with ⟨h3, h⟩ | ⟨h3, h⟩
          · skip
            obtain ⟨r4, h4, h⟩ := Option.bind_eq_some_iff.mp h
            have h4 := F28_ok (m + 1) (6) (l131) (z132) r4 h4
            cases r4 with
            | a0 z133 l134 z135 =>
              rcases ite_eq h with ⟨h5, h⟩ | ⟨h5, h⟩
              · skip
                rcases ite_eq h with ⟨h6, h⟩ | ⟨h6, h⟩
                · skip
                  obtain ⟨st, hs, hr⟩ := L11_0s1_ok m n (w64 (z60 - 1)) (l134) (z135) (b63) (k64 + 1 + 1) (List.take (k64 + 1) (List.take k64 l65 ++ [[i64 z127, i64 z130]]) ++ [[i64 z127, i64 z130]]) r h
                  exact ⟨st, (round_on (gs := [.t, .an (i64 z127) [Ob.cells true false 2 [[V.list 1 l128, i64 z129]]], .an (i64 z130) [Ob.cells true false 2 [[V.list 1 l131, i64 z132]]], .a, .a, .a, .a, .t, .a, .an (i64 z133) [Ob.cells true false 2 [[V.list 1 l134, i64 z135]]], .t, .a, .a, .a, .t, .a]) (notIn []) (by kernel_rfl) (And.intro (decide_eq_true h0) (And.intro h1 (And.intro h2 (And.intro (decide_eq_true h3) (And.intro h4 (And.intro h5 (And.intro (decide_eq_true h6) True.intro))))))) n).trans hs, hr⟩
                · skip
                  cases h
              · skip
                obtain ⟨st, hs, hr⟩ := L11_0s1_ok m n (w64 (z60 - 1)) (l134) (z135) (b63) (k64 + 1) (List.take k64 l65 ++ [[i64 z127, i64 z130]]) r h
                exact ⟨st, (round_on (gs := [.t, .an (i64 z127) [Ob.cells true false 2 [[V.list 1 l128, i64 z129]]], .an (i64 z130) [Ob.cells true false 2 [[V.list 1 l131, i64 z132]]], .a, .a, .a, .a, .t, .a, .an (i64 z133) [Ob.cells true false 2 [[V.list 1 l134, i64 z135]]], .f]) (notIn []) (by kernel_rfl) (And.intro (decide_eq_true h0) (And.intro h1 (And.intro h2 (And.intro (decide_eq_true h3) (And.intro h4 (And.intro (Bool.eq_false_iff.mpr h5) True.intro)))))) n).trans hs, hr⟩
          · skip
            cases h
    · skip
      cases h
      exact ⟨_, round_out (gs := [.f]) (notIn []) (by kernel_rfl) rfl (And.intro (decide_eq_false h0) True.intro) n, z60, decide (z60 > 0), rfl⟩
def L11_0 : Nat → Int → List (List V) → Int → Bool → Option R11_0
  | 0, _, _, _, _ => none
  | n + 1, z25, l26, z27, b28 =>
    if z25 > 0 then
     (F29 (-5) (20) (l26) (z27)).bind fun r => match r with
     | .a0 z113 l114 z115 =>
      (F29 (-5) (20) (l114) (z115)).bind fun r => match r with
      | .a0 z116 l117 z118 =>
       (F28 (6) (l117) (z118)).bind fun r => match r with
       | .a0 z119 l120 z121 =>
        if (z119 == 0) = true then
         L11_0s1 n (w64 (z25 - 1)) (l120) (z121) (b28) (2) ([[i64 z113, i64 z116], [i64 z113, i64 z116]])
        else
         L11_0s1 n (w64 (z25 - 1)) (l120) (z121) (b28) (1) ([[i64 z113, i64 z116]])
    else
     some (R11_0.e0 (l26) (z27) (b28))
theorem L11_0_ok (m : Nat) : ∀ (n : Nat) (z25 : Int) (l26 : List (List V)) (z27 : Int) (b28 : Bool) (r : R11_0), L11_0 n z25 l26 z27 b28 = some r → ∃ st, loopFrom Try.prog X (call Try.prog X O0 100000 (m + 3)) 11 (1) 100000 B11 0 n ({ T := V.ptr 0 0 0 :: U :: V.ptr 1 0 0 :: V.ptr 2 0 0 :: i64 z25 :: un 32 [], σ := [Ob.cells true false 2 [[V.list 1 l26, i64 z27]], Ob.cells true false 2 [[vb false, V.nilS]], Ob.cells true false 2 [[vb b28, V.nilS]]] }) = some st ∧ r.St st
  | 0, _, _, _, _, r, h => by cases h
  | n + 1, z25, l26, z27, b28, r, h => by
    rw [L11_0] at h
    rcases ite_eq h with ⟨h0, h⟩ | ⟨h0, h⟩
    · skip
      obtain ⟨r1, h1, h⟩ := Option.bind_eq_some_iff.mp h
      have h1 := F29_ok (m + 0) (-5) (20) (l26) (z27) r1 h1
      cases r1 with
      | a0 z113 l114 z115 =>
        obtain ⟨r2, h2, h⟩ := Option.bind_eq_some_iff.mp h
        have h2 := F29_ok (m + 0) (-5) (20) (l114) (z115) r2 h2
        cases r2 with
        | a0 z116 l117 z118 =>
          obtain ⟨r3, h3, h⟩ := Option.bind_eq_some_iff.mp h
          have h3 := F28_ok (m + 1) (6) (l117) (z118) r3 h3
          cases r3 with
          | a0 z119 l120 z121 =>
            rcases ite_eq h with ⟨h4, h⟩ | ⟨h4, h⟩
            · skip
              obtain ⟨st, hs, hr⟩ := L11_0s1_ok m n (w64 (z25 - 1)) (l120) (z121) (b28) (2) ([[i64 z113, i64 z116], [i64 z113, i64 z116]]) r h
              exact ⟨st, (round_on (gs := [.t, .an (i64 z113) [Ob.cells true false 2 [[V.list 1 l114, i64 z115]]], .an (i64 z116) [Ob.cells true false 2 [[V.list 1 l117, i64 z118]]], .a, .a, .a, .a, .a, .a, .an (i64 z119) [Ob.cells true false 2 [[V.list 1 l120, i64 z121]]], .t, .a, .a, .a, .a, .a]) (notIn []) (by kernel_rfl) (And.intro (decide_eq_true h0) (And.intro h1 (And.intro h2 (And.intro h3 (And.intro h4 True.intro))))) n).trans hs, hr⟩
            · skip
              obtain ⟨st, hs, hr⟩ := L11_0s1_ok m n (w64 (z25 - 1)) (l120) (z121) (b28) (1) ([[i64 z113, i64 z116]]) r h
              exact ⟨st, (round_on (gs := [.t, .an (i64 z113) [Ob.cells true false 2 [[V.list 1 l114, i64 z115]]], .an (i64 z116) [Ob.cells true false 2 [[V.list 1 l117, i64 z118]]], .a, .a, .a, .a, .a, .a, .an (i64 z119) [Ob.cells true false 2 [[V.list 1 l120, i64 z121]]], .f]) (notIn []) (by kernel_rfl) (And.intro (decide_eq_true h0) (And.intro h1 (And.intro h2 (And.intro h3 (And.intro (Bool.eq_false_iff.mpr h4) True.intro))))) n).trans hs, hr⟩
    · skip
      cases h
      exact ⟨_, round_out (gs := [.f]) (notIn []) (by kernel_rfl) rfl (And.intro (decide_eq_false h0) True.intro) n, z25, decide (z25 > 0), rfl⟩
inductive A11 where
  | a0 (b148 : Bool) (l149 : List (List V)) (z150 : Int)
  | a1 (b158 : Bool) (k159 : Nat) (l160 : List (List V)) (z161 : Int) (l162 : List (List V))
@[reducible] def A11.out : A11 → V × Store
  | .a0 b148 l149 z150 => (V.agg [vb b148, V.nilS], [Ob.cells true false 2 [[V.list 1 l149, i64 z150]]])
  | .a1 b158 k159 l160 z161 l162 => (V.agg [vb b158, V.hs 1 0 k159], [Ob.cells true false 2 [[V.list 1 l160, i64 z161]], Ob.cells true true 2 l162])
def F11 (l2 : List (List V)) (z3 : Int) : Option A11 :=
  (F28 (2) (l2) (z3)).bind fun r => match r with
  | .a0 z107 l108 z109 =>
   (F28 (7) (l108) (z109)).bind fun r => match r with
   | .a0 z110 l111 z112 =>
    (L11_0 100000 (z110) (l111) (z112) (z107 == 0)).bind fun r => match r with
    | .e0 l145 z146 b147 =>
     some (A11.a0 (b147) (l145) (z146))
    | .e1 l153 z154 b155 k156 l157 =>
     some (A11.a1 (b155) (k156) (l153) (z154) (l157))
theorem F11_ok (m : Nat) (l2 : List (List V)) (z3 : Int) (r : A11) (h : F11 l2 z3 = some r) : call Try.prog X O0 100000 (m + 4) 11 ([V.ptr 0 0 0]) ([Ob.cells true false 2 [[V.list 1 l2, i64 z3]]]) = some r.out := by
  unfold F11 at h
  obtain ⟨r0, h0, h⟩ := Option.bind_eq_some_iff.mp h
  have h0 := F28_ok (m + 1) (2) (l2) (z3) r0 h0
  cases r0 with
  | a0 z107 l108 z109 =>
    obtain ⟨r1, h1, h⟩ := Option.bind_eq_some_iff.mp h
    have h1 := F28_ok (m + 1) (7) (l108) (z109) r1 h1
    cases r1 with
    | a0 z110 l111 z112 =>
      obtain ⟨r2, h2, h⟩ := Option.bind_eq_some_iff.mp h
      obtain ⟨st2, h2, hr2⟩ := L11_0_ok m 100000 (z110) (l111) (z112) (z107 == 0) r2 h2
      have h2 : loopRun Try.prog X (call Try.prog X O0 100000 (m + 3)) 11 (1) 100000 B11 0 ({ T := V.ptr 0 0 0 :: U :: V.ptr 1 0 0 :: V.ptr 2 0 0 :: i64 z110 :: U :: V.ptr 0 0 0 :: i64 z107 :: vb (z107 == 0) :: V.agg [vb (z107 == 0), V.nilS] :: V.ptr 0 0 0 :: i64 z110 :: un 25 [], σ := [Ob.cells true false 2 [[V.list 1 l111, i64 z112]], Ob.cells true false 2 [[vb false, V.nilS]], Ob.cells true false 2 [[vb (z107 == 0), V.nilS]]] }) = some st2 := by
        rw [loopRun_from, show prep (1) (X.keep 11 0) ({ T := V.ptr 0 0 0 :: U :: V.ptr 1 0 0 :: V.ptr 2 0 0 :: i64 z110 :: U :: V.ptr 0 0 0 :: i64 z107 :: vb (z107 == 0) :: V.agg [vb (z107 == 0), V.nilS] :: V.ptr 0 0 0 :: i64 z110 :: un 25 [], σ := [Ob.cells true false 2 [[V.list 1 l111, i64 z112]], Ob.cells true false 2 [[vb false, V.nilS]], Ob.cells true false 2 [[vb (z107 == 0), V.nilS]]] }) = { T := V.ptr 0 0 0 :: U :: V.ptr 1 0 0 :: V.ptr 2 0 0 :: i64 z110 :: un 32 [], σ := [Ob.cells true false 2 [[V.list 1 l111, i64 z112]], Ob.cells true false 2 [[vb false, V.nilS]], Ob.cells true false 2 [[vb (z107 == 0), V.nilS]]] } by kernel_rfl]
        exact h2
      cases r2 with
      | e0 l145 z146 b147 =>
        obtain ⟨z143, b144, rfl⟩ := hr2
        cases h
        exact call_pathL (gs := [.an (i64 z107) [Ob.cells true false 2 [[V.list 1 l108, i64 z109]]], .a, .an (i64 z110) [Ob.cells true false 2 [[V.list 1 l111, i64 z112]]], .lp (VX.exit 0) (s11_0_0 z143 b144 l145 z146 b147), .a, .a]) (notIn []) rfl rfl (by kernel_rfl) (And.intro h0 (And.intro h1 (And.intro h2 True.intro)))
      | e1 l153 z154 b155 k156 l157 =>
        obtain ⟨z151, b152, rfl⟩ := hr2
        cases h
        exact call_pathL (gs := [.an (i64 z107) [Ob.cells true false 2 [[V.list 1 l108, i64 z109]]], .a, .an (i64 z110) [Ob.cells true false 2 [[V.list 1 l111, i64 z112]]], .lp (VX.exit 0) (s11_0_1 z151 b152 l153 z154 b155 k156 l157), .a, .a]) (notIn []) rfl rfl (by kernel_rfl) (And.intro h0 (And.intro h1 (And.intro h2 True.intro)))
/-! ## 21 -/
def F21 (b169 : Bool) : Int :=
  0
theorem F21_ok (m : Nat) (b169 : Bool) (z172 : Int) (h : F21 b169 = z172) : call Try.prog X O0 100000 (m + 1) 21 ([V.agg [vb b169, V.nilS]]) ([]) = some (i64 z172, []) := by
  unfold F21 at h
  subst h
  exact call_pathL (gs := [.a, .a]) (notIn []) rfl rfl (by kernel_rfl) True.intro
/-! ## 34 -/
inductive A34 where
@[reducible] def A34.out : A34 → V × Store
  := fun x => nomatch x
def F34 (b174 : Bool) (z175 : Int) : Option A34 :=
  none -- none
theorem F34_ok (m : Nat) (b174 : Bool) (z175 : Int) (r : A34) (h : F34 b174 z175 = some r) : call Try.prog X O0 100000 (m + 1) 34 ([V.agg [vb b174, V.nilS], i64 z175]) ([]) = some r.out := by
  unfold F34 at h
  cases h
/-! ## 13 -/
noncomputable abbrev B13 : Code := (Try.f13.body).getD .skip
inductive R13_0 where
  | e0
@[reducible] def s13_0_0 (b185 : Bool) (z186 : Int) (b187 : Bool) : S := { T := U :: V.ptr 0 0 0 :: U :: i64 0 :: i64 0 :: U :: U :: i64 0 :: V.agg [vb b185, V.nilS] :: i64 z186 :: vb b187 :: un 14 [], σ := [Ob.cells true false 2 [[vb b185, V.nilS]]] }
def R13_0.St : R13_0 → VX × S → Prop
  | .e0, p => ∃ b185 : Bool, ∃ z186 : Int, ∃ b187 : Bool, p = (VX.exit 0, s13_0_0 b185 z186 b187)
def L13_0 : Nat → Bool → Option R13_0
  | 0, _ => none
  | n + 1, b168 =>
    bnd (F21 (b168)) fun z184 =>
    if 0 < z184 then
     none -- F34 has no answer
    else
     some (R13_0.e0)
theorem L13_0_ok (m : Nat) : ∀ (n : Nat) (b168 : Bool) (r : R13_0), L13_0 n b168 = some r → ∃ st, loopFrom Try.prog X (call Try.prog X O0 100000 (m + 1)) 13 (0) 100000 B13 0 n ({ T := U :: V.ptr 0 0 0 :: U :: i64 0 :: i64 0 :: un 20 [], σ := [Ob.cells true false 2 [[vb b168, V.nilS]]] }) = some st ∧ r.St st
  | 0, _, r, h => by cases h
  | n + 1, b168, r, h => by
    rw [L13_0] at h
    obtain ⟨z184, h0, h⟩ := bnd_eq h
    rcases ite_eq h with ⟨h1, h⟩ | ⟨h1, h⟩
    · skip
      cases h
    · skip
      cases h
      exact ⟨_, round_out (gs := [.a, .an (i64 z184) [], .f]) (notIn []) (by kernel_rfl) rfl (And.intro (F21_ok (m + 0) (b168) z184 h0) (And.intro (decide_eq_false h1) True.intro)) n, b168, z184, decide (0 < z184), rfl⟩
inductive A13 where
  | a0 (z191 : Int)
@[reducible] def A13.out : A13 → V × Store
  | .a0 z191 => (i64 z191, [])
def F13 (b166 : Bool) : Option A13 :=
  (L13_0 100000 (b166)).bind fun r => match r with
  | .e0 =>
   some (A13.a0 (0))
theorem F13_ok (m : Nat) (b166 : Bool) (r : A13) (h : F13 b166 = some r) : call Try.prog X O0 100000 (m + 2) 13 ([V.agg [vb b166, V.nilS]]) ([]) = some r.out := by
  unfold F13 at h
  obtain ⟨r0, h0, h⟩ := Option.bind_eq_some_iff.mp h
  obtain ⟨st0, h0, hr0⟩ := L13_0_ok m 100000 (b166) r0 h0
  have h0 : loopRun Try.prog X (call Try.prog X O0 100000 (m + 1)) 13 (0) 100000 B13 0 ({ T := V.agg [vb b166, V.nilS] :: V.ptr 0 0 0 :: i64 0 :: i64 0 :: i64 0 :: un 20 [], σ := [Ob.cells true false 2 [[vb b166, V.nilS]]] }) = some st0 := by
    rw [loopRun_from, show prep (0) (X.keep 13 0) ({ T := V.agg [vb b166, V.nilS] :: V.ptr 0 0 0 :: i64 0 :: i64 0 :: i64 0 :: un 20 [], σ := [Ob.cells true false 2 [[vb b166, V.nilS]]] }) = { T := U :: V.ptr 0 0 0 :: U :: i64 0 :: i64 0 :: un 20 [], σ := [Ob.cells true false 2 [[vb b166, V.nilS]]] } by kernel_rfl]
    exact h0
  cases r0 with
  | e0 =>
    obtain ⟨b188, z189, b190, rfl⟩ := hr0
    cases h
    exact call_pathL (gs := [.lp (VX.exit 0) (s13_0_0 b188 z189 b190)]) (notIn []) rfl rfl (by kernel_rfl) (And.intro h0 True.intro)
/-! ## 31 -/
inductive A31 where
  | a0
@[reducible] def A31.out : A31 → V × Store
  | .a0 => (V.nilS, [])
def F31 : Option A31 :=
  some (A31.a0)
theorem F31_ok (m : Nat) (r : A31) (h : F31 = some r) : call Try.prog X O0 100000 (m + 1) 31 ([V.nilS]) ([]) = some r.out := by
  unfold F31 at h
  cases h
  exact call_pathL (gs := [.a]) (notIn []) rfl rfl (by kernel_rfl) True.intro
/-! ## 52 -/
def F52 (z208 : Int) : Bool :=
  if z208 < 65536 then
   true
  else
   decide (z208 > 67108864)
theorem F52_ok (m : Nat) (z208 : Int) (b211 : Bool) (h : F52 z208 = b211) : call Try.prog X O0 100000 (m + 1) 52 ([i64 z208]) ([]) = some (vb b211, []) := by
  unfold F52 at h
  rcases ite_eq h with ⟨h0, h⟩ | ⟨h0, h⟩
  · skip
    subst h
    exact call_pathL (gs := [.t, .t, .t]) (notIn []) rfl rfl (by kernel_rfl) (And.intro (decide_eq_true h0) (And.intro (decide_eq_true h0) (And.intro (decide_eq_true h0) True.intro)))
  · skip
    subst h
    exact call_pathL (gs := [.f, .f, .f]) (notIn []) rfl rfl (by kernel_rfl) (And.intro (decide_eq_false h0) (And.intro (decide_eq_false h0) (And.intro (decide_eq_false h0) True.intro)))
/-! ## 74 -/
noncomputable abbrev B74 : Code := (Try.f74.body).getD .skip
inductive R74_0 where
  | e0 (z236 : Int)
  | e1
@[reducible] def s74_0_0 (l235 : List (List V)) (z236 : Int) (z237 : Int) (b238 : Bool) (z239 : Int) (b240 : Bool) : S := { T := [V.list 1 l235, V.fn 52 [], U, U, i64 z236, i64 z236, U, i64 z237, i64 z236, vb b238, i64 z236, V.fn 52 [], V.list 1 l235, i64 z236, V.pp [i64 z239], i64 z239, vb b240, i64 z236, U], σ := [] }
@[reducible] def s74_0_1 (l241 : List (List V)) (z242 : Int) (z243 : Int) (b244 : Bool) : S := { T := V.list 1 l241 :: V.fn 52 [] :: un 5 (i64 z242 :: i64 z243 :: vb b244 :: un 9 []), σ := [] }
def R74_0.St : R74_0 → VX × S → Prop
  | .e0 z236, p => ∃ l235 : List (List V), ∃ z237 : Int, ∃ b238 : Bool, ∃ z239 : Int, ∃ b240 : Bool, p = (VX.ret, s74_0_0 l235 z236 z237 b238 z239 b240)
  | .e1, p => ∃ l241 : List (List V), ∃ z242 : Int, ∃ z243 : Int, ∃ b244 : Bool, p = (VX.exit 0, s74_0_1 l241 z242 z243 b244)
def L74_0 : Nat → List (List V) → Int → Int → Option R74_0
  | 0, _, _, _ => none
  | n + 1, l218, z219, z220 =>
    if z220 < z219 then
     if 0 ≤ z220 then
      ((l218[Int.toNat z220]?).bind W2.dec).bind fun e233 =>
      bnd (F52 (e233.c0)) fun b234 =>
      if (b234) = true then
       some (R74_0.e0 (z220))
      else
       L74_0 n (l218) (z219) (w64 (z220 + 1))
     else
      none -- none
    else
     some (R74_0.e1)
theorem L74_0_ok (m : Nat) : ∀ (n : Nat) (l218 : List (List V)) (z219 : Int) (z220 : Int) (r : R74_0), L74_0 n l218 z219 z220 = some r → ∃ st, loopFrom Try.prog X (call Try.prog X O0 100000 (m + 1)) 74 (0) 100000 B74 0 n ({ T := V.list 1 l218 :: V.fn 52 [] :: un 5 (i64 z219 :: i64 z220 :: un 10 []), σ := [] }) = some st ∧ r.St st
  | 0, _, _, _, r, h => by cases h
  | n + 1, l218, z219, z220, r, h => by
    rw [L74_0] at h
    rcases ite_eq h with ⟨h0, h⟩ | ⟨h0, h⟩
    · skip
      rcases ite_eq h with ⟨h1, h⟩ | ⟨h1, h⟩
      · skip
        obtain ⟨e233, h2, h⟩ := Option.bind_eq_some_iff.mp h
        obtain ⟨b234, h3, h⟩ := bnd_eq h
        rcases ite_eq h with ⟨h4, h⟩ | ⟨h4, h⟩
        · skip
          cases h
          exact ⟨_, round_out (gs := [.t, .t, .el (W2.cells e233), .an (vb b234) [], .t]) (notIn []) (by kernel_rfl) rfl (And.intro (decide_eq_true h0) (And.intro (decide_eq_true h1) (And.intro (W2.dec_ok h2) (And.intro (F52_ok (m + 0) (e233.c0) b234 h3) (And.intro h4 True.intro))))) n, l218, z219, decide (z220 < z219), e233.c0, b234, rfl⟩
        · skip
          obtain ⟨st, hs, hr⟩ := L74_0_ok m n (l218) (z219) (w64 (z220 + 1)) r h
          exact ⟨st, (round_on (gs := [.t, .t, .el (W2.cells e233), .an (vb b234) [], .f]) (notIn []) (by kernel_rfl) (And.intro (decide_eq_true h0) (And.intro (decide_eq_true h1) (And.intro (W2.dec_ok h2) (And.intro (F52_ok (m + 0) (e233.c0) b234 h3) (And.intro (Bool.eq_false_iff.mpr h4) True.intro))))) n).trans hs, hr⟩
      · skip
        cases h
    · skip
      cases h
      exact ⟨_, round_out (gs := [.f]) (notIn []) (by kernel_rfl) rfl (And.intro (decide_eq_false h0) True.intro) n, l218, z219, z220, decide (z220 < z219), rfl⟩
inductive A74 where
  | a0 (z251 : Int)
@[reducible] def A74.out : A74 → V × Store
  | .a0 z251 => (i64 z251, [])
def F74 (l203 : List (List V)) : Option A74 :=
  (L74_0 100000 (l203) ((↑(List.length l203) : Int)) (0)).bind fun r => match r with
  | .e0 z246 =>
   some (A74.a0 (z246))
  | .e1 =>
   some (A74.a0 (-1))
theorem F74_ok (m : Nat) (l203 : List (List V)) (r : A74) (h : F74 l203 = some r) : call Try.prog X O0 100000 (m + 2) 74 ([V.list 1 l203, V.fn 52 []]) ([]) = some r.out := by
  unfold F74 at h
  obtain ⟨r0, h0, h⟩ := Option.bind_eq_some_iff.mp h
  obtain ⟨st0, h0, hr0⟩ := L74_0_ok m 100000 (l203) ((↑(List.length l203) : Int)) (0) r0 h0
  have h0 : loopRun Try.prog X (call Try.prog X O0 100000 (m + 1)) 74 (0) 100000 B74 0 ({ T := V.list 1 l203 :: V.fn 52 [] :: U :: U :: i64 0 :: U :: V.list 1 l203 :: i64 (↑(List.length l203) : Int) :: i64 0 :: un 10 [], σ := [] }) = some st0 := by
    rw [loopRun_from, show prep (0) (X.keep 74 0) ({ T := V.list 1 l203 :: V.fn 52 [] :: U :: U :: i64 0 :: U :: V.list 1 l203 :: i64 (↑(List.length l203) : Int) :: i64 0 :: un 10 [], σ := [] }) = { T := V.list 1 l203 :: V.fn 52 [] :: un 5 (i64 (↑(List.length l203) : Int) :: i64 0 :: un 10 []), σ := [] } by kernel_rfl]
    exact h0
  cases r0 with
  | e0 z246 =>
    obtain ⟨l245, z247, b248, z249, b250, rfl⟩ := hr0
    cases h
    exact call_pathL (gs := [.lp (VX.ret) (s74_0_0 l245 z246 z247 b248 z249 b250)]) (notIn []) rfl rfl (by kernel_rfl) (And.intro h0 True.intro)
  | e1 =>
    obtain ⟨l252, z253, z254, b255, rfl⟩ := hr0
    cases h
    exact call_pathL (gs := [.lp (VX.exit 0) (s74_0_1 l252 z253 z254 b255)]) (notIn []) rfl rfl (by kernel_rfl) (And.intro h0 True.intro)
/-! ## 51 -/
inductive A51 where
  | a0 (b257 : Bool)
@[reducible] def A51.out : A51 → V × Store
  | .a0 b257 => (vb b257, [])
def F51 (l201 : List (List V)) : Option A51 :=
  (F74 (l201)).bind fun r => match r with
  | .a0 z256 =>
   some (A51.a0 (decide (z256 ≥ 0)))
theorem F51_ok (m : Nat) (l201 : List (List V)) (r : A51) (h : F51 l201 = some r) : call Try.prog X O0 100000 (m + 3) 51 ([V.list 1 l201, V.fn 52 []]) ([]) = some r.out := by
  unfold F51 at h
  obtain ⟨r0, h0, h⟩ := Option.bind_eq_some_iff.mp h
  have h0 := F74_ok (m + 0) (l201) r0 h0
  cases r0 with
  | a0 z256 =>
    cases h
    exact call_pathL (gs := [.an (i64 z256) []]) (notIn []) rfl rfl (by kernel_rfl) (And.intro h0 True.intro)
/-! ## 30 -/
inductive A30 where
  | a0 (b259 : Bool)
@[reducible] def A30.out : A30 → V × Store
  | .a0 b259 => (vb b259, [])
def F30 (l199 : List (List V)) : Option A30 :=
  if (↑(List.length l199) : Int) ≤ 8 then
   (F51 (l199)).bind fun r => match r with
   | .a0 b258 =>
    some (A30.a0 (!b258))
  else
   some (A30.a0 (false))
theorem F30_ok (m : Nat) (l199 : List (List V)) (r : A30) (h : F30 l199 = some r) : call Try.prog X O0 100000 (m + 4) 30 ([V.list 1 l199]) ([]) = some r.out := by
  unfold F30 at h
  rcases ite_eq h with ⟨h0, h⟩ | ⟨h0, h⟩
  · skip
    obtain ⟨r1, h1, h⟩ := Option.bind_eq_some_iff.mp h
    have h1 := F51_ok (m + 0) (l199) r1 h1
    cases r1 with
    | a0 b258 =>
      cases h
      exact call_pathL (gs := [.t, .t, .an (vb b258) [], .t, .t]) (notIn []) rfl rfl (by kernel_rfl) (And.intro (decide_eq_true h0) (And.intro (decide_eq_true h0) (And.intro h1 (And.intro (decide_eq_true h0) (And.intro (decide_eq_true h0) True.intro)))))
  · skip
    cases h
    exact call_pathL (gs := [.f, .f, .f, .f]) (notIn []) rfl rfl (by kernel_rfl) (And.intro (decide_eq_false h0) (And.intro (decide_eq_false h0) (And.intro (decide_eq_false h0) (And.intro (decide_eq_false h0) True.intro))))
/-! ## 53 -/
def F53 (b263 : Bool) : Int :=
  if (b263) = true then
   0
  else
   0
theorem F53_ok (m : Nat) (b263 : Bool) (z266 : Int) (h : F53 b263 = z266) : call Try.prog X O0 100000 (m + 1) 53 ([V.agg [vb b263, V.nilS]]) ([]) = some (i64 z266, []) := by
  unfold F53 at h
  rcases ite_eq h with ⟨h0, h⟩ | ⟨h0, h⟩
  · skip
    subst h
    exact call_pathL (gs := [.a, .a, .t, .t, .t, .a]) (notIn []) rfl rfl (by kernel_rfl) (And.intro h0 (And.intro h0 (And.intro h0 True.intro)))
  · skip
    subst h
    exact call_pathL (gs := [.a, .a, .f, .f, .f, .a]) (notIn []) rfl rfl (by kernel_rfl) (And.intro (Bool.eq_false_iff.mpr h0) (And.intro (Bool.eq_false_iff.mpr h0) (And.intro (Bool.eq_false_iff.mpr h0) True.intro)))
/-! ## 54 -/
inductive A54 where
@[reducible] def A54.out : A54 → V × Store
  := fun x => nomatch x
def F54 (b270 : Bool) (z271 : Int) : Option A54 :=
  none -- none
theorem F54_ok (m : Nat) (b270 : Bool) (z271 : Int) (r : A54) (h : F54 b270 z271 = some r) : call Try.prog X O0 100000 (m + 1) 54 ([V.agg [vb b270, V.nilS], i64 z271]) ([]) = some r.out := by
  unfold F54 at h
  cases h
/-! ## 32 -/
noncomputable abbrev B32 : Code := (Try.f32.body).getD .skip
inductive R32_0 where
  | e0
@[reducible] def s32_0_0 (z281 : Int) (b282 : Bool) (b283 : Bool) : S := { T := U :: V.ptr 0 0 0 :: U :: i64 0 :: un 5 (i64 z281 :: i64 0 :: vb b282 :: un 13 []), σ := [Ob.cells true false 2 [[vb b283, V.nilS]]] }
def R32_0.St : R32_0 → VX × S → Prop
  | .e0, p => ∃ z281 : Int, ∃ b282 : Bool, ∃ b283 : Bool, p = (VX.exit 0, s32_0_0 z281 b282 b283)
def L32_0 : Nat → Int → Bool → Option R32_0
  | 0, _, _ => none
  | n + 1, z268, b269 =>
    if 0 < z268 then
     none -- F54 has no answer
    else
     some (R32_0.e0)
theorem L32_0_ok (m : Nat) : ∀ (n : Nat) (z268 : Int) (b269 : Bool) (r : R32_0), L32_0 n z268 b269 = some r → ∃ st, loopFrom Try.prog X (call Try.prog X O0 100000 (m + 1)) 32 (0) 100000 B32 0 n ({ T := U :: V.ptr 0 0 0 :: U :: i64 0 :: un 5 (i64 z268 :: i64 0 :: un 14 []), σ := [Ob.cells true false 2 [[vb b269, V.nilS]]] }) = some st ∧ r.St st
  | 0, _, _, r, h => by cases h
  | n + 1, z268, b269, r, h => by
    rw [L32_0] at h
    rcases ite_eq h with ⟨h0, h⟩ | ⟨h0, h⟩
    · skip
      cases h
    · skip
      cases h
      exact ⟨_, round_out (gs := [.f]) (notIn []) (by kernel_rfl) rfl (And.intro (decide_eq_false h0) True.intro) n, z268, decide (0 < z268), b269, rfl⟩
inductive A32 where
  | a0 (z287 : Int)
@[reducible] def A32.out : A32 → V × Store
  | .a0 z287 => (i64 z287, [])
def F32 (b261 : Bool) : Option A32 :=
  bnd (F53 (b261)) fun z280 =>
  (L32_0 100000 (z280) (b261)).bind fun r => match r with
  | .e0 =>
   some (A32.a0 (0))
theorem F32_ok (m : Nat) (b261 : Bool) (r : A32) (h : F32 b261 = some r) : call Try.prog X O0 100000 (m + 2) 32 ([V.agg [vb b261, V.nilS]]) ([]) = some r.out := by
  unfold F32 at h
  obtain ⟨z280, h0, h⟩ := bnd_eq h
  obtain ⟨r1, h1, h⟩ := Option.bind_eq_some_iff.mp h
  obtain ⟨st1, h1, hr1⟩ := L32_0_ok m 100000 (z280) (b261) r1 h1
  have h1 : loopRun Try.prog X (call Try.prog X O0 100000 (m + 1)) 32 (0) 100000 B32 0 ({ T := V.agg [vb b261, V.nilS] :: V.ptr 0 0 0 :: i64 0 :: i64 0 :: un 4 (V.agg [vb b261, V.nilS] :: i64 z280 :: i64 0 :: un 14 []), σ := [Ob.cells true false 2 [[vb b261, V.nilS]]] }) = some st1 := by
    rw [loopRun_from, show prep (0) (X.keep 32 0) ({ T := V.agg [vb b261, V.nilS] :: V.ptr 0 0 0 :: i64 0 :: i64 0 :: un 4 (V.agg [vb b261, V.nilS] :: i64 z280 :: i64 0 :: un 14 []), σ := [Ob.cells true false 2 [[vb b261, V.nilS]]] }) = { T := U :: V.ptr 0 0 0 :: U :: i64 0 :: un 5 (i64 z280 :: i64 0 :: un 14 []), σ := [Ob.cells true false 2 [[vb b261, V.nilS]]] } by kernel_rfl]
    exact h1
  cases r1 with
  | e0 =>
    obtain ⟨z284, b285, b286, rfl⟩ := hr1
    cases h
    exact call_pathL (gs := [.a, .an (i64 z280) [], .lp (VX.exit 0) (s32_0_0 z284 b285 b286)]) (notIn []) rfl rfl (by kernel_rfl) (And.intro (F53_ok (m + 0) (b261) z280 h0) (And.intro h1 True.intro))
/-! ## 37 -/
def F37 (z299 : Int) (z300 : Int) (z301 : Int) : Int :=
  if z299 < z300 then
   z300
  else
   if z299 > z301 then
    z301
   else
    z299
theorem F37_ok (m : Nat) (z299 : Int) (z300 : Int) (z301 : Int) (z304 : Int) (h : F37 z299 z300 z301 = z304) : call Try.prog X O0 100000 (m + 1) 37 ([i64 z299, i64 z300, i64 z301]) ([]) = some (i64 z304, []) := by
  unfold F37 at h
  rcases ite_eq h with ⟨h0, h⟩ | ⟨h0, h⟩
  · skip
    subst h
    exact call_pathL (gs := [.t]) (notIn []) rfl rfl (by kernel_rfl) (And.intro (decide_eq_true h0) True.intro)
  · skip
    rcases ite_eq h with ⟨h1, h⟩ | ⟨h1, h⟩
    · skip
      subst h
      exact call_pathL (gs := [.f, .t]) (notIn []) rfl rfl (by kernel_rfl) (And.intro (decide_eq_false h0) (And.intro (decide_eq_true h1) True.intro))
    · skip
      subst h
      exact call_pathL (gs := [.f, .f]) (notIn []) rfl rfl (by kernel_rfl) (And.intro (decide_eq_false h0) (And.intro (decide_eq_false h1) True.intro))
/-! ## 56 -/
def F56 (z297 : Int) : Int :=
  bnd (F37 (z297) (-1099511627776) (1099511627776)) fun z305 =>
  z305
theorem F56_ok (m : Nat) (z297 : Int) (z307 : Int) (h : F56 z297 = z307) : call Try.prog X O0 100000 (m + 2) 56 ([i64 z297]) ([]) = some (i64 z307, []) := by
  unfold F56 at h
  obtain ⟨z305, h0, h⟩ := bnd_eq h
  subst h
  exact call_pathL (gs := [.an (i64 z305) []]) (notIn []) rfl rfl (by kernel_rfl) (And.intro (F37_ok (m + 0) (z297) (-1099511627776) (1099511627776) z305 h0) True.intro)
/-! ## 33 -/
noncomputable abbrev B33 : Code := (Try.f33.body).getD .skip
inductive R33_0 where
  | e0
@[reducible] def s33_0_0 (z330 : Int) (z331 : Int) (z332 : Int) (b333 : Bool) (b334 : Bool) : S := { T := U :: i64 z330 :: i64 z331 :: V.ptr 0 0 0 :: U :: U :: V.ptr 1 0 0 :: V.ptr 2 0 0 :: i64 0 :: un 13 (i64 z332 :: i64 0 :: vb b333 :: un 55 []), σ := [Ob.cells true false 2 [[vb b334, V.nilS]], Ob.cells true false 2 [[vb false, V.nilS]], Ob.cells true false 2 [[vb false, V.nilS]]] }
def R33_0.St : R33_0 → VX × S → Prop
  | .e0, p => ∃ z330 : Int, ∃ z331 : Int, ∃ z332 : Int, ∃ b333 : Bool, ∃ b334 : Bool, p = (VX.exit 0, s33_0_0 z330 z331 z332 b333 b334)
def L33_0 : Nat → Int → Int → Int → Bool → Option R33_0
  | 0, _, _, _, _ => none
  | n + 1, z312, z313, z314, b315 =>
    if 0 < z314 then
     none -- F54 has no answer
    else
     some (R33_0.e0)
theorem L33_0_ok (m : Nat) : ∀ (n : Nat) (z312 : Int) (z313 : Int) (z314 : Int) (b315 : Bool) (r : R33_0), L33_0 n z312 z313 z314 b315 = some r → ∃ st, loopFrom Try.prog X (call Try.prog X O0 100000 (m + 2)) 33 (0) 100000 B33 0 n ({ T := U :: i64 z312 :: i64 z313 :: V.ptr 0 0 0 :: U :: U :: V.ptr 1 0 0 :: V.ptr 2 0 0 :: i64 0 :: un 13 (i64 z314 :: i64 0 :: un 56 []), σ := [Ob.cells true false 2 [[vb b315, V.nilS]], Ob.cells true false 2 [[vb false, V.nilS]], Ob.cells true false 2 [[vb false, V.nilS]]] }) = some st ∧ r.St st
  | 0, _, _, _, _, r, h => by cases h
  | n + 1, z312, z313, z314, b315, r, h => by
    rw [L33_0] at h
    rcases ite_eq h with ⟨h0, h⟩ | ⟨h0, h⟩
    · skip
      cases h
    · skip
      cases h
      exact ⟨_, round_out (gs := [.f]) (notIn []) (by kernel_rfl) rfl (And.intro (decide_eq_false h0) True.intro) n, z312, z313, z314, decide (0 < z314), b315, rfl⟩
inductive A33 where
  | a0 (b328 : Bool)
@[reducible] def A33.out : A33 → V × Store
  | .a0 b328 => (V.agg [vb b328, V.nilS], [])
def F33 (b293 : Bool) (z294 : Int) (z295 : Int) : Option A33 :=
  bnd (F56 (z294)) fun z326 =>
  bnd (F56 (z295)) fun z327 =>
  if z326 ≥ z327 then
   some (A33.a0 (false))
  else
   bnd (F53 (b293)) fun z329 =>
   (L33_0 100000 (z326) (z327) (z329) (b293)).bind fun r => match r with
   | .e0 =>
    some (A33.a0 (false))
theorem F33_ok (m : Nat) (b293 : Bool) (z294 : Int) (z295 : Int) (r : A33) (h : F33 b293 z294 z295 = some r) : call Try.prog X O0 100000 (m + 3) 33 ([V.agg [vb b293, V.nilS], i64 z294, i64 z295]) ([]) = some r.out := by
  unfold F33 at h
  obtain ⟨z326, h0, h⟩ := bnd_eq h
  obtain ⟨z327, h1, h⟩ := bnd_eq h
  rcases ite_eq h with ⟨h2, h⟩ | ⟨h2, h⟩
  · skip
    cases h
    exact call_pathL (gs := [.an (i64 z326) [], .an (i64 z327) [], .t, .a, .a]) (notIn []) rfl rfl (by kernel_rfl) (And.intro (F56_ok (m + 0) (z294) z326 h0) (And.intro (F56_ok (m + 0) (z295) z327 h1) (And.intro (decide_eq_true h2) True.intro)))
  · skip
    obtain ⟨z329, h3, h⟩ := bnd_eq h
    obtain ⟨r4, h4, h⟩ := Option.bind_eq_some_iff.mp h
    obtain ⟨st4, h4, hr4⟩ := L33_0_ok m 100000 (z326) (z327) (z329) (b293) r4 h4
    have h4 : loopRun Try.prog X (call Try.prog X O0 100000 (m + 2)) 33 (0) 100000 B33 0 ({ T := V.agg [vb b293, V.nilS] :: i64 z326 :: i64 z327 :: V.ptr 0 0 0 :: U :: U :: V.ptr 1 0 0 :: V.ptr 2 0 0 :: i64 0 :: un 4 (i64 z294 :: i64 z326 :: i64 z295 :: i64 z327 :: i64 z326 :: i64 z327 :: vb (decide (z326 ≥ z327)) :: U :: V.agg [vb b293, V.nilS] :: i64 z329 :: i64 0 :: un 56 []), σ := [Ob.cells true false 2 [[vb b293, V.nilS]], Ob.cells true false 2 [[vb false, V.nilS]], Ob.cells true false 2 [[vb false, V.nilS]]] }) = some st4 := by
      rw [loopRun_from, show prep (0) (X.keep 33 0) ({ T := V.agg [vb b293, V.nilS] :: i64 z326 :: i64 z327 :: V.ptr 0 0 0 :: U :: U :: V.ptr 1 0 0 :: V.ptr 2 0 0 :: i64 0 :: un 4 (i64 z294 :: i64 z326 :: i64 z295 :: i64 z327 :: i64 z326 :: i64 z327 :: vb (decide (z326 ≥ z327)) :: U :: V.agg [vb b293, V.nilS] :: i64 z329 :: i64 0 :: un 56 []), σ := [Ob.cells true false 2 [[vb b293, V.nilS]], Ob.cells true false 2 [[vb false, V.nilS]], Ob.cells true false 2 [[vb false, V.nilS]]] }) = { T := U :: i64 z326 :: i64 z327 :: V.ptr 0 0 0 :: U :: U :: V.ptr 1 0 0 :: V.ptr 2 0 0 :: i64 0 :: un 13 (i64 z329 :: i64 0 :: un 56 []), σ := [Ob.cells true false 2 [[vb b293, V.nilS]], Ob.cells true false 2 [[vb false, V.nilS]], Ob.cells true false 2 [[vb false, V.nilS]]] } by kernel_rfl]
      exact h4
    cases r4 with
    | e0 =>
      obtain ⟨z335, z336, z337, b338, b339, rfl⟩ := hr4
      cases h
      exact call_pathL (gs := [.an (i64 z326) [], .an (i64 z327) [], .f, .a, .an (i64 z329) [], .lp (VX.exit 0) (s33_0_0 z335 z336 z337 b338 b339), .a, .a]) (notIn []) rfl rfl (by kernel_rfl) (And.intro (F56_ok (m + 0) (z294) z326 h0) (And.intro (F56_ok (m + 0) (z295) z327 h1) (And.intro (decide_eq_false h2) (And.intro (F53_ok (m + 1) (b293) z329 h3) (And.intro h4 True.intro)))))
/-! ## 12 -/
noncomputable abbrev B12 : Code := (Try.f12.body).getD .skip
inductive R12_0 where
  | e0
  | e1
@[reducible] def s12_0_0 (l360 : List (List V)) (z361 : Int) (z362 : Int) (z363 : Int) (b364 : Bool) (b365 : Bool) (b366 : Bool) : S := { T := U :: V.list 1 l360 :: V.ptr 0 0 0 :: U :: U :: V.nilS :: i64 z361 :: i64 z362 :: i64 z363 :: un 19 (i64 z363 :: vb b364 :: vb b364 :: i64 z362 :: i64 z361 :: vb b365 :: vb b365 :: un 30 []), σ := [Ob.cells true false 2 [[vb b366, V.nilS]]] }
@[reducible] def s12_0_1 (l367 : List (List V)) (z368 : Int) (z369 : Int) (z370 : Int) (b371 : Bool) (b372 : Bool) : S := { T := U :: V.list 1 l367 :: V.ptr 0 0 0 :: U :: U :: V.nilS :: i64 z368 :: i64 z369 :: i64 z370 :: un 19 (i64 z370 :: vb b371 :: vb b371 :: E :: E :: E :: vb false :: un 30 []), σ := [Ob.cells true false 2 [[vb b372, V.nilS]]] }
def R12_0.St : R12_0 → VX × S → Prop
  | .e0, p => ∃ l360 : List (List V), ∃ z361 : Int, ∃ z362 : Int, ∃ z363 : Int, ∃ b364 : Bool, ∃ b365 : Bool, ∃ b366 : Bool, p = (VX.exit 0, s12_0_0 l360 z361 z362 z363 b364 b365 b366)
  | .e1, p => ∃ l367 : List (List V), ∃ z368 : Int, ∃ z369 : Int, ∃ z370 : Int, ∃ b371 : Bool, ∃ b372 : Bool, p = (VX.exit 0, s12_0_1 l367 z368 z369 z370 b371 b372)
def L12_0 : Nat → List (List V) → Int → Int → Int → Bool → Option R12_0
  | 0, _, _, _, _, _ => none
  | n + 1, l341, z342, z343, z344, b345 =>
    if z344 < 128 then
     if z343 < z342 then
      if (↑(List.length l341) : Int) = 0 then
       none -- none
      else
       if 0 ≤ Int.tmod z344 (↑(List.length l341) : Int) then
        ((l341[Int.toNat (Int.tmod z344 (↑(List.length l341) : Int))]?).bind W2.dec).bind fun e358 =>
        if (Int.tmod z344 2 == 0) = true then
         (F33 (b345) (z343) (w64 (z343 + e358.c0))).bind fun r => match r with
         | .a0 b359 =>
          L12_0 n (l341) (z342) (w64 (z343 + e358.c0)) (w64 (z344 + 1)) (b345)
        else
         L12_0 n (l341) (z342) (w64 (z343 + e358.c0)) (w64 (z344 + 1)) (b345)
       else
        none -- none
     else
      some (R12_0.e0)
    else
     some (R12_0.e1)
theorem L12_0_ok (m : Nat) : ∀ (n : Nat) (l341 : List (List V)) (z342 : Int) (z343 : Int) (z344 : Int) (b345 : Bool) (r : R12_0), L12_0 n l341 z342 z343 z344 b345 = some r → ∃ st, loopFrom Try.prog X (call Try.prog X O0 100000 (m + 4)) 12 (0) 100000 B12 0 n ({ T := U :: V.list 1 l341 :: V.ptr 0 0 0 :: U :: U :: V.nilS :: i64 z342 :: i64 z343 :: i64 z344 :: un 56 [], σ := [Ob.cells true false 2 [[vb b345, V.nilS]]] }) = some st ∧ r.St st
  | 0, _, _, _, _, _, r, h => by cases h
  | n + 1, l341, z342, z343, z344, b345, r, h => by
    rw [L12_0] at h
    rcases ite_eq h with ⟨h0, h⟩ | ⟨h0, h⟩
    · skip
      rcases ite_eq h with ⟨h1, h⟩ | ⟨h1, h⟩
      · skip
        rcases ite_eq h with ⟨h2, h⟩ | ⟨h2, h⟩
        · skip
          cases h
        · skip
          rcases ite_eq h with ⟨h3, h⟩ | ⟨h3, h⟩
          · skip
            obtain ⟨e358, h4, h⟩ := Option.bind_eq_some_iff.mp h
            rcases ite_eq h with ⟨h5, h⟩ | ⟨h5, h⟩
            · skip
              obtain ⟨r6, h6, h⟩ := Option.bind_eq_some_iff.mp h
              have h6 := F33_ok (m + 1) (b345) (z343) (w64 (z343 + e358.c0)) r6 h6
              cases r6 with
              | a0 b359 =>
                obtain ⟨st, hs, hr⟩ := L12_0_ok m n (l341) (z342) (w64 (z343 + e358.c0)) (w64 (z344 + 1)) (b345) r h
                exact ⟨st, (round_on (gs := [.t, .t, .t, .t, .t, .f, .t, .el (W2.cells e358), .a, .t, .a, .an (V.agg [vb b359, V.nilS]) [], .a, .a, .a]) (notIn []) (by kernel_rfl) (And.intro (decide_eq_true h0) (And.intro (decide_eq_true h0) (And.intro (decide_eq_true h0) (And.intro (decide_eq_true h0) (And.intro (decide_eq_true h1) (And.intro (decide_eq_false h2) (And.intro (decide_eq_true h3) (And.intro (W2.dec_ok h4) (And.intro h5 (And.intro h6 True.intro)))))))))) n).trans hs, hr⟩
            · skip
              obtain ⟨st, hs, hr⟩ := L12_0_ok m n (l341) (z342) (w64 (z343 + e358.c0)) (w64 (z344 + 1)) (b345) r h
              exact ⟨st, (round_on (gs := [.t, .t, .t, .t, .t, .f, .t, .el (W2.cells e358), .a, .f]) (notIn []) (by kernel_rfl) (And.intro (decide_eq_true h0) (And.intro (decide_eq_true h0) (And.intro (decide_eq_true h0) (And.intro (decide_eq_true h0) (And.intro (decide_eq_true h1) (And.intro (decide_eq_false h2) (And.intro (decide_eq_true h3) (And.intro (W2.dec_ok h4) (And.intro (Bool.eq_false_iff.mpr h5) True.intro))))))))) n).trans hs, hr⟩
          · skip
            cases h
      · skip
        cases h
        exact ⟨_, round_out (gs := [.t, .t, .t, .t, .f]) (notIn []) (by kernel_rfl) rfl (And.intro (decide_eq_true h0) (And.intro (decide_eq_true h0) (And.intro (decide_eq_true h0) (And.intro (decide_eq_true h0) (And.intro (decide_eq_false h1) True.intro))))) n, l341, z342, z343, z344, decide (z344 < 128), decide (z343 < z342), b345, rfl⟩
    · skip
      cases h
      exact ⟨_, round_out (gs := [.f, .f, .f, .f, .a]) (notIn []) (by kernel_rfl) rfl (And.intro (decide_eq_false h0) (And.intro (decide_eq_false h0) (And.intro (decide_eq_false h0) (And.intro (decide_eq_false h0) True.intro)))) n, l341, z342, z343, z344, decide (z344 < 128), b345, rfl⟩
inductive A12 where
  | a0 (k354 : Nat) (l355 : List (List V))
  | a1
@[reducible] def A12.out : A12 → V × Store
  | .a0 k354 l355 => (V.hs 0 0 k354, [Ob.cells true true 2 l355])
  | .a1 => (V.nilS, [])
def F12 (b193 : Bool) (l194 : List (List V)) : Option A12 :=
  if ((↑(List.length l194) : Int) == 0) = true then
   (F31).bind fun r => match r with
   | .a0 =>
    some (A12.a0 (1) ([[vb b193, V.nilS]]))
  else
   (F30 (l194)).bind fun r => match r with
   | .a0 b356 =>
    if (!b356) = true then
     (F31).bind fun r => match r with
     | .a0 =>
      some (A12.a0 (1) ([[vb b193, V.nilS]]))
    else
     (F32 (b193)).bind fun r => match r with
     | .a0 z357 =>
      (L12_0 100000 (l194) (z357) (0) (0) (b193)).bind fun r => match r with
      | .e0 =>
       some (A12.a1)
      | .e1 =>
       some (A12.a1)
theorem F12_ok (m : Nat) (b193 : Bool) (l194 : List (List V)) (r : A12) (h : F12 b193 l194 = some r) : call Try.prog X O0 100000 (m + 5) 12 ([V.agg [vb b193, V.nilS], V.list 1 l194]) ([]) = some r.out := by
  unfold F12 at h
  rcases ite_eq h with ⟨h0, h⟩ | ⟨h0, h⟩
  · skip
    obtain ⟨r1, h1, h⟩ := Option.bind_eq_some_iff.mp h
    have h1 := F31_ok (m + 3) r1 h1
    cases r1 with
    | a0 =>
      cases h
      exact call_pathL (gs := [.t, .t, .t, .t, .a, .a, .a, .an (V.nilS) [], .ft [⟨0, [0], []⟩, ⟨1, [0], []⟩, ⟨2, [0], []⟩, ⟨3, [0], []⟩, ⟨4, [], []⟩, ⟨5, [], []⟩, ⟨6, [2], [2]⟩, ⟨7, [], []⟩]]) (notIn []) rfl rfl (by kernel_rfl) (And.intro h0 (And.intro h0 (And.intro h0 (And.intro h0 (And.intro h1 (And.intro (Eq.refl ([⟨0, [0], []⟩, ⟨1, [0], []⟩, ⟨2, [0], []⟩, ⟨3, [0], []⟩, ⟨4, [], []⟩, ⟨5, [], []⟩, ⟨6, [2], [2]⟩, ⟨7, [], []⟩] : List Foot)) True.intro))))))
  · skip
    obtain ⟨r1, h1, h⟩ := Option.bind_eq_some_iff.mp h
    have h1 := F30_ok (m + 0) (l194) r1 h1
    cases r1 with
    | a0 b356 =>
      rcases ite_eq h with ⟨h2, h⟩ | ⟨h2, h⟩
      · skip
        obtain ⟨r3, h3, h⟩ := Option.bind_eq_some_iff.mp h
        have h3 := F31_ok (m + 3) r3 h3
        cases r3 with
        | a0 =>
          cases h
          exact call_pathL (gs := [.f, .f, .an (vb b356) [], .f, .f, .t, .a, .a, .an (V.nilS) [], .ft [⟨0, [0], []⟩, ⟨1, [0], []⟩, ⟨2, [0], []⟩, ⟨3, [0], []⟩, ⟨4, [], []⟩, ⟨5, [], []⟩, ⟨6, [2], [2]⟩, ⟨7, [], []⟩]]) (notIn []) rfl rfl (by kernel_rfl) (And.intro (Bool.eq_false_iff.mpr h0) (And.intro (Bool.eq_false_iff.mpr h0) (And.intro h1 (And.intro (Bool.eq_false_iff.mpr h0) (And.intro (Bool.eq_false_iff.mpr h0) (And.intro h2 (And.intro h3 (And.intro (Eq.refl ([⟨0, [0], []⟩, ⟨1, [0], []⟩, ⟨2, [0], []⟩, ⟨3, [0], []⟩, ⟨4, [], []⟩, ⟨5, [], []⟩, ⟨6, [2], [2]⟩, ⟨7, [], []⟩] : List Foot)) True.intro))))))))
      · skip
        obtain ⟨r3, h3, h⟩ := Option.bind_eq_some_iff.mp h
        have h3 := F32_ok (m + 2) (b193) r3 h3
        cases r3 with
        | a0 z357 =>
          obtain ⟨r4, h4, h⟩ := Option.bind_eq_some_iff.mp h
          obtain ⟨st4, h4, hr4⟩ := L12_0_ok m 100000 (l194) (z357) (0) (0) (b193) r4 h4
          have h4 : loopRun Try.prog X (call Try.prog X O0 100000 (m + 4)) 12 (0) 100000 B12 0 ({ T := V.agg [vb b193, V.nilS] :: V.list 1 l194 :: V.ptr 0 0 0 :: U :: V.nilS :: V.nilS :: i64 z357 :: i64 0 :: i64 0 :: U :: U :: V.list 1 l194 :: i64 (↑(List.length l194) : Int) :: vb ((↑(List.length l194) : Int) == 0) :: vb ((↑(List.length l194) : Int) == 0) :: V.list 1 l194 :: vb b356 :: (vb !b356) :: (vb !b356) :: un 7 (V.agg [vb b193, V.nilS] :: i64 z357 :: un 37 []), σ := [Ob.cells true false 2 [[vb b193, V.nilS]]] }) = some st4 := by
            rw [loopRun_from, show prep (0) (X.keep 12 0) ({ T := V.agg [vb b193, V.nilS] :: V.list 1 l194 :: V.ptr 0 0 0 :: U :: V.nilS :: V.nilS :: i64 z357 :: i64 0 :: i64 0 :: U :: U :: V.list 1 l194 :: i64 (↑(List.length l194) : Int) :: vb ((↑(List.length l194) : Int) == 0) :: vb ((↑(List.length l194) : Int) == 0) :: V.list 1 l194 :: vb b356 :: (vb !b356) :: (vb !b356) :: un 7 (V.agg [vb b193, V.nilS] :: i64 z357 :: un 37 []), σ := [Ob.cells true false 2 [[vb b193, V.nilS]]] }) = { T := U :: V.list 1 l194 :: V.ptr 0 0 0 :: U :: U :: V.nilS :: i64 z357 :: i64 0 :: i64 0 :: un 56 [], σ := [Ob.cells true false 2 [[vb b193, V.nilS]]] } by kernel_rfl]
            exact h4
          cases r4 with
          | e0 =>
            obtain ⟨l373, z374, z375, z376, b377, b378, b379, rfl⟩ := hr4
            cases h
            exact call_pathL (gs := [.f, .f, .an (vb b356) [], .f, .f, .f, .a, .an (i64 z357) [], .lp (VX.exit 0) (s12_0_0 l373 z374 z375 z376 b377 b378 b379)]) (notIn []) rfl rfl (by kernel_rfl) (And.intro (Bool.eq_false_iff.mpr h0) (And.intro (Bool.eq_false_iff.mpr h0) (And.intro h1 (And.intro (Bool.eq_false_iff.mpr h0) (And.intro (Bool.eq_false_iff.mpr h0) (And.intro (Bool.eq_false_iff.mpr h2) (And.intro h3 (And.intro h4 True.intro))))))))
          | e1 =>
            obtain ⟨l380, z381, z382, z383, b384, b385, rfl⟩ := hr4
            cases h
            exact call_pathL (gs := [.f, .f, .an (vb b356) [], .f, .f, .f, .a, .an (i64 z357) [], .lp (VX.exit 0) (s12_0_1 l380 z381 z382 z383 b384 b385)]) (notIn []) rfl rfl (by kernel_rfl) (And.intro (Bool.eq_false_iff.mpr h0) (And.intro (Bool.eq_false_iff.mpr h0) (And.intro h1 (And.intro (Bool.eq_false_iff.mpr h0) (And.intro (Bool.eq_false_iff.mpr h0) (And.intro (Bool.eq_false_iff.mpr h2) (And.intro h3 (And.intro h4 True.intro))))))))
/-! ## 12 -/
inductive A12v1 where
  | a0 (k390 : Nat) (l391 : List (List V))
@[reducible] def A12v1.out : A12v1 → V × Store
  | .a0 k390 l391 => (V.hs 0 0 k390, [Ob.cells true true 2 l391])
def F12v1 (b388 : Bool) : Option A12v1 :=
  (F31).bind fun r => match r with
  | .a0 =>
   some (A12v1.a0 (1) ([[vb b388, V.nilS]]))
theorem F12v1_ok (m : Nat) (b388 : Bool) (r : A12v1) (h : F12v1 b388 = some r) : call Try.prog X O0 100000 (m + 2) 12 ([V.agg [vb b388, V.nilS], V.nilS]) ([]) = some r.out := by
  unfold F12v1 at h
  obtain ⟨r0, h0, h⟩ := Option.bind_eq_some_iff.mp h
  have h0 := F31_ok (m + 0) r0 h0
  cases r0 with
  | a0 =>
    cases h
    exact call_pathL (gs := [.a, .a, .a, .a, .a, .a, .a, .an (V.nilS) [], .ft [⟨0, [0], []⟩, ⟨1, [0], []⟩, ⟨2, [0], []⟩, ⟨3, [0], []⟩, ⟨4, [], []⟩, ⟨5, [], []⟩, ⟨6, [2], [2]⟩, ⟨7, [], []⟩]]) (notIn []) rfl rfl (by kernel_rfl) (And.intro h0 (And.intro (Eq.refl ([⟨0, [0], []⟩, ⟨1, [0], []⟩, ⟨2, [0], []⟩, ⟨3, [0], []⟩, ⟨4, [], []⟩, ⟨5, [], []⟩, ⟨6, [2], [2]⟩, ⟨7, [], []⟩] : List Foot)) True.intro))
/-! ## 19 -/
noncomputable abbrev B19 : Code := (Try.f19.body).getD .skip
inductive R19_0 where
  | e0
  | e1
@[reducible] def s19_0_0 (l451 : List (List V)) (l452 : List (List V)) (z453 : Int) (z454 : Int) (b455 : Bool) (z456 : Int) (z457 : Int) (z458 : Int) (z459 : Int) (b460 : Bool) : S := { T := V.list 2 l451 :: V.list 2 l452 :: U :: U :: vb false :: i64 z453 :: un 5 [i64 z453, V.list 2 l451, i64 z454, vb b455, U, U, V.list 2 l451, i64 z453, V.pp [i64 z456, i64 z457], V.agg [i64 z456, i64 z457], V.list 2 l452, i64 z453, V.pp [i64 z458, i64 z459], V.agg [i64 z458, i64 z459], vb b460], σ := [] }
@[reducible] def s19_0_1 (l461 : List (List V)) (l462 : List (List V)) (z463 : Int) (z464 : Int) (b465 : Bool) : S := { T := V.list 2 l461 :: V.list 2 l462 :: U :: U :: U :: i64 z463 :: un 5 (i64 z463 :: V.list 2 l461 :: i64 z464 :: vb b465 :: un 11 []), σ := [] }
def R19_0.St : R19_0 → VX × S → Prop
  | .e0, p => ∃ l451 : List (List V), ∃ l452 : List (List V), ∃ z453 : Int, ∃ z454 : Int, ∃ b455 : Bool, ∃ z456 : Int, ∃ z457 : Int, ∃ z458 : Int, ∃ z459 : Int, ∃ b460 : Bool, p = (VX.ret, s19_0_0 l451 l452 z453 z454 b455 z456 z457 z458 z459 b460)
  | .e1, p => ∃ l461 : List (List V), ∃ l462 : List (List V), ∃ z463 : Int, ∃ z464 : Int, ∃ b465 : Bool, p = (VX.exit 0, s19_0_1 l461 l462 z463 z464 b465)
def L19_0 : Nat → List (List V) → List (List V) → Int → Option R19_0
  | 0, _, _, _ => none
  | n + 1, l428, l429, z430 =>
    if z430 < (↑(List.length l428) : Int) then
     if 0 ≤ z430 then
      ((l428[Int.toNat z430]?).bind W43.dec).bind fun e449 =>
      ((l429[Int.toNat z430]?).bind W43.dec).bind fun e450 =>
      if (!(e449.c0 == e450.c0 && (e449.c1 == e450.c1 && true))) = true then
       some (R19_0.e0)
      else
       L19_0 n (l428) (l429) (w64 (z430 + 1))
     else
      none -- none
    else
     some (R19_0.e1)
theorem L19_0_ok (m : Nat) : ∀ (n : Nat) (l428 : List (List V)) (l429 : List (List V)) (z430 : Int) (r : R19_0), L19_0 n l428 l429 z430 = some r → ∃ st, loopFrom Try.prog X (call Try.prog X O0 100000 (m + 0)) 19 (0) 100000 B19 0 n ({ T := V.list 2 l428 :: V.list 2 l429 :: U :: U :: U :: i64 z430 :: un 20 [], σ := [] }) = some st ∧ r.St st
  | 0, _, _, _, r, h => by cases h
  | n + 1, l428, l429, z430, r, h => by
    rw [L19_0] at h
    rcases ite_eq h with ⟨h0, h⟩ | ⟨h0, h⟩
    · skip
      rcases ite_eq h with ⟨h1, h⟩ | ⟨h1, h⟩
      · skip
        obtain ⟨e449, h2, h⟩ := Option.bind_eq_some_iff.mp h
        obtain ⟨e450, h3, h⟩ := Option.bind_eq_some_iff.mp h
        rcases ite_eq h with ⟨h4, h⟩ | ⟨h4, h⟩
        · skip
          cases h
          exact ⟨_, round_out (gs := [.t, .t, .el (W43.cells e449), .t, .el (W43.cells e450), .ft [⟨0, [], []⟩, ⟨1, [], []⟩, ⟨2, [], []⟩, ⟨3, [], []⟩, ⟨4, [], []⟩, ⟨5, [], []⟩, ⟨6, [], []⟩, ⟨7, [], []⟩, ⟨8, [], []⟩], .t]) (notIn []) (by kernel_rfl) rfl (And.intro (decide_eq_true h0) (And.intro (decide_eq_true h1) (And.intro (W43.dec_ok h2) (And.intro (decide_eq_true h1) (And.intro (W43.dec_ok h3) (And.intro (Eq.refl ([⟨0, [], []⟩, ⟨1, [], []⟩, ⟨2, [], []⟩, ⟨3, [], []⟩, ⟨4, [], []⟩, ⟨5, [], []⟩, ⟨6, [], []⟩, ⟨7, [], []⟩, ⟨8, [], []⟩] : List Foot)) (And.intro h4 True.intro))))))) n, l428, l429, z430, (↑(List.length l428) : Int), decide (z430 < (↑(List.length l428) : Int)), e449.c0, e449.c1, e450.c0, e450.c1, !(e449.c0 == e450.c0 && (e449.c1 == e450.c1 && true)), rfl⟩
        · skip
          obtain ⟨st, hs, hr⟩ := L19_0_ok m n (l428) (l429) (w64 (z430 + 1)) r h
          exact ⟨st, (round_on (gs := [.t, .t, .el (W43.cells e449), .t, .el (W43.cells e450), .ft [⟨0, [], []⟩, ⟨1, [], []⟩, ⟨2, [], []⟩, ⟨3, [], []⟩, ⟨4, [], []⟩, ⟨5, [], []⟩, ⟨6, [], []⟩, ⟨7, [], []⟩, ⟨8, [], []⟩], .f]) (notIn []) (by kernel_rfl) (And.intro (decide_eq_true h0) (And.intro (decide_eq_true h1) (And.intro (W43.dec_ok h2) (And.intro (decide_eq_true h1) (And.intro (W43.dec_ok h3) (And.intro (Eq.refl ([⟨0, [], []⟩, ⟨1, [], []⟩, ⟨2, [], []⟩, ⟨3, [], []⟩, ⟨4, [], []⟩, ⟨5, [], []⟩, ⟨6, [], []⟩, ⟨7, [], []⟩, ⟨8, [], []⟩] : List Foot)) (And.intro (Bool.eq_false_iff.mpr h4) True.intro))))))) n).trans hs, hr⟩
      · skip
        cases h
    · skip
      cases h
      exact ⟨_, round_out (gs := [.f]) (notIn []) (by kernel_rfl) rfl (And.intro (decide_eq_false h0) True.intro) n, l428, l429, z430, (↑(List.length l428) : Int), decide (z430 < (↑(List.length l428) : Int)), rfl⟩
inductive A19 where
  | a0 (b448 : Bool)
@[reducible] def A19.out : A19 → V × Store
  | .a0 b448 => (vb b448, [])
def F19 (l411 : List (List V)) (l412 : List (List V)) : Option A19 :=
  if ((↑(List.length l411) : Int) != (↑(List.length l412) : Int)) = true then
   some (A19.a0 (false))
  else
   (L19_0 100000 (l411) (l412) (0)).bind fun r => match r with
   | .e0 =>
    some (A19.a0 (false))
   | .e1 =>
    some (A19.a0 (true))
theorem F19_ok (m : Nat) (l411 : List (List V)) (l412 : List (List V)) (r : A19) (h : F19 l411 l412 = some r) : call Try.prog X O0 100000 (m + 1) 19 ([V.list 2 l411, V.list 2 l412]) ([]) = some r.out := by
  unfold F19 at h
  rcases ite_eq h with ⟨h0, h⟩ | ⟨h0, h⟩
  · skip
    cases h
    exact call_pathL (gs := [.t]) (notIn []) rfl rfl (by kernel_rfl) (And.intro h0 True.intro)
  · skip
    obtain ⟨r1, h1, h⟩ := Option.bind_eq_some_iff.mp h
    obtain ⟨st1, h1, hr1⟩ := L19_0_ok m 100000 (l411) (l412) (0) r1 h1
    have h1 : loopRun Try.prog X (call Try.prog X O0 100000 (m + 0)) 19 (0) 100000 B19 0 ({ T := V.list 2 l411 :: V.list 2 l412 :: U :: U :: vb false :: i64 0 :: V.list 2 l411 :: i64 (↑(List.length l411) : Int) :: V.list 2 l412 :: i64 (↑(List.length l412) : Int) :: vb ((↑(List.length l411) : Int) != (↑(List.length l412) : Int)) :: un 15 [], σ := [] }) = some st1 := by
      rw [loopRun_from, show prep (0) (X.keep 19 0) ({ T := V.list 2 l411 :: V.list 2 l412 :: U :: U :: vb false :: i64 0 :: V.list 2 l411 :: i64 (↑(List.length l411) : Int) :: V.list 2 l412 :: i64 (↑(List.length l412) : Int) :: vb ((↑(List.length l411) : Int) != (↑(List.length l412) : Int)) :: un 15 [], σ := [] }) = { T := V.list 2 l411 :: V.list 2 l412 :: U :: U :: U :: i64 0 :: un 20 [], σ := [] } by kernel_rfl]
      exact h1
    cases r1 with
    | e0 =>
      obtain ⟨l466, l467, z468, z469, b470, z471, z472, z473, z474, b475, rfl⟩ := hr1
      cases h
      exact call_pathL (gs := [.f, .lp (VX.ret) (s19_0_0 l466 l467 z468 z469 b470 z471 z472 z473 z474 b475)]) (notIn []) rfl rfl (by kernel_rfl) (And.intro (Bool.eq_false_iff.mpr h0) (And.intro h1 True.intro))
    | e1 =>
      obtain ⟨l476, l477, z478, z479, b480, rfl⟩ := hr1
      cases h
      exact call_pathL (gs := [.f, .lp (VX.exit 0) (s19_0_1 l476 l477 z478 z479 b480)]) (notIn []) rfl rfl (by kernel_rfl) (And.intro (Bool.eq_false_iff.mpr h0) (And.intro h1 True.intro))
/-! ## 19 -/
noncomputable abbrev B19v1 : Code := (Try.f19.body).getD .skip
inductive R19v1_0 where
  | e0
@[reducible] def s19v1_0_0 (l518 : List (List V)) (z519 : Int) (b520 : Bool) : S := { T := V.list 2 l518 :: V.nilS :: U :: U :: U :: i64 0 :: un 5 (i64 0 :: V.list 2 l518 :: i64 z519 :: vb b520 :: un 11 []), σ := [] }
def R19v1_0.St : R19v1_0 → VX × S → Prop
  | .e0, p => ∃ l518 : List (List V), ∃ z519 : Int, ∃ b520 : Bool, p = (VX.exit 0, s19v1_0_0 l518 z519 b520)
def L19v1_0 : Nat → List (List V) → Option R19v1_0
  | 0, _ => none
  | n + 1, l508 =>
    if 0 < (↑(List.length l508) : Int) then
     ((l508[(0 : Nat)]?).bind W43.dec).bind fun e517 =>
     none -- none
    else
     some (R19v1_0.e0)
theorem L19v1_0_ok (m : Nat) : ∀ (n : Nat) (l508 : List (List V)) (r : R19v1_0), L19v1_0 n l508 = some r → ∃ st, loopFrom Try.prog X (call Try.prog X O0 100000 (m + 0)) 19 (0) 100000 B19v1 0 n ({ T := V.list 2 l508 :: V.nilS :: U :: U :: U :: i64 0 :: un 20 [], σ := [] }) = some st ∧ r.St st
  | 0, _, r, h => by cases h
  | n + 1, l508, r, h => by
    rw [L19v1_0] at h
    rcases ite_eq h with ⟨h0, h⟩ | ⟨h0, h⟩
    · skip
      obtain ⟨e517, h1, h⟩ := Option.bind_eq_some_iff.mp h
      cases h
    · skip
      cases h
      exact ⟨_, round_out (gs := [.f]) (notIn []) (by kernel_rfl) rfl (And.intro (decide_eq_false h0) True.intro) n, l508, (↑(List.length l508) : Int), decide (0 < (↑(List.length l508) : Int)), rfl⟩
inductive A19v1 where
  | a0 (b516 : Bool)
@[reducible] def A19v1.out : A19v1 → V × Store
  | .a0 b516 => (vb b516, [])
def F19v1 (l505 : List (List V)) : Option A19v1 :=
  if ((↑(List.length l505) : Int) != 0) = true then
   some (A19v1.a0 (false))
  else
   (L19v1_0 100000 (l505)).bind fun r => match r with
   | .e0 =>
    some (A19v1.a0 (true))
theorem F19v1_ok (m : Nat) (l505 : List (List V)) (r : A19v1) (h : F19v1 l505 = some r) : call Try.prog X O0 100000 (m + 1) 19 ([V.list 2 l505, V.nilS]) ([]) = some r.out := by
  unfold F19v1 at h
  rcases ite_eq h with ⟨h0, h⟩ | ⟨h0, h⟩
  · skip
    cases h
    exact call_pathL (gs := [.t]) (notIn []) rfl rfl (by kernel_rfl) (And.intro h0 True.intro)
  · skip
    obtain ⟨r1, h1, h⟩ := Option.bind_eq_some_iff.mp h
    obtain ⟨st1, h1, hr1⟩ := L19v1_0_ok m 100000 (l505) r1 h1
    have h1 : loopRun Try.prog X (call Try.prog X O0 100000 (m + 0)) 19 (0) 100000 B19v1 0 ({ T := V.list 2 l505 :: V.nilS :: U :: U :: vb false :: i64 0 :: V.list 2 l505 :: i64 (↑(List.length l505) : Int) :: V.nilS :: i64 0 :: vb ((↑(List.length l505) : Int) != 0) :: un 15 [], σ := [] }) = some st1 := by
      rw [loopRun_from, show prep (0) (X.keep 19 0) ({ T := V.list 2 l505 :: V.nilS :: U :: U :: vb false :: i64 0 :: V.list 2 l505 :: i64 (↑(List.length l505) : Int) :: V.nilS :: i64 0 :: vb ((↑(List.length l505) : Int) != 0) :: un 15 [], σ := [] }) = { T := V.list 2 l505 :: V.nilS :: U :: U :: U :: i64 0 :: un 20 [], σ := [] } by kernel_rfl]
      exact h1
    cases r1 with
    | e0 =>
      obtain ⟨l521, z522, b523, rfl⟩ := hr1
      cases h
      exact call_pathL (gs := [.f, .lp (VX.exit 0) (s19v1_0_0 l521 z522 b523)]) (notIn []) rfl rfl (by kernel_rfl) (And.intro (Bool.eq_false_iff.mpr h0) (And.intro h1 True.intro))
/-! ## 19 -/
noncomputable abbrev B19v2 : Code := (Try.f19.body).getD .skip
inductive R19v2_0 where
  | e0
@[reducible] def s19v2_0_0 (l552 : List (List V)) : S := { T := V.nilS :: V.list 2 l552 :: U :: U :: U :: i64 0 :: un 5 (i64 0 :: V.nilS :: i64 0 :: vb false :: un 11 []), σ := [] }
def R19v2_0.St : R19v2_0 → VX × S → Prop
  | .e0, p => ∃ l552 : List (List V), p = (VX.exit 0, s19v2_0_0 l552)
def L19v2_0 : Nat → List (List V) → Option R19v2_0
  | 0, _ => none
  | n + 1, l548 =>
    some (R19v2_0.e0)
theorem L19v2_0_ok (m : Nat) : ∀ (n : Nat) (l548 : List (List V)) (r : R19v2_0), L19v2_0 n l548 = some r → ∃ st, loopFrom Try.prog X (call Try.prog X O0 100000 (m + 0)) 19 (0) 100000 B19v2 0 n ({ T := V.nilS :: V.list 2 l548 :: U :: U :: U :: i64 0 :: un 20 [], σ := [] }) = some st ∧ r.St st
  | 0, _, r, h => by cases h
  | n + 1, l548, r, h => by
    rw [L19v2_0] at h
    cases h
    exact ⟨_, round_out (gs := [.a]) (notIn []) (by kernel_rfl) rfl True.intro n, l548, rfl⟩
inductive A19v2 where
  | a0 (b551 : Bool)
@[reducible] def A19v2.out : A19v2 → V × Store
  | .a0 b551 => (vb b551, [])
def F19v2 (l545 : List (List V)) : Option A19v2 :=
  if (0 != (↑(List.length l545) : Int)) = true then
   some (A19v2.a0 (false))
  else
   (L19v2_0 100000 (l545)).bind fun r => match r with
   | .e0 =>
    some (A19v2.a0 (true))
theorem F19v2_ok (m : Nat) (l545 : List (List V)) (r : A19v2) (h : F19v2 l545 = some r) : call Try.prog X O0 100000 (m + 1) 19 ([V.nilS, V.list 2 l545]) ([]) = some r.out := by
  unfold F19v2 at h
  rcases ite_eq h with ⟨h0, h⟩ | ⟨h0, h⟩
  · skip
    cases h
    exact call_pathL (gs := [.t]) (notIn []) rfl rfl (by kernel_rfl) (And.intro h0 True.intro)
  · skip
    obtain ⟨r1, h1, h⟩ := Option.bind_eq_some_iff.mp h
    obtain ⟨st1, h1, hr1⟩ := L19v2_0_ok m 100000 (l545) r1 h1
    have h1 : loopRun Try.prog X (call Try.prog X O0 100000 (m + 0)) 19 (0) 100000 B19v2 0 ({ T := V.nilS :: V.list 2 l545 :: U :: U :: vb false :: i64 0 :: V.nilS :: i64 0 :: V.list 2 l545 :: i64 (↑(List.length l545) : Int) :: vb (0 != (↑(List.length l545) : Int)) :: un 15 [], σ := [] }) = some st1 := by
      rw [loopRun_from, show prep (0) (X.keep 19 0) ({ T := V.nilS :: V.list 2 l545 :: U :: U :: vb false :: i64 0 :: V.nilS :: i64 0 :: V.list 2 l545 :: i64 (↑(List.length l545) : Int) :: vb (0 != (↑(List.length l545) : Int)) :: un 15 [], σ := [] }) = { T := V.nilS :: V.list 2 l545 :: U :: U :: U :: i64 0 :: un 20 [], σ := [] } by kernel_rfl]
      exact h1
    cases r1 with
    | e0 =>
      obtain ⟨l553, rfl⟩ := hr1
      cases h
      exact call_pathL (gs := [.f, .lp (VX.exit 0) (s19v2_0_0 l553)]) (notIn []) rfl rfl (by kernel_rfl) (And.intro (Bool.eq_false_iff.mpr h0) (And.intro h1 True.intro))
/-! ## 19 -/
noncomputable abbrev B19v3 : Code := (Try.f19.body).getD .skip
inductive R19v3_0 where
  | e0
@[reducible] def s19v3_0_0 : S := { T := V.nilS :: V.nilS :: U :: U :: U :: i64 0 :: un 5 (i64 0 :: V.nilS :: i64 0 :: vb false :: un 11 []), σ := [] }
def R19v3_0.St : R19v3_0 → VX × S → Prop
  | .e0, p => p = (VX.exit 0, s19v3_0_0)
def L19v3_0 : Nat → Option R19v3_0
  | 0 => none
  | n + 1 =>
    some (R19v3_0.e0)
theorem L19v3_0_ok (m : Nat) : ∀ (n : Nat) (r : R19v3_0), L19v3_0 n = some r → ∃ st, loopFrom Try.prog X (call Try.prog X O0 100000 (m + 0)) 19 (0) 100000 B19v3 0 n ({ T := V.nilS :: V.nilS :: U :: U :: U :: i64 0 :: un 20 [], σ := [] }) = some st ∧ r.St st
  | 0, r, h => by cases h
  | n + 1, r, h => by
    rw [L19v3_0] at h
    cases h
    exact ⟨_, round_out (gs := [.a]) (notIn []) (by kernel_rfl) rfl True.intro n, rfl⟩
inductive A19v3 where
  | a0 (b575 : Bool)
@[reducible] def A19v3.out : A19v3 → V × Store
  | .a0 b575 => (vb b575, [])
def F19v3 : Option A19v3 :=
  (L19v3_0 100000).bind fun r => match r with
  | .e0 =>
   some (A19v3.a0 (true))
theorem F19v3_ok (m : Nat) (r : A19v3) (h : F19v3 = some r) : call Try.prog X O0 100000 (m + 1) 19 ([V.nilS, V.nilS]) ([]) = some r.out := by
  unfold F19v3 at h
  obtain ⟨r0, h0, h⟩ := Option.bind_eq_some_iff.mp h
  obtain ⟨st0, h0, hr0⟩ := L19v3_0_ok m 100000 r0 h0
  have h0 : loopRun Try.prog X (call Try.prog X O0 100000 (m + 0)) 19 (0) 100000 B19v3 0 ({ T := V.nilS :: V.nilS :: U :: U :: vb false :: i64 0 :: V.nilS :: i64 0 :: V.nilS :: i64 0 :: vb false :: un 15 [], σ := [] }) = some st0 := by
    rw [loopRun_from, show prep (0) (X.keep 19 0) ({ T := V.nilS :: V.nilS :: U :: U :: vb false :: i64 0 :: V.nilS :: i64 0 :: V.nilS :: i64 0 :: vb false :: un 15 [], σ := [] }) = { T := V.nilS :: V.nilS :: U :: U :: U :: i64 0 :: un 20 [], σ := [] } by kernel_rfl]
    exact h0
  cases r0 with
  | e0 =>
    obtain ⟨rfl⟩ := hr0
    cases h
    exact call_pathL (gs := [.a, .lp (VX.exit 0) (s19v3_0_0)]) (notIn []) rfl rfl (by kernel_rfl) (And.intro h0 True.intro)
/-! ## 24 -/
noncomputable abbrev B24 : Code := (Try.f24.body).getD .skip
inductive R24_0 where
  | e0
  | e1
  | e2
  | e3
  | e4
  | e5
  | e6
  | e7
  | e8
@[reducible] def s24_0_0 (l669 : List (List V)) (l670 : List (List V)) (z671 : Int) (z672 : Int) (b673 : Bool) (b674 : Bool) (l675 : List (List V)) (b676 : Bool) (l677 : List (List V)) (b678 : Bool) : S := { T := V.list 2 l669 :: V.list 2 l670 :: U :: U :: vb false :: i64 z671 :: un 5 [i64 z671, V.list 2 l669, i64 z672, vb b673, U, U, V.list 2 l669, i64 z671, V.pp [vb b674, V.list 2 l675], V.pp [vb b674, V.list 2 l675], vb b674, V.list 2 l670, i64 z671, V.pp [vb b676, V.list 2 l677], V.pp [vb b676, V.list 2 l677], vb b676, vb b678, vb b678, E, E, E, E, E, E, E, E, E, E, E, E, vb true], σ := [] }
@[reducible] def s24_0_1 (l680 : List (List V)) (l681 : List (List V)) (z682 : Int) (z683 : Int) (b684 : Bool) (b685 : Bool) (l686 : List (List V)) (b687 : Bool) (l688 : List (List V)) (b689 : Bool) (b690 : Bool) (b691 : Bool) : S := { T := V.list 2 l680 :: V.list 2 l681 :: U :: U :: vb false :: i64 z682 :: un 5 [i64 z682, V.list 2 l680, i64 z683, vb b684, U, U, V.list 2 l680, i64 z682, V.pp [vb b685, V.list 2 l686], V.pp [vb b685, V.list 2 l686], vb b685, V.list 2 l681, i64 z682, V.pp [vb b687, V.list 2 l688], V.pp [vb b687, V.list 2 l688], vb b687, vb b689, vb b689, V.list 2 l680, i64 z682, V.pp [vb b685, V.list 2 l686], V.pp [V.list 2 l686], V.list 2 l686, V.list 2 l681, i64 z682, V.pp [vb b687, V.list 2 l688], V.pp [V.list 2 l688], V.list 2 l688, vb b690, vb b691, vb b691], σ := [] }
@[reducible] def s24_0_2 (l693 : List (List V)) (l694 : List (List V)) (z695 : Int) (z696 : Int) (b697 : Bool) (b698 : Bool) (l699 : List (List V)) (b700 : Bool) (b701 : Bool) : S := { T := V.list 2 l693 :: V.list 2 l694 :: U :: U :: vb false :: i64 z695 :: un 5 [i64 z695, V.list 2 l693, i64 z696, vb b697, U, U, V.list 2 l693, i64 z695, V.pp [vb b698, V.list 2 l699], V.pp [vb b698, V.list 2 l699], vb b698, V.list 2 l694, i64 z695, V.pp [vb b700, V.nilS], V.pp [vb b700, V.nilS], vb b700, vb b701, vb b701, E, E, E, E, E, E, E, E, E, E, E, E, vb true], σ := [] }
@[reducible] def s24_0_3 (l703 : List (List V)) (l704 : List (List V)) (z705 : Int) (z706 : Int) (b707 : Bool) (b708 : Bool) (l709 : List (List V)) (b710 : Bool) (b711 : Bool) (b712 : Bool) (b713 : Bool) : S := { T := V.list 2 l703 :: V.list 2 l704 :: U :: U :: vb false :: i64 z705 :: un 5 [i64 z705, V.list 2 l703, i64 z706, vb b707, U, U, V.list 2 l703, i64 z705, V.pp [vb b708, V.list 2 l709], V.pp [vb b708, V.list 2 l709], vb b708, V.list 2 l704, i64 z705, V.pp [vb b710, V.nilS], V.pp [vb b710, V.nilS], vb b710, vb b711, vb b711, V.list 2 l703, i64 z705, V.pp [vb b708, V.list 2 l709], V.pp [V.list 2 l709], V.list 2 l709, V.list 2 l704, i64 z705, V.pp [vb b710, V.nilS], V.pp [V.nilS], V.nilS, vb b712, vb b713, vb b713], σ := [] }
@[reducible] def s24_0_4 (l716 : List (List V)) (l717 : List (List V)) (z718 : Int) (z719 : Int) (b720 : Bool) (b721 : Bool) (b722 : Bool) (l723 : List (List V)) (b724 : Bool) : S := { T := V.list 2 l716 :: V.list 2 l717 :: U :: U :: vb false :: i64 z718 :: un 5 [i64 z718, V.list 2 l716, i64 z719, vb b720, U, U, V.list 2 l716, i64 z718, V.pp [vb b721, V.nilS], V.pp [vb b721, V.nilS], vb b721, V.list 2 l717, i64 z718, V.pp [vb b722, V.list 2 l723], V.pp [vb b722, V.list 2 l723], vb b722, vb b724, vb b724, E, E, E, E, E, E, E, E, E, E, E, E, vb true], σ := [] }
@[reducible] def s24_0_5 (l726 : List (List V)) (l727 : List (List V)) (z728 : Int) (z729 : Int) (b730 : Bool) (b731 : Bool) (b732 : Bool) (l733 : List (List V)) (b734 : Bool) (b735 : Bool) (b736 : Bool) : S := { T := V.list 2 l726 :: V.list 2 l727 :: U :: U :: vb false :: i64 z728 :: un 5 [i64 z728, V.list 2 l726, i64 z729, vb b730, U, U, V.list 2 l726, i64 z728, V.pp [vb b731, V.nilS], V.pp [vb b731, V.nilS], vb b731, V.list 2 l727, i64 z728, V.pp [vb b732, V.list 2 l733], V.pp [vb b732, V.list 2 l733], vb b732, vb b734, vb b734, V.list 2 l726, i64 z728, V.pp [vb b731, V.nilS], V.pp [V.nilS], V.nilS, V.list 2 l727, i64 z728, V.pp [vb b732, V.list 2 l733], V.pp [V.list 2 l733], V.list 2 l733, vb b735, vb b736, vb b736], σ := [] }
@[reducible] def s24_0_6 (l738 : List (List V)) (l739 : List (List V)) (z740 : Int) (z741 : Int) (b742 : Bool) (b743 : Bool) (b744 : Bool) (b745 : Bool) : S := { T := V.list 2 l738 :: V.list 2 l739 :: U :: U :: vb false :: i64 z740 :: un 5 [i64 z740, V.list 2 l738, i64 z741, vb b742, U, U, V.list 2 l738, i64 z740, V.pp [vb b743, V.nilS], V.pp [vb b743, V.nilS], vb b743, V.list 2 l739, i64 z740, V.pp [vb b744, V.nilS], V.pp [vb b744, V.nilS], vb b744, vb b745, vb b745, E, E, E, E, E, E, E, E, E, E, E, E, vb true], σ := [] }
@[reducible] def s24_0_7 (l747 : List (List V)) (l748 : List (List V)) (z749 : Int) (z750 : Int) (b751 : Bool) (b752 : Bool) (b753 : Bool) (b754 : Bool) (b755 : Bool) (b756 : Bool) : S := { T := V.list 2 l747 :: V.list 2 l748 :: U :: U :: vb false :: i64 z749 :: un 5 [i64 z749, V.list 2 l747, i64 z750, vb b751, U, U, V.list 2 l747, i64 z749, V.pp [vb b752, V.nilS], V.pp [vb b752, V.nilS], vb b752, V.list 2 l748, i64 z749, V.pp [vb b753, V.nilS], V.pp [vb b753, V.nilS], vb b753, vb b754, vb b754, V.list 2 l747, i64 z749, V.pp [vb b752, V.nilS], V.pp [V.nilS], V.nilS, V.list 2 l748, i64 z749, V.pp [vb b753, V.nilS], V.pp [V.nilS], V.nilS, vb b755, vb b756, vb b756], σ := [] }
@[reducible] def s24_0_8 (l757 : List (List V)) (l758 : List (List V)) (z759 : Int) (z760 : Int) (b761 : Bool) : S := { T := V.list 2 l757 :: V.list 2 l758 :: U :: U :: U :: i64 z759 :: un 5 (i64 z759 :: V.list 2 l757 :: i64 z760 :: vb b761 :: un 27 []), σ := [] }
def R24_0.St : R24_0 → VX × S → Prop
  | .e0, p => ∃ l669 : List (List V), ∃ l670 : List (List V), ∃ z671 : Int, ∃ z672 : Int, ∃ b673 : Bool, ∃ b674 : Bool, ∃ l675 : List (List V), ∃ b676 : Bool, ∃ l677 : List (List V), ∃ b678 : Bool, p = (VX.ret, s24_0_0 l669 l670 z671 z672 b673 b674 l675 b676 l677 b678)
  | .e1, p => ∃ l680 : List (List V), ∃ l681 : List (List V), ∃ z682 : Int, ∃ z683 : Int, ∃ b684 : Bool, ∃ b685 : Bool, ∃ l686 : List (List V), ∃ b687 : Bool, ∃ l688 : List (List V), ∃ b689 : Bool, ∃ b690 : Bool, ∃ b691 : Bool, p = (VX.ret, s24_0_1 l680 l681 z682 z683 b684 b685 l686 b687 l688 b689 b690 b691)
  | .e2, p => ∃ l693 : List (List V), ∃ l694 : List (List V), ∃ z695 : Int, ∃ z696 : Int, ∃ b697 : Bool, ∃ b698 : Bool, ∃ l699 : List (List V), ∃ b700 : Bool, ∃ b701 : Bool, p = (VX.ret, s24_0_2 l693 l694 z695 z696 b697 b698 l699 b700 b701)
  | .e3, p => ∃ l703 : List (List V), ∃ l704 : List (List V), ∃ z705 : Int, ∃ z706 : Int, ∃ b707 : Bool, ∃ b708 : Bool, ∃ l709 : List (List V), ∃ b710 : Bool, ∃ b711 : Bool, ∃ b712 : Bool, ∃ b713 : Bool, p = (VX.ret, s24_0_3 l703 l704 z705 z706 b707 b708 l709 b710 b711 b712 b713)
  | .e4, p => ∃ l716 : List (List V), ∃ l717 : List (List V), ∃ z718 : Int, ∃ z719 : Int, ∃ b720 : Bool, ∃ b721 : Bool, ∃ b722 : Bool, ∃ l723 : List (List V), ∃ b724 : Bool, p = (VX.ret, s24_0_4 l716 l717 z718 z719 b720 b721 b722 l723 b724)
  | .e5, p => ∃ l726 : List (List V), ∃ l727 : List (List V), ∃ z728 : Int, ∃ z729 : Int, ∃ b730 : Bool, ∃ b731 : Bool, ∃ b732 : Bool, ∃ l733 : List (List V), ∃ b734 : Bool, ∃ b735 : Bool, ∃ b736 : Bool, p = (VX.ret, s24_0_5 l726 l727 z728 z729 b730 b731 b732 l733 b734 b735 b736)
  | .e6, p => ∃ l738 : List (List V), ∃ l739 : List (List V), ∃ z740 : Int, ∃ z741 : Int, ∃ b742 : Bool, ∃ b743 : Bool, ∃ b744 : Bool, ∃ b745 : Bool, p = (VX.ret, s24_0_6 l738 l739 z740 z741 b742 b743 b744 b745)
  | .e7, p => ∃ l747 : List (List V), ∃ l748 : List (List V), ∃ z749 : Int, ∃ z750 : Int, ∃ b751 : Bool, ∃ b752 : Bool, ∃ b753 : Bool, ∃ b754 : Bool, ∃ b755 : Bool, ∃ b756 : Bool, p = (VX.ret, s24_0_7 l747 l748 z749 z750 b751 b752 b753 b754 b755 b756)
  | .e8, p => ∃ l757 : List (List V), ∃ l758 : List (List V), ∃ z759 : Int, ∃ z760 : Int, ∃ b761 : Bool, p = (VX.exit 0, s24_0_8 l757 l758 z759 z760 b761)
def L24_0 : Nat → List (List V) → List (List V) → Int → Option R24_0
  | 0, _, _, _ => none
  | n + 1, l493, l494, z495 =>
    if z495 < (↑(List.length l493) : Int) then
     if 0 ≤ z495 then
      orE ((l493[Int.toNat z495]?).bind W25.dec) (fun e667 =>
       orE ((l494[Int.toNat z495]?).bind W25.dec) (fun e668 =>
        if (!e667.c0 == e668.c0) = true then
         some (R24_0.e0)
        else
         (F19 (e667.2) (e668.2)).bind fun r => match r with
         | .a0 b679 =>
          if (!b679) = true then
           some (R24_0.e1)
          else
           L24_0 n (l493) (l494) (w64 (z495 + 1))
       )
       (
        ((l494[Int.toNat z495]?).bind W25n.dec).bind fun e692 =>
        if (!e667.c0 == e692.c0) = true then
         some (R24_0.e2)
        else
         (F19v1 (e667.2)).bind fun r => match r with
         | .a0 b702 =>
          if (!b702) = true then
           some (R24_0.e3)
          else
           L24_0 n (l493) (l494) (w64 (z495 + 1))
       )
      )
      (
       ((l493[Int.toNat z495]?).bind W25n.dec).bind fun e714 =>
       orE ((l494[Int.toNat z495]?).bind W25.dec) (fun e715 =>
        if (!e714.c0 == e715.c0) = true then
         some (R24_0.e4)
        else
         (F19v2 (e715.2)).bind fun r => match r with
         | .a0 b725 =>
          if (!b725) = true then
           some (R24_0.e5)
          else
           L24_0 n (l493) (l494) (w64 (z495 + 1))
       )
       (
        ((l494[Int.toNat z495]?).bind W25n.dec).bind fun e737 =>
        if (!e714.c0 == e737.c0) = true then
         some (R24_0.e6)
        else
         (F19v3).bind fun r => match r with
         | .a0 b746 =>
          if (!b746) = true then
           some (R24_0.e7)
          else
           L24_0 n (l493) (l494) (w64 (z495 + 1))
       )
      )
     else
      none -- none
    else
     some (R24_0.e8)
theorem L24_0_ok (m : Nat) : ∀ (n : Nat) (l493 : List (List V)) (l494 : List (List V)) (z495 : Int) (r : R24_0), L24_0 n l493 l494 z495 = some r → ∃ st, loopFrom Try.prog X (call Try.prog X O0 100000 (m + 1)) 24 (0) 100000 B24 0 n ({ T := V.list 2 l493 :: V.list 2 l494 :: U :: U :: U :: i64 z495 :: un 36 [], σ := [] }) = some st ∧ r.St st
  | 0, _, _, _, r, h => by cases h
  | n + 1, l493, l494, z495, r, h => by
    rw [L24_0] at h
    rcases ite_eq h with ⟨h0, h⟩ | ⟨h0, h⟩
    · skip
      rcases ite_eq h with ⟨h1, h⟩ | ⟨h1, h⟩
      · skip
        rcases orE_eq h with ⟨e667, h2, h⟩ | ⟨h2, h⟩
        · skip
          rcases orE_eq h with ⟨e668, h3, h⟩ | ⟨h3, h⟩
          · skip
            rcases ite_eq h with ⟨h4, h⟩ | ⟨h4, h⟩
            · skip
              cases h
              exact ⟨_, round_out (gs := [.t, .t, .el (W25.cells e667), .t, .el (W25.cells e668), .t, .t, .t, .t, .t, .t, .t, .t, .t, .t, .t, .t, .t, .ft [⟨0, [], []⟩, ⟨1, [], []⟩, ⟨2, [], []⟩, ⟨3, [], []⟩, ⟨4, [], []⟩, ⟨5, [], []⟩, ⟨6, [], []⟩, ⟨7, [], []⟩, ⟨8, [], []⟩, ⟨9, [], []⟩, ⟨10, [], []⟩, ⟨11, [], []⟩, ⟨12, [], []⟩, ⟨13, [], []⟩, ⟨14, [], []⟩, ⟨15, [], []⟩, ⟨16, [], []⟩, ⟨17, [], []⟩, ⟨18, [], []⟩, ⟨19, [], []⟩, ⟨20, [], []⟩, ⟨21, [], []⟩, ⟨22, [], []⟩, ⟨23, [], []⟩, ⟨24, [], []⟩], .a]) (notIn []) (by kernel_rfl) rfl (And.intro (decide_eq_true h0) (And.intro (decide_eq_true h1) (And.intro (W25.dec_ok h2) (And.intro (decide_eq_true h1) (And.intro (W25.dec_ok h3) (And.intro h4 (And.intro h4 (And.intro h4 (And.intro h4 (And.intro h4 (And.intro h4 (And.intro h4 (And.intro h4 (And.intro h4 (And.intro h4 (And.intro h4 (And.intro h4 (And.intro h4 (And.intro (Eq.refl ([⟨0, [], []⟩, ⟨1, [], []⟩, ⟨2, [], []⟩, ⟨3, [], []⟩, ⟨4, [], []⟩, ⟨5, [], []⟩, ⟨6, [], []⟩, ⟨7, [], []⟩, ⟨8, [], []⟩, ⟨9, [], []⟩, ⟨10, [], []⟩, ⟨11, [], []⟩, ⟨12, [], []⟩, ⟨13, [], []⟩, ⟨14, [], []⟩, ⟨15, [], []⟩, ⟨16, [], []⟩, ⟨17, [], []⟩, ⟨18, [], []⟩, ⟨19, [], []⟩, ⟨20, [], []⟩, ⟨21, [], []⟩, ⟨22, [], []⟩, ⟨23, [], []⟩, ⟨24, [], []⟩] : List Foot)) True.intro))))))))))))))))))) n, l493, l494, z495, (↑(List.length l493) : Int), decide (z495 < (↑(List.length l493) : Int)), e667.c0, e667.2, e668.c0, e668.2, !e667.c0 == e668.c0, rfl⟩
            · skip
              obtain ⟨r5, h5, h⟩ := Option.bind_eq_some_iff.mp h
              have h5 := F19_ok (m + 0) (e667.2) (e668.2) r5 h5
              cases r5 with
              | a0 b679 =>
                rcases ite_eq h with ⟨h6, h⟩ | ⟨h6, h⟩
                · skip
                  cases h
                  exact ⟨_, round_out (gs := [.t, .t, .el (W25.cells e667), .t, .el (W25.cells e668), .f, .f, .f, .t, .el (W25.cells e667), .f, .f, .f, .f, .f, .t, .el (W25.cells e668), .f, .f, .f, .an (vb b679) [], .f, .f, .ft [⟨0, [], []⟩, ⟨1, [], []⟩, ⟨2, [], []⟩, ⟨3, [], []⟩, ⟨4, [], []⟩, ⟨5, [], []⟩, ⟨6, [], []⟩, ⟨7, [], []⟩, ⟨8, [], []⟩, ⟨9, [], []⟩, ⟨10, [], []⟩, ⟨11, [], []⟩, ⟨12, [], []⟩, ⟨13, [], []⟩, ⟨14, [], []⟩, ⟨15, [], []⟩, ⟨16, [], []⟩, ⟨17, [], []⟩, ⟨18, [], []⟩, ⟨19, [], []⟩, ⟨20, [], []⟩, ⟨21, [], []⟩, ⟨22, [], []⟩, ⟨23, [], []⟩, ⟨24, [], []⟩], .t]) (notIn []) (by kernel_rfl) rfl (And.intro (decide_eq_true h0) (And.intro (decide_eq_true h1) (And.intro (W25.dec_ok h2) (And.intro (decide_eq_true h1) (And.intro (W25.dec_ok h3) (And.intro (Bool.eq_false_iff.mpr h4) (And.intro (Bool.eq_false_iff.mpr h4) (And.intro (Bool.eq_false_iff.mpr h4) (And.intro (decide_eq_true h1) (And.intro (W25.dec_ok h2) (And.intro (Bool.eq_false_iff.mpr h4) (And.intro (Bool.eq_false_iff.mpr h4) (And.intro (Bool.eq_false_iff.mpr h4) (And.intro (Bool.eq_false_iff.mpr h4) (And.intro (Bool.eq_false_iff.mpr h4) (And.intro (decide_eq_true h1) (And.intro (W25.dec_ok h3) (And.intro (Bool.eq_false_iff.mpr h4) (And.intro (Bool.eq_false_iff.mpr h4) (And.intro (Bool.eq_false_iff.mpr h4) (And.intro h5 (And.intro (Bool.eq_false_iff.mpr h4) (And.intro (Bool.eq_false_iff.mpr h4) (And.intro (Eq.refl ([⟨0, [], []⟩, ⟨1, [], []⟩, ⟨2, [], []⟩, ⟨3, [], []⟩, ⟨4, [], []⟩, ⟨5, [], []⟩, ⟨6, [], []⟩, ⟨7, [], []⟩, ⟨8, [], []⟩, ⟨9, [], []⟩, ⟨10, [], []⟩, ⟨11, [], []⟩, ⟨12, [], []⟩, ⟨13, [], []⟩, ⟨14, [], []⟩, ⟨15, [], []⟩, ⟨16, [], []⟩, ⟨17, [], []⟩, ⟨18, [], []⟩, ⟨19, [], []⟩, ⟨20, [], []⟩, ⟨21, [], []⟩, ⟨22, [], []⟩, ⟨23, [], []⟩, ⟨24, [], []⟩] : List Foot)) (And.intro h6 True.intro))))))))))))))))))))))))) n, l493, l494, z495, (↑(List.length l493) : Int), decide (z495 < (↑(List.length l493) : Int)), e667.c0, e667.2, e668.c0, e668.2, !e667.c0 == e668.c0, b679, !b679, rfl⟩
                · skip
                  obtain ⟨st, hs, hr⟩ := L24_0_ok m n (l493) (l494) (w64 (z495 + 1)) r h
                  exact ⟨st, (round_on (gs := [.t, .t, .el (W25.cells e667), .t, .el (W25.cells e668), .f, .f, .f, .t, .el (W25.cells e667), .f, .f, .f, .f, .f, .t, .el (W25.cells e668), .f, .f, .f, .an (vb b679) [], .f, .f, .ft [⟨0, [], []⟩, ⟨1, [], []⟩, ⟨2, [], []⟩, ⟨3, [], []⟩, ⟨4, [], []⟩, ⟨5, [], []⟩, ⟨6, [], []⟩, ⟨7, [], []⟩, ⟨8, [], []⟩, ⟨9, [], []⟩, ⟨10, [], []⟩, ⟨11, [], []⟩, ⟨12, [], []⟩, ⟨13, [], []⟩, ⟨14, [], []⟩, ⟨15, [], []⟩, ⟨16, [], []⟩, ⟨17, [], []⟩, ⟨18, [], []⟩, ⟨19, [], []⟩, ⟨20, [], []⟩, ⟨21, [], []⟩, ⟨22, [], []⟩, ⟨23, [], []⟩, ⟨24, [], []⟩], .f]) (notIn []) (by kernel_rfl) (And.intro (decide_eq_true h0) (And.intro (decide_eq_true h1) (And.intro (W25.dec_ok h2) (And.intro (decide_eq_true h1) (And.intro (W25.dec_ok h3) (And.intro (Bool.eq_false_iff.mpr h4) (And.intro (Bool.eq_false_iff.mpr h4) (And.intro (Bool.eq_false_iff.mpr h4) (And.intro (decide_eq_true h1) (And.intro (W25.dec_ok h2) (And.intro (Bool.eq_false_iff.mpr h4) (And.intro (Bool.eq_false_iff.mpr h4) (And.intro (Bool.eq_false_iff.mpr h4) (And.intro (Bool.eq_false_iff.mpr h4) (And.intro (Bool.eq_false_iff.mpr h4) (And.intro (decide_eq_true h1) (And.intro (W25.dec_ok h3) (And.intro (Bool.eq_false_iff.mpr h4) (And.intro (Bool.eq_false_iff.mpr h4) (And.intro (Bool.eq_false_iff.mpr h4) (And.intro h5 (And.intro (Bool.eq_false_iff.mpr h4) (And.intro (Bool.eq_false_iff.mpr h4) (And.intro (Eq.refl ([⟨0, [], []⟩, ⟨1, [], []⟩, ⟨2, [], []⟩, ⟨3, [], []⟩, ⟨4, [], []⟩, ⟨5, [], []⟩, ⟨6, [], []⟩, ⟨7, [], []⟩, ⟨8, [], []⟩, ⟨9, [], []⟩, ⟨10, [], []⟩, ⟨11, [], []⟩, ⟨12, [], []⟩, ⟨13, [], []⟩, ⟨14, [], []⟩, ⟨15, [], []⟩, ⟨16, [], []⟩, ⟨17, [], []⟩, ⟨18, [], []⟩, ⟨19, [], []⟩, ⟨20, [], []⟩, ⟨21, [], []⟩, ⟨22, [], []⟩, ⟨23, [], []⟩, ⟨24, [], []⟩] : List Foot)) (And.intro (Bool.eq_false_iff.mpr h6) True.intro))))))))))))))))))))))))) n).trans hs, hr⟩
          · skip
            obtain ⟨e692, h4, h⟩ := Option.bind_eq_some_iff.mp h
            rcases ite_eq h with ⟨h5, h⟩ | ⟨h5, h⟩
            · skip
              cases h
              exact ⟨_, round_out (gs := [.t, .t, .el (W25.cells e667), .t, .el (W25n.cells e692), .t, .t, .t, .t, .t, .t, .t, .t, .t, .t, .t, .t, .t, .ft [⟨0, [], []⟩, ⟨1, [], []⟩, ⟨2, [], []⟩, ⟨3, [], []⟩, ⟨4, [], []⟩, ⟨5, [], []⟩, ⟨6, [], []⟩, ⟨7, [], []⟩, ⟨8, [], []⟩, ⟨9, [], []⟩, ⟨10, [], []⟩, ⟨11, [], []⟩, ⟨12, [], []⟩, ⟨13, [], []⟩, ⟨14, [], []⟩, ⟨15, [], []⟩, ⟨16, [], []⟩, ⟨17, [], []⟩, ⟨18, [], []⟩, ⟨19, [], []⟩, ⟨20, [], []⟩, ⟨21, [], []⟩, ⟨22, [], []⟩, ⟨23, [], []⟩, ⟨24, [], []⟩], .a]) (notIn []) (by kernel_rfl) rfl (And.intro (decide_eq_true h0) (And.intro (decide_eq_true h1) (And.intro (W25.dec_ok h2) (And.intro (decide_eq_true h1) (And.intro (W25n.dec_ok h4) (And.intro h5 (And.intro h5 (And.intro h5 (And.intro h5 (And.intro h5 (And.intro h5 (And.intro h5 (And.intro h5 (And.intro h5 (And.intro h5 (And.intro h5 (And.intro h5 (And.intro h5 (And.intro (Eq.refl ([⟨0, [], []⟩, ⟨1, [], []⟩, ⟨2, [], []⟩, ⟨3, [], []⟩, ⟨4, [], []⟩, ⟨5, [], []⟩, ⟨6, [], []⟩, ⟨7, [], []⟩, ⟨8, [], []⟩, ⟨9, [], []⟩, ⟨10, [], []⟩, ⟨11, [], []⟩, ⟨12, [], []⟩, ⟨13, [], []⟩, ⟨14, [], []⟩, ⟨15, [], []⟩, ⟨16, [], []⟩, ⟨17, [], []⟩, ⟨18, [], []⟩, ⟨19, [], []⟩, ⟨20, [], []⟩, ⟨21, [], []⟩, ⟨22, [], []⟩, ⟨23, [], []⟩, ⟨24, [], []⟩] : List Foot)) True.intro))))))))))))))))))) n, l493, l494, z495, (↑(List.length l493) : Int), decide (z495 < (↑(List.length l493) : Int)), e667.c0, e667.2, e692.c0, !e667.c0 == e692.c0, rfl⟩
            · skip
              obtain ⟨r6, h6, h⟩ := Option.bind_eq_some_iff.mp h
              have h6 := F19v1_ok (m + 0) (e667.2) r6 h6
              cases r6 with
              | a0 b702 =>
                rcases ite_eq h with ⟨h7, h⟩ | ⟨h7, h⟩
                · skip
                  cases h
                  exact ⟨_, round_out (gs := [.t, .t, .el (W25.cells e667), .t, .el (W25n.cells e692), .f, .f, .f, .t, .el (W25.cells e667), .f, .f, .f, .f, .f, .t, .el (W25n.cells e692), .f, .f, .f, .an (vb b702) [], .f, .f, .ft [⟨0, [], []⟩, ⟨1, [], []⟩, ⟨2, [], []⟩, ⟨3, [], []⟩, ⟨4, [], []⟩, ⟨5, [], []⟩, ⟨6, [], []⟩, ⟨7, [], []⟩, ⟨8, [], []⟩, ⟨9, [], []⟩, ⟨10, [], []⟩, ⟨11, [], []⟩, ⟨12, [], []⟩, ⟨13, [], []⟩, ⟨14, [], []⟩, ⟨15, [], []⟩, ⟨16, [], []⟩, ⟨17, [], []⟩, ⟨18, [], []⟩, ⟨19, [], []⟩, ⟨20, [], []⟩, ⟨21, [], []⟩, ⟨22, [], []⟩, ⟨23, [], []⟩, ⟨24, [], []⟩], .t]) (notIn []) (by kernel_rfl) rfl (And.intro (decide_eq_true h0) (And.intro (decide_eq_true h1) (And.intro (W25.dec_ok h2) (And.intro (decide_eq_true h1) (And.intro (W25n.dec_ok h4) (And.intro (Bool.eq_false_iff.mpr h5) (And.intro (Bool.eq_false_iff.mpr h5) (And.intro (Bool.eq_false_iff.mpr h5) (And.intro (decide_eq_true h1) (And.intro (W25.dec_ok h2) (And.intro (Bool.eq_false_iff.mpr h5) (And.intro (Bool.eq_false_iff.mpr h5) (And.intro (Bool.eq_false_iff.mpr h5) (And.intro (Bool.eq_false_iff.mpr h5) (And.intro (Bool.eq_false_iff.mpr h5) (And.intro (decide_eq_true h1) (And.intro (W25n.dec_ok h4) (And.intro (Bool.eq_false_iff.mpr h5) (And.intro (Bool.eq_false_iff.mpr h5) (And.intro (Bool.eq_false_iff.mpr h5) (And.intro h6 (And.intro (Bool.eq_false_iff.mpr h5) (And.intro (Bool.eq_false_iff.mpr h5) (And.intro (Eq.refl ([⟨0, [], []⟩, ⟨1, [], []⟩, ⟨2, [], []⟩, ⟨3, [], []⟩, ⟨4, [], []⟩, ⟨5, [], []⟩, ⟨6, [], []⟩, ⟨7, [], []⟩, ⟨8, [], []⟩, ⟨9, [], []⟩, ⟨10, [], []⟩, ⟨11, [], []⟩, ⟨12, [], []⟩, ⟨13, [], []⟩, ⟨14, [], []⟩, ⟨15, [], []⟩, ⟨16, [], []⟩, ⟨17, [], []⟩, ⟨18, [], []⟩, ⟨19, [], []⟩, ⟨20, [], []⟩, ⟨21, [], []⟩, ⟨22, [], []⟩, ⟨23, [], []⟩, ⟨24, [], []⟩] : List Foot)) (And.intro h7 True.intro))))))))))))))))))))))))) n, l493, l494, z495, (↑(List.length l493) : Int), decide (z495 < (↑(List.length l493) : Int)), e667.c0, e667.2, e692.c0, !e667.c0 == e692.c0, b702, !b702, rfl⟩
                · skip
                  obtain ⟨st, hs, hr⟩ := L24_0_ok m n (l493) (l494) (w64 (z495 + 1)) r h
                  exact ⟨st, (round_on (gs := [.t, .t, .el (W25.cells e667), .t, .el (W25n.cells e692), .f, .f, .f, .t, .el (W25.cells e667), .f, .f, .f, .f, .f, .t, .el (W25n.cells e692), .f, .f, .f, .an (vb b702) [], .f, .f, .ft [⟨0, [], []⟩, ⟨1, [], []⟩, ⟨2, [], []⟩, ⟨3, [], []⟩, ⟨4, [], []⟩, ⟨5, [], []⟩, ⟨6, [], []⟩, ⟨7, [], []⟩, ⟨8, [], []⟩, ⟨9, [], []⟩, ⟨10, [], []⟩, ⟨11, [], []⟩, ⟨12, [], []⟩, ⟨13, [], []⟩, ⟨14, [], []⟩, ⟨15, [], []⟩, ⟨16, [], []⟩, ⟨17, [], []⟩, ⟨18, [], []⟩, ⟨19, [], []⟩, ⟨20, [], []⟩, ⟨21, [], []⟩, ⟨22, [], []⟩, ⟨23, [], []⟩, ⟨24, [], []⟩], .f]) (notIn []) (by kernel_rfl) (And.intro (decide_eq_true h0) (And.intro (decide_eq_true h1) (And.intro (W25.dec_ok h2) (And.intro (decide_eq_true h1) (And.intro (W25n.dec_ok h4) (And.intro (Bool.eq_false_iff.mpr h5) (And.intro (Bool.eq_false_iff.mpr h5) (And.intro (Bool.eq_false_iff.mpr h5) (And.intro (decide_eq_true h1) (And.intro (W25.dec_ok h2) (And.intro (Bool.eq_false_iff.mpr h5) (And.intro (Bool.eq_false_iff.mpr h5) (And.intro (Bool.eq_false_iff.mpr h5) (And.intro (Bool.eq_false_iff.mpr h5) (And.intro (Bool.eq_false_iff.mpr h5) (And.intro (decide_eq_true h1) (And.intro (W25n.dec_ok h4) (And.intro (Bool.eq_false_iff.mpr h5) (And.intro (Bool.eq_false_iff.mpr h5) (And.intro (Bool.eq_false_iff.mpr h5) (And.intro h6 (And.intro (Bool.eq_false_iff.mpr h5) (And.intro (Bool.eq_false_iff.mpr h5) (And.intro (Eq.refl ([⟨0, [], []⟩, ⟨1, [], []⟩, ⟨2, [], []⟩, ⟨3, [], []⟩, ⟨4, [], []⟩, ⟨5, [], []⟩, ⟨6, [], []⟩, ⟨7, [], []⟩, ⟨8, [], []⟩, ⟨9, [], []⟩, ⟨10, [], []⟩, ⟨11, [], []⟩, ⟨12, [], []⟩, ⟨13, [], []⟩, ⟨14, [], []⟩, ⟨15, [], []⟩, ⟨16, [], []⟩, ⟨17, [], []⟩, ⟨18, [], []⟩, ⟨19, [], []⟩, ⟨20, [], []⟩, ⟨21, [], []⟩, ⟨22, [], []⟩, ⟨23, [], []⟩, ⟨24, [], []⟩] : List Foot)) (And.intro (Bool.eq_false_iff.mpr h7) True.intro))))))))))))))))))))))))) n).trans hs, hr⟩
        · skip
          obtain ⟨e714, h3, h⟩ := Option.bind_eq_some_iff.mp h
          rcases orE_eq h with ⟨e715, h4, h⟩ | ⟨h4, h⟩
          · skip
            rcases ite_eq h with ⟨h5, h⟩ | ⟨h5, h⟩
            · skip
              cases h
              exact ⟨_, round_out (gs := [.t, .t, .el (W25n.cells e714), .t, .el (W25.cells e715), .t, .t, .t, .t, .t, .t, .t, .t, .t, .t, .t, .t, .t, .ft [⟨0, [], []⟩, ⟨1, [], []⟩, ⟨2, [], []⟩, ⟨3, [], []⟩, ⟨4, [], []⟩, ⟨5, [], []⟩, ⟨6, [], []⟩, ⟨7, [], []⟩, ⟨8, [], []⟩, ⟨9, [], []⟩, ⟨10, [], []⟩, ⟨11, [], []⟩, ⟨12, [], []⟩, ⟨13, [], []⟩, ⟨14, [], []⟩, ⟨15, [], []⟩, ⟨16, [], []⟩, ⟨17, [], []⟩, ⟨18, [], []⟩, ⟨19, [], []⟩, ⟨20, [], []⟩, ⟨21, [], []⟩, ⟨22, [], []⟩, ⟨23, [], []⟩, ⟨24, [], []⟩], .a]) (notIn []) (by kernel_rfl) rfl (And.intro (decide_eq_true h0) (And.intro (decide_eq_true h1) (And.intro (W25n.dec_ok h3) (And.intro (decide_eq_true h1) (And.intro (W25.dec_ok h4) (And.intro h5 (And.intro h5 (And.intro h5 (And.intro h5 (And.intro h5 (And.intro h5 (And.intro h5 (And.intro h5 (And.intro h5 (And.intro h5 (And.intro h5 (And.intro h5 (And.intro h5 (And.intro (Eq.refl ([⟨0, [], []⟩, ⟨1, [], []⟩, ⟨2, [], []⟩, ⟨3, [], []⟩, ⟨4, [], []⟩, ⟨5, [], []⟩, ⟨6, [], []⟩, ⟨7, [], []⟩, ⟨8, [], []⟩, ⟨9, [], []⟩, ⟨10, [], []⟩, ⟨11, [], []⟩, ⟨12, [], []⟩, ⟨13, [], []⟩, ⟨14, [], []⟩, ⟨15, [], []⟩, ⟨16, [], []⟩, ⟨17, [], []⟩, ⟨18, [], []⟩, ⟨19, [], []⟩, ⟨20, [], []⟩, ⟨21, [], []⟩, ⟨22, [], []⟩, ⟨23, [], []⟩, ⟨24, [], []⟩] : List Foot)) True.intro))))))))))))))))))) n, l493, l494, z495, (↑(List.length l493) : Int), decide (z495 < (↑(List.length l493) : Int)), e714.c0, e715.c0, e715.2, !e714.c0 == e715.c0, rfl⟩
            · skip
              obtain ⟨r6, h6, h⟩ := Option.bind_eq_some_iff.mp h
              have h6 := F19v2_ok (m + 0) (e715.2) r6 h6
              cases r6 with
              | a0 b725 =>
                rcases ite_eq h with ⟨h7, h⟩ | ⟨h7, h⟩
                · skip
                  cases h
                  exact ⟨_, round_out (gs := [.t, .t, .el (W25n.cells e714), .t, .el (W25.cells e715), .f, .f, .f, .t, .el (W25n.cells e714), .f, .f, .f, .f, .f, .t, .el (W25.cells e715), .f, .f, .f, .an (vb b725) [], .f, .f, .ft [⟨0, [], []⟩, ⟨1, [], []⟩, ⟨2, [], []⟩, ⟨3, [], []⟩, ⟨4, [], []⟩, ⟨5, [], []⟩, ⟨6, [], []⟩, ⟨7, [], []⟩, ⟨8, [], []⟩, ⟨9, [], []⟩, ⟨10, [], []⟩, ⟨11, [], []⟩, ⟨12, [], []⟩, ⟨13, [], []⟩, ⟨14, [], []⟩, ⟨15, [], []⟩, ⟨16, [], []⟩, ⟨17, [], []⟩, ⟨18, [], []⟩, ⟨19, [], []⟩, ⟨20, [], []⟩, ⟨21, [], []⟩, ⟨22, [], []⟩, ⟨23, [], []⟩, ⟨24, [], []⟩], .t]) (notIn []) (by kernel_rfl) rfl (And.intro (decide_eq_true h0) (And.intro (decide_eq_true h1) (And.intro (W25n.dec_ok h3) (And.intro (decide_eq_true h1) (And.intro (W25.dec_ok h4) (And.intro (Bool.eq_false_iff.mpr h5) (And.intro (Bool.eq_false_iff.mpr h5) (And.intro (Bool.eq_false_iff.mpr h5) (And.intro (decide_eq_true h1) (And.intro (W25n.dec_ok h3) (And.intro (Bool.eq_false_iff.mpr h5) (And.intro (Bool.eq_false_iff.mpr h5) (And.intro (Bool.eq_false_iff.mpr h5) (And.intro (Bool.eq_false_iff.mpr h5) (And.intro (Bool.eq_false_iff.mpr h5) (And.intro (decide_eq_true h1) (And.intro (W25.dec_ok h4) (And.intro (Bool.eq_false_iff.mpr h5) (And.intro (Bool.eq_false_iff.mpr h5) (And.intro (Bool.eq_false_iff.mpr h5) (And.intro h6 (And.intro (Bool.eq_false_iff.mpr h5) (And.intro (Bool.eq_false_iff.mpr h5) (And.intro (Eq.refl ([⟨0, [], []⟩, ⟨1, [], []⟩, ⟨2, [], []⟩, ⟨3, [], []⟩, ⟨4, [], []⟩, ⟨5, [], []⟩, ⟨6, [], []⟩, ⟨7, [], []⟩, ⟨8, [], []⟩, ⟨9, [], []⟩, ⟨10, [], []⟩, ⟨11, [], []⟩, ⟨12, [], []⟩, ⟨13, [], []⟩, ⟨14, [], []⟩, ⟨15, [], []⟩, ⟨16, [], []⟩, ⟨17, [], []⟩, ⟨18, [], []⟩, ⟨19, [], []⟩, ⟨20, [], []⟩, ⟨21, [], []⟩, ⟨22, [], []⟩, ⟨23, [], []⟩, ⟨24, [], []⟩] : List Foot)) (And.intro h7 True.intro))))))))))))))))))))))))) n, l493, l494, z495, (↑(List.length l493) : Int), decide (z495 < (↑(List.length l493) : Int)), e714.c0, e715.c0, e715.2, !e714.c0 == e715.c0, b725, !b725, rfl⟩
                · skip
                  obtain ⟨st, hs, hr⟩ := L24_0_ok m n (l493) (l494) (w64 (z495 + 1)) r h
                  exact ⟨st, (round_on (gs := [.t, .t, .el (W25n.cells e714), .t, .el (W25.cells e715), .f, .f, .f, .t, .el (W25n.cells e714), .f, .f, .f, .f, .f, .t, .el (W25.cells e715), .f, .f, .f, .an (vb b725) [], .f, .f, .ft [⟨0, [], []⟩, ⟨1, [], []⟩, ⟨2, [], []⟩, ⟨3, [], []⟩, ⟨4, [], []⟩, ⟨5, [], []⟩, ⟨6, [], []⟩, ⟨7, [], []⟩, ⟨8, [], []⟩, ⟨9, [], []⟩, ⟨10, [], []⟩, ⟨11, [], []⟩, ⟨12, [], []⟩, ⟨13, [], []⟩, ⟨14, [], []⟩, ⟨15, [], []⟩, ⟨16, [], []⟩, ⟨17, [], []⟩, ⟨18, [], []⟩, ⟨19, [], []⟩, ⟨20, [], []⟩, ⟨21, [], []⟩, ⟨22, [], []⟩, ⟨23, [], []⟩, ⟨24, [], []⟩], .f]) (notIn []) (by kernel_rfl) (And.intro (decide_eq_true h0) (And.intro (decide_eq_true h1) (And.intro (W25n.dec_ok h3) (And.intro (decide_eq_true h1) (And.intro (W25.dec_ok h4) (And.intro (Bool.eq_false_iff.mpr h5) (And.intro (Bool.eq_false_iff.mpr h5) (And.intro (Bool.eq_false_iff.mpr h5) (And.intro (decide_eq_true h1) (And.intro (W25n.dec_ok h3) (And.intro (Bool.eq_false_iff.mpr h5) (And.intro (Bool.eq_false_iff.mpr h5) (And.intro (Bool.eq_false_iff.mpr h5) (And.intro (Bool.eq_false_iff.mpr h5) (And.intro (Bool.eq_false_iff.mpr h5) (And.intro (decide_eq_true h1) (And.intro (W25.dec_ok h4) (And.intro (Bool.eq_false_iff.mpr h5) (And.intro (Bool.eq_false_iff.mpr h5) (And.intro (Bool.eq_false_iff.mpr h5) (And.intro h6 (And.intro (Bool.eq_false_iff.mpr h5) (And.intro (Bool.eq_false_iff.mpr h5) (And.intro (Eq.refl ([⟨0, [], []⟩, ⟨1, [], []⟩, ⟨2, [], []⟩, ⟨3, [], []⟩, ⟨4, [], []⟩, ⟨5, [], []⟩, ⟨6, [], []⟩, ⟨7, [], []⟩, ⟨8, [], []⟩, ⟨9, [], []⟩, ⟨10, [], []⟩, ⟨11, [], []⟩, ⟨12, [], []⟩, ⟨13, [], []⟩, ⟨14, [], []⟩, ⟨15, [], []⟩, ⟨16, [], []⟩, ⟨17, [], []⟩, ⟨18, [], []⟩, ⟨19, [], []⟩, ⟨20, [], []⟩, ⟨21, [], []⟩, ⟨22, [], []⟩, ⟨23, [], []⟩, ⟨24, [], []⟩] : List Foot)) (And.intro (Bool.eq_false_iff.mpr h7) True.intro))))))))))))))))))))))))) n).trans hs, hr⟩
          · skip
            obtain ⟨e737, h5, h⟩ := Option.bind_eq_some_iff.mp h
            rcases ite_eq h with ⟨h6, h⟩ | ⟨h6, h⟩
            · skip
              cases h
              exact ⟨_, round_out (gs := [.t, .t, .el (W25n.cells e714), .t, .el (W25n.cells e737), .t, .t, .t, .t, .t, .t, .t, .t, .t, .t, .t, .t, .t, .ft [⟨0, [], []⟩, ⟨1, [], []⟩, ⟨2, [], []⟩, ⟨3, [], []⟩, ⟨4, [], []⟩, ⟨5, [], []⟩, ⟨6, [], []⟩, ⟨7, [], []⟩, ⟨8, [], []⟩, ⟨9, [], []⟩, ⟨10, [], []⟩, ⟨11, [], []⟩, ⟨12, [], []⟩, ⟨13, [], []⟩, ⟨14, [], []⟩, ⟨15, [], []⟩, ⟨16, [], []⟩, ⟨17, [], []⟩, ⟨18, [], []⟩, ⟨19, [], []⟩, ⟨20, [], []⟩, ⟨21, [], []⟩, ⟨22, [], []⟩, ⟨23, [], []⟩, ⟨24, [], []⟩], .a]) (notIn []) (by kernel_rfl) rfl (And.intro (decide_eq_true h0) (And.intro (decide_eq_true h1) (And.intro (W25n.dec_ok h3) (And.intro (decide_eq_true h1) (And.intro (W25n.dec_ok h5) (And.intro h6 (And.intro h6 (And.intro h6 (And.intro h6 (And.intro h6 (And.intro h6 (And.intro h6 (And.intro h6 (And.intro h6 (And.intro h6 (And.intro h6 (And.intro h6 (And.intro h6 (And.intro (Eq.refl ([⟨0, [], []⟩, ⟨1, [], []⟩, ⟨2, [], []⟩, ⟨3, [], []⟩, ⟨4, [], []⟩, ⟨5, [], []⟩, ⟨6, [], []⟩, ⟨7, [], []⟩, ⟨8, [], []⟩, ⟨9, [], []⟩, ⟨10, [], []⟩, ⟨11, [], []⟩, ⟨12, [], []⟩, ⟨13, [], []⟩, ⟨14, [], []⟩, ⟨15, [], []⟩, ⟨16, [], []⟩, ⟨17, [], []⟩, ⟨18, [], []⟩, ⟨19, [], []⟩, ⟨20, [], []⟩, ⟨21, [], []⟩, ⟨22, [], []⟩, ⟨23, [], []⟩, ⟨24, [], []⟩] : List Foot)) True.intro))))))))))))))))))) n, l493, l494, z495, (↑(List.length l493) : Int), decide (z495 < (↑(List.length l493) : Int)), e714.c0, e737.c0, !e714.c0 == e737.c0, rfl⟩
            · skip
              obtain ⟨r7, h7, h⟩ := Option.bind_eq_some_iff.mp h
              have h7 := F19v3_ok (m + 0) r7 h7
              cases r7 with
              | a0 b746 =>
                rcases ite_eq h with ⟨h8, h⟩ | ⟨h8, h⟩
                · skip
                  cases h
                  exact ⟨_, round_out (gs := [.t, .t, .el (W25n.cells e714), .t, .el (W25n.cells e737), .f, .f, .f, .t, .el (W25n.cells e714), .f, .f, .f, .f, .f, .t, .el (W25n.cells e737), .f, .f, .f, .an (vb b746) [], .f, .f, .ft [⟨0, [], []⟩, ⟨1, [], []⟩, ⟨2, [], []⟩, ⟨3, [], []⟩, ⟨4, [], []⟩, ⟨5, [], []⟩, ⟨6, [], []⟩, ⟨7, [], []⟩, ⟨8, [], []⟩, ⟨9, [], []⟩, ⟨10, [], []⟩, ⟨11, [], []⟩, ⟨12, [], []⟩, ⟨13, [], []⟩, ⟨14, [], []⟩, ⟨15, [], []⟩, ⟨16, [], []⟩, ⟨17, [], []⟩, ⟨18, [], []⟩, ⟨19, [], []⟩, ⟨20, [], []⟩, ⟨21, [], []⟩, ⟨22, [], []⟩, ⟨23, [], []⟩, ⟨24, [], []⟩], .t]) (notIn []) (by kernel_rfl) rfl (And.intro (decide_eq_true h0) (And.intro (decide_eq_true h1) (And.intro (W25n.dec_ok h3) (And.intro (decide_eq_true h1) (And.intro (W25n.dec_ok h5) (And.intro (Bool.eq_false_iff.mpr h6) (And.intro (Bool.eq_false_iff.mpr h6) (And.intro (Bool.eq_false_iff.mpr h6) (And.intro (decide_eq_true h1) (And.intro (W25n.dec_ok h3) (And.intro (Bool.eq_false_iff.mpr h6) (And.intro (Bool.eq_false_iff.mpr h6) (And.intro (Bool.eq_false_iff.mpr h6) (And.intro (Bool.eq_false_iff.mpr h6) (And.intro (Bool.eq_false_iff.mpr h6) (And.intro (decide_eq_true h1) (And.intro (W25n.dec_ok h5) (And.intro (Bool.eq_false_iff.mpr h6) (And.intro (Bool.eq_false_iff.mpr h6) (And.intro (Bool.eq_false_iff.mpr h6) (And.intro h7 (And.intro (Bool.eq_false_iff.mpr h6) (And.intro (Bool.eq_false_iff.mpr h6) (And.intro (Eq.refl ([⟨0, [], []⟩, ⟨1, [], []⟩, ⟨2, [], []⟩, ⟨3, [], []⟩, ⟨4, [], []⟩, ⟨5, [], []⟩, ⟨6, [], []⟩, ⟨7, [], []⟩, ⟨8, [], []⟩, ⟨9, [], []⟩, ⟨10, [], []⟩, ⟨11, [], []⟩, ⟨12, [], []⟩, ⟨13, [], []⟩, ⟨14, [], []⟩, ⟨15, [], []⟩, ⟨16, [], []⟩, ⟨17, [], []⟩, ⟨18, [], []⟩, ⟨19, [], []⟩, ⟨20, [], []⟩, ⟨21, [], []⟩, ⟨22, [], []⟩, ⟨23, [], []⟩, ⟨24, [], []⟩] : List Foot)) (And.intro h8 True.intro))))))))))))))))))))))))) n, l493, l494, z495, (↑(List.length l493) : Int), decide (z495 < (↑(List.length l493) : Int)), e714.c0, e737.c0, !e714.c0 == e737.c0, b746, !b746, rfl⟩
                · skip
                  obtain ⟨st, hs, hr⟩ := L24_0_ok m n (l493) (l494) (w64 (z495 + 1)) r h
                  exact ⟨st, (round_on (gs := [.t, .t, .el (W25n.cells e714), .t, .el (W25n.cells e737), .f, .f, .f, .t, .el (W25n.cells e714), .f, .f, .f, .f, .f, .t, .el (W25n.cells e737), .f, .f, .f, .an (vb b746) [], .f, .f, .ft [⟨0, [], []⟩, ⟨1, [], []⟩, ⟨2, [], []⟩, ⟨3, [], []⟩, ⟨4, [], []⟩, ⟨5, [], []⟩, ⟨6, [], []⟩, ⟨7, [], []⟩, ⟨8, [], []⟩, ⟨9, [], []⟩, ⟨10, [], []⟩, ⟨11, [], []⟩, ⟨12, [], []⟩, ⟨13, [], []⟩, ⟨14, [], []⟩, ⟨15, [], []⟩, ⟨16, [], []⟩, ⟨17, [], []⟩, ⟨18, [], []⟩, ⟨19, [], []⟩, ⟨20, [], []⟩, ⟨21, [], []⟩, ⟨22, [], []⟩, ⟨23, [], []⟩, ⟨24, [], []⟩], .f]) (notIn []) (by kernel_rfl) (And.intro (decide_eq_true h0) (And.intro (decide_eq_true h1) (And.intro (W25n.dec_ok h3) (And.intro (decide_eq_true h1) (And.intro (W25n.dec_ok h5) (And.intro (Bool.eq_false_iff.mpr h6) (And.intro (Bool.eq_false_iff.mpr h6) (And.intro (Bool.eq_false_iff.mpr h6) (And.intro (decide_eq_true h1) (And.intro (W25n.dec_ok h3) (And.intro (Bool.eq_false_iff.mpr h6) (And.intro (Bool.eq_false_iff.mpr h6) (And.intro (Bool.eq_false_iff.mpr h6) (And.intro (Bool.eq_false_iff.mpr h6) (And.intro (Bool.eq_false_iff.mpr h6) (And.intro (decide_eq_true h1) (And.intro (W25n.dec_ok h5) (And.intro (Bool.eq_false_iff.mpr h6) (And.intro (Bool.eq_false_iff.mpr h6) (And.intro (Bool.eq_false_iff.mpr h6) (And.intro h7 (And.intro (Bool.eq_false_iff.mpr h6) (And.intro (Bool.eq_false_iff.mpr h6) (And.intro (Eq.refl ([⟨0, [], []⟩, ⟨1, [], []⟩, ⟨2, [], []⟩, ⟨3, [], []⟩, ⟨4, [], []⟩, ⟨5, [], []⟩, ⟨6, [], []⟩, ⟨7, [], []⟩, ⟨8, [], []⟩, ⟨9, [], []⟩, ⟨10, [], []⟩, ⟨11, [], []⟩, ⟨12, [], []⟩, ⟨13, [], []⟩, ⟨14, [], []⟩, ⟨15, [], []⟩, ⟨16, [], []⟩, ⟨17, [], []⟩, ⟨18, [], []⟩, ⟨19, [], []⟩, ⟨20, [], []⟩, ⟨21, [], []⟩, ⟨22, [], []⟩, ⟨23, [], []⟩, ⟨24, [], []⟩] : List Foot)) (And.intro (Bool.eq_false_iff.mpr h8) True.intro))))))))))))))))))))))))) n).trans hs, hr⟩
      · skip
        cases h
    · skip
      cases h
      exact ⟨_, round_out (gs := [.f]) (notIn []) (by kernel_rfl) rfl (And.intro (decide_eq_false h0) True.intro) n, l493, l494, z495, (↑(List.length l493) : Int), decide (z495 < (↑(List.length l493) : Int)), rfl⟩
inductive A24 where
  | a0 (b666 : Bool)
@[reducible] def A24.out : A24 → V × Store
  | .a0 b666 => (vb b666, [])
def F24 (l394 : List (List V)) (l395 : List (List V)) : Option A24 :=
  if ((↑(List.length l394) : Int) != (↑(List.length l395) : Int)) = true then
   some (A24.a0 (false))
  else
   (L24_0 100000 (l394) (l395) (0)).bind fun r => match r with
   | .e0 =>
    some (A24.a0 (false))
   | .e1 =>
    some (A24.a0 (false))
   | .e2 =>
    some (A24.a0 (false))
   | .e3 =>
    some (A24.a0 (false))
   | .e4 =>
    some (A24.a0 (false))
   | .e5 =>
    some (A24.a0 (false))
   | .e6 =>
    some (A24.a0 (false))
   | .e7 =>
    some (A24.a0 (false))
   | .e8 =>
    some (A24.a0 (true))
theorem F24_ok (m : Nat) (l394 : List (List V)) (l395 : List (List V)) (r : A24) (h : F24 l394 l395 = some r) : call Try.prog X O0 100000 (m + 2) 24 ([V.list 2 l394, V.list 2 l395]) ([]) = some r.out := by
  unfold F24 at h
  rcases ite_eq h with ⟨h0, h⟩ | ⟨h0, h⟩
  · skip
    cases h
    exact call_pathL (gs := [.t]) (notIn []) rfl rfl (by kernel_rfl) (And.intro h0 True.intro)
  · skip
    obtain ⟨r1, h1, h⟩ := Option.bind_eq_some_iff.mp h
    obtain ⟨st1, h1, hr1⟩ := L24_0_ok m 100000 (l394) (l395) (0) r1 h1
    have h1 : loopRun Try.prog X (call Try.prog X O0 100000 (m + 1)) 24 (0) 100000 B24 0 ({ T := V.list 2 l394 :: V.list 2 l395 :: U :: U :: vb false :: i64 0 :: V.list 2 l394 :: i64 (↑(List.length l394) : Int) :: V.list 2 l395 :: i64 (↑(List.length l395) : Int) :: vb ((↑(List.length l394) : Int) != (↑(List.length l395) : Int)) :: un 31 [], σ := [] }) = some st1 := by
      rw [loopRun_from, show prep (0) (X.keep 24 0) ({ T := V.list 2 l394 :: V.list 2 l395 :: U :: U :: vb false :: i64 0 :: V.list 2 l394 :: i64 (↑(List.length l394) : Int) :: V.list 2 l395 :: i64 (↑(List.length l395) : Int) :: vb ((↑(List.length l394) : Int) != (↑(List.length l395) : Int)) :: un 31 [], σ := [] }) = { T := V.list 2 l394 :: V.list 2 l395 :: U :: U :: U :: i64 0 :: un 36 [], σ := [] } by kernel_rfl]
      exact h1
    cases r1 with
    | e0 =>
      obtain ⟨l762, l763, z764, z765, b766, b767, l768, b769, l770, b771, rfl⟩ := hr1
      cases h
      exact call_pathL (gs := [.f, .lp (VX.ret) (s24_0_0 l762 l763 z764 z765 b766 b767 l768 b769 l770 b771)]) (notIn []) rfl rfl (by kernel_rfl) (And.intro (Bool.eq_false_iff.mpr h0) (And.intro h1 True.intro))
    | e1 =>
      obtain ⟨l772, l773, z774, z775, b776, b777, l778, b779, l780, b781, b782, b783, rfl⟩ := hr1
      cases h
      exact call_pathL (gs := [.f, .lp (VX.ret) (s24_0_1 l772 l773 z774 z775 b776 b777 l778 b779 l780 b781 b782 b783)]) (notIn []) rfl rfl (by kernel_rfl) (And.intro (Bool.eq_false_iff.mpr h0) (And.intro h1 True.intro))
    | e2 =>
      obtain ⟨l784, l785, z786, z787, b788, b789, l790, b791, b792, rfl⟩ := hr1
      cases h
      exact call_pathL (gs := [.f, .lp (VX.ret) (s24_0_2 l784 l785 z786 z787 b788 b789 l790 b791 b792)]) (notIn []) rfl rfl (by kernel_rfl) (And.intro (Bool.eq_false_iff.mpr h0) (And.intro h1 True.intro))
    | e3 =>
      obtain ⟨l793, l794, z795, z796, b797, b798, l799, b800, b801, b802, b803, rfl⟩ := hr1
      cases h
      exact call_pathL (gs := [.f, .lp (VX.ret) (s24_0_3 l793 l794 z795 z796 b797 b798 l799 b800 b801 b802 b803)]) (notIn []) rfl rfl (by kernel_rfl) (And.intro (Bool.eq_false_iff.mpr h0) (And.intro h1 True.intro))
    | e4 =>
      obtain ⟨l804, l805, z806, z807, b808, b809, b810, l811, b812, rfl⟩ := hr1
      cases h
      exact call_pathL (gs := [.f, .lp (VX.ret) (s24_0_4 l804 l805 z806 z807 b808 b809 b810 l811 b812)]) (notIn []) rfl rfl (by kernel_rfl) (And.intro (Bool.eq_false_iff.mpr h0) (And.intro h1 True.intro))
    | e5 =>
      obtain ⟨l813, l814, z815, z816, b817, b818, b819, l820, b821, b822, b823, rfl⟩ := hr1
      cases h
      exact call_pathL (gs := [.f, .lp (VX.ret) (s24_0_5 l813 l814 z815 z816 b817 b818 b819 l820 b821 b822 b823)]) (notIn []) rfl rfl (by kernel_rfl) (And.intro (Bool.eq_false_iff.mpr h0) (And.intro h1 True.intro))
    | e6 =>
      obtain ⟨l824, l825, z826, z827, b828, b829, b830, b831, rfl⟩ := hr1
      cases h
      exact call_pathL (gs := [.f, .lp (VX.ret) (s24_0_6 l824 l825 z826 z827 b828 b829 b830 b831)]) (notIn []) rfl rfl (by kernel_rfl) (And.intro (Bool.eq_false_iff.mpr h0) (And.intro h1 True.intro))
    | e7 =>
      obtain ⟨l832, l833, z834, z835, b836, b837, b838, b839, b840, b841, rfl⟩ := hr1
      cases h
      exact call_pathL (gs := [.f, .lp (VX.ret) (s24_0_7 l832 l833 z834 z835 b836 b837 b838 b839 b840 b841)]) (notIn []) rfl rfl (by kernel_rfl) (And.intro (Bool.eq_false_iff.mpr h0) (And.intro h1 True.intro))
    | e8 =>
      obtain ⟨l842, l843, z844, z845, b846, rfl⟩ := hr1
      cases h
      exact call_pathL (gs := [.f, .lp (VX.exit 0) (s24_0_8 l842 l843 z844 z845 b846)]) (notIn []) rfl rfl (by kernel_rfl) (And.intro (Bool.eq_false_iff.mpr h0) (And.intro h1 True.intro))
/-! ## 31 -/
inductive A31v1 where
  | a0 (k855 : Nat) (l856 : List (List V))
@[reducible] def A31v1.out : A31v1 → V × Store
  | .a0 k855 l856 => (V.hs 0 0 k855, [Ob.cells true true 2 l856])
def F31v1 (l853 : List (List V)) : Option A31v1 :=
  if 0 < List.length l853 then
   if (0 : Nat) ≤ (0 : Nat) ∧ ((0 : Nat) + List.length l853) * (16 : Nat) ≤ (140737488355328 : Nat) ∧ (0 : Nat) + List.length l853 ≤ (140737488355328 : Nat) then
    some (A31v1.a0 (0 + List.length l853) ([] ++ l853))
   else
    none -- none
  else
   none -- none
theorem F31v1_ok (m : Nat) (l853 : List (List V)) (r : A31v1) (h : F31v1 l853 = some r) : call Try.prog X O0 100000 (m + 1) 31 ([V.list 2 l853]) ([]) = some r.out := by
  unfold F31v1 at h
  rcases ite_eq h with ⟨h0, h⟩ | ⟨h0, h⟩
  · skip
    rcases ite_eq h with ⟨h1, h⟩ | ⟨h1, h⟩
    · skip
      cases h
      exact call_pathL (gs := [.t, .a, .t]) (notIn []) rfl rfl (by kernel_rfl) (And.intro (decide_eq_true h0) (And.intro (decide_eq_true h1) True.intro))
    · skip
      cases h
  · skip
    cases h
/-! ## 53 -/
def F53v1 (b867 : Bool) (l868 : List (List V)) : Int :=
  if (b867) = true then
   if (↑(List.length l868) : Int) ≥ 2 then
    (↑(List.length l868) : Int)
   else
    if w64 ((↑(List.length l868) : Int) - 1) > 0 then w64 ((↑(List.length l868) : Int) - 1) else 0
  else
   if w64 ((↑(List.length l868) : Int) - 1) > 0 then w64 ((↑(List.length l868) : Int) - 1) else 0
theorem F53v1_ok (m : Nat) (b867 : Bool) (l868 : List (List V)) (z871 : Int) (h : F53v1 b867 l868 = z871) : call Try.prog X O0 100000 (m + 1) 53 ([V.agg [vb b867, V.list 2 l868]]) ([]) = some (i64 z871, []) := by
  unfold F53v1 at h
  rcases ite_eq h with ⟨h0, h⟩ | ⟨h0, h⟩
  · skip
    rcases ite_eq h with ⟨h1, h⟩ | ⟨h1, h⟩
    · skip
      subst h
      exact call_pathL (gs := [.a, .a, .t, .t, .t, .t]) (notIn []) rfl rfl (by kernel_rfl) (And.intro h0 (And.intro h0 (And.intro h0 (And.intro (decide_eq_true h1) True.intro))))
    · skip
      subst h
      exact call_pathL (gs := [.a, .a, .t, .t, .t, .f]) (notIn []) rfl rfl (by kernel_rfl) (And.intro h0 (And.intro h0 (And.intro h0 (And.intro (decide_eq_false h1) True.intro))))
  · skip
    subst h
    exact call_pathL (gs := [.a, .a, .f, .f, .f, .a]) (notIn []) rfl rfl (by kernel_rfl) (And.intro (Bool.eq_false_iff.mpr h0) (And.intro (Bool.eq_false_iff.mpr h0) (And.intro (Bool.eq_false_iff.mpr h0) True.intro)))
/-! ## 65 -/
def F65 (z884 : Int) : Int :=
  bnd (F37 (z884) (-536870912) (536870912)) fun z886 =>
  z886
theorem F65_ok (m : Nat) (z884 : Int) (z888 : Int) (h : F65 z884 = z888) : call Try.prog X O0 100000 (m + 2) 65 ([i64 z884]) ([]) = some (i64 z888, []) := by
  unfold F65 at h
  obtain ⟨z886, h0, h⟩ := bnd_eq h
  subst h
  exact call_pathL (gs := [.an (i64 z886) []]) (notIn []) rfl rfl (by kernel_rfl) (And.intro (F37_ok (m + 0) (z884) (-536870912) (536870912) z886 h0) True.intro)
/-! ## 75 -/
inductive A75 where
  | a0 (z891 : Int) (z892 : Int)
@[reducible] def A75.out : A75 → V × Store
  | .a0 z891 z892 => (V.agg [i64 z891, i64 z892], [])
def F75 (z881 : Int) (z882 : Int) : Option A75 :=
  bnd (F65 (z881)) fun z889 =>
  bnd (F65 (z882)) fun z890 =>
  some (A75.a0 (z889) (z890))
theorem F75_ok (m : Nat) (z881 : Int) (z882 : Int) (r : A75) (h : F75 z881 z882 = some r) : call Try.prog X O0 100000 (m + 3) 75 ([V.agg [i64 z881, i64 z882]]) ([]) = some r.out := by
  unfold F75 at h
  obtain ⟨z889, h0, h⟩ := bnd_eq h
  obtain ⟨z890, h1, h⟩ := bnd_eq h
  cases h
  exact call_pathL (gs := [.a, .an (i64 z889) [], .a, .an (i64 z890) [], .a, .ft [⟨0, [0], []⟩, ⟨1, [0], []⟩, ⟨2, [], []⟩, ⟨3, [0], []⟩, ⟨4, [0], []⟩, ⟨5, [], []⟩, ⟨6, [], []⟩, ⟨7, [1], [1]⟩]]) (notIn []) rfl rfl (by kernel_rfl) (And.intro (F65_ok (m + 0) (z881) z889 h0) (And.intro (F65_ok (m + 0) (z882) z890 h1) (And.intro (Eq.refl ([⟨0, [0], []⟩, ⟨1, [0], []⟩, ⟨2, [], []⟩, ⟨3, [0], []⟩, ⟨4, [0], []⟩, ⟨5, [], []⟩, ⟨6, [], []⟩, ⟨7, [1], [1]⟩] : List Foot)) True.intro)))
/-! ## 86 -/
noncomputable abbrev B86 : Code := (Try.f86.body).getD .skip
inductive R86_0 where
  | e0 (z910 : Int)
@[reducible] def s86_0_0 (z909 : Int) (z910 : Int) (z911 : Int) (b912 : Bool) : S := { T := V.int IntKind.u64 z909 :: U :: U :: V.int IntKind.u64 z910 :: V.int IntKind.u64 z911 :: U :: V.int IntKind.u64 z911 :: vb b912 :: un 13 [], σ := [] }
def R86_0.St : R86_0 → VX × S → Prop
  | .e0 z910, p => ∃ z909 : Int, ∃ z911 : Int, ∃ b912 : Bool, p = (VX.exit 0, s86_0_0 z909 z910 z911 b912)
def L86_0 : Nat → Int → Int → Int → Option R86_0
  | 0, _, _, _ => none
  | n + 1, z906, z907, z908 =>
    if z908 > 0 then
     if IntKind.wrap IntKind.u64 (IntKind.wrap IntKind.u64 (↑(BitVec.toNat (BitVec.ofInt (IntKind.bits IntKind.u64) z907 ||| BitVec.ofInt (IntKind.bits IntKind.u64) z908)) : Int) * IntKind.wrap IntKind.u64 (↑(BitVec.toNat (BitVec.ofInt (IntKind.bits IntKind.u64) z907 ||| BitVec.ofInt (IntKind.bits IntKind.u64) z908)) : Int)) ≤ z906 then
      L86_0 n (z906) (IntKind.wrap IntKind.u64 (↑(BitVec.toNat (BitVec.ofInt (IntKind.bits IntKind.u64) z907 ||| BitVec.ofInt (IntKind.bits IntKind.u64) z908)) : Int)) (Int.fdiv z908 2)
     else
      L86_0 n (z906) (z907) (Int.fdiv z908 2)
    else
     some (R86_0.e0 (z907))
theorem L86_0_ok (m : Nat) : ∀ (n : Nat) (z906 : Int) (z907 : Int) (z908 : Int) (r : R86_0), L86_0 n z906 z907 z908 = some r → ∃ st, loopFrom Try.prog X (call Try.prog X O0 100000 (m + 0)) 86 (0) 100000 B86 0 n ({ T := V.int IntKind.u64 z906 :: U :: U :: V.int IntKind.u64 z907 :: V.int IntKind.u64 z908 :: un 16 [], σ := [] }) = some st ∧ r.St st
  | 0, _, _, _, r, h => by cases h
  | n + 1, z906, z907, z908, r, h => by
    rw [L86_0] at h
    rcases ite_eq h with ⟨h0, h⟩ | ⟨h0, h⟩
    · skip
      rcases ite_eq h with ⟨h1, h⟩ | ⟨h1, h⟩
      · skip
        obtain ⟨st, hs, hr⟩ := L86_0_ok m n (z906) (IntKind.wrap IntKind.u64 (↑(BitVec.toNat (BitVec.ofInt (IntKind.bits IntKind.u64) z907 ||| BitVec.ofInt (IntKind.bits IntKind.u64) z908)) : Int)) (Int.fdiv z908 2) r h
        exact ⟨st, (round_on (gs := [.t, .t]) (notIn []) (by kernel_rfl) (And.intro (decide_eq_true h0) (And.intro (decide_eq_true h1) True.intro)) n).trans hs, hr⟩
      · skip
        obtain ⟨st, hs, hr⟩ := L86_0_ok m n (z906) (z907) (Int.fdiv z908 2) r h
        exact ⟨st, (round_on (gs := [.t, .f]) (notIn []) (by kernel_rfl) (And.intro (decide_eq_true h0) (And.intro (decide_eq_false h1) True.intro)) n).trans hs, hr⟩
    · skip
      cases h
      exact ⟨_, round_out (gs := [.f]) (notIn []) (by kernel_rfl) rfl (And.intro (decide_eq_false h0) True.intro) n, z906, z908, decide (z908 > 0), rfl⟩
inductive A86 where
  | a0 (z917 : Int)
@[reducible] def A86.out : A86 → V × Store
  | .a0 z917 => (i64 z917, [])
def F86 (z903 : Int) : Option A86 :=
  (L86_0 100000 (z903) (0) (2147483648)).bind fun r => match r with
  | .e0 z914 =>
   some (A86.a0 (w64 z914))
theorem F86_ok (m : Nat) (z903 : Int) (r : A86) (h : F86 z903 = some r) : call Try.prog X O0 100000 (m + 1) 86 ([V.int IntKind.u64 z903]) ([]) = some r.out := by
  unfold F86 at h
  obtain ⟨r0, h0, h⟩ := Option.bind_eq_some_iff.mp h
  obtain ⟨st0, h0, hr0⟩ := L86_0_ok m 100000 (z903) (0) (2147483648) r0 h0
  have h0 : loopRun Try.prog X (call Try.prog X O0 100000 (m + 0)) 86 (0) 100000 B86 0 ({ T := V.int IntKind.u64 z903 :: U :: i64 0 :: V.int IntKind.u64 0 :: V.int IntKind.u64 2147483648 :: un 16 [], σ := [] }) = some st0 := by
    rw [loopRun_from, show prep (0) (X.keep 86 0) ({ T := V.int IntKind.u64 z903 :: U :: i64 0 :: V.int IntKind.u64 0 :: V.int IntKind.u64 2147483648 :: un 16 [], σ := [] }) = { T := V.int IntKind.u64 z903 :: U :: U :: V.int IntKind.u64 0 :: V.int IntKind.u64 2147483648 :: un 16 [], σ := [] } by kernel_rfl]
    exact h0
  cases r0 with
  | e0 z914 =>
    obtain ⟨z913, z915, b916, rfl⟩ := hr0
    cases h
    exact call_pathL (gs := [.lp (VX.exit 0) (s86_0_0 z913 z914 z915 b916)]) (notIn []) rfl rfl (by kernel_rfl) (And.intro h0 True.intro)
/-! ## 76 -/
inductive A76 where
  | a0 (z920 : Int)
@[reducible] def A76.out : A76 → V × Store
  | .a0 z920 => (i64 z920, [])
def F76 (z898 : Int) (z899 : Int) : Option A76 :=
  bnd (F37 (z898) (-1073741824) (1073741824)) fun z901 =>
  bnd (F37 (z899) (-1073741824) (1073741824)) fun z902 =>
  (F86 (IntKind.wrap IntKind.u64 (w64 (w64 (z901 * z901) + w64 (z902 * z902))))).bind fun r => match r with
  | .a0 z918 =>
   bnd (F56 (z918)) fun z919 =>
   some (A76.a0 (z919))
theorem F76_ok (m : Nat) (z898 : Int) (z899 : Int) (r : A76) (h : F76 z898 z899 = some r) : call Try.prog X O0 100000 (m + 3) 76 ([i64 z898, i64 z899]) ([]) = some r.out := by
  unfold F76 at h
  obtain ⟨z901, h0, h⟩ := bnd_eq h
  obtain ⟨z902, h1, h⟩ := bnd_eq h
  obtain ⟨r2, h2, h⟩ := Option.bind_eq_some_iff.mp h
  have h2 := F86_ok (m + 1) (IntKind.wrap IntKind.u64 (w64 (w64 (z901 * z901) + w64 (z902 * z902)))) r2 h2
  cases r2 with
  | a0 z918 =>
    obtain ⟨z919, h3, h⟩ := bnd_eq h
    cases h
    exact call_pathL (gs := [.an (i64 z901) [], .an (i64 z902) [], .an (i64 z918) [], .an (i64 z919) []]) (notIn []) rfl rfl (by kernel_rfl) (And.intro (F37_ok (m + 1) (z898) (-1073741824) (1073741824) z901 h0) (And.intro (F37_ok (m + 1) (z899) (-1073741824) (1073741824) z902 h1) (And.intro h2 (And.intro (F56_ok (m + 0) (z918) z919 h3) True.intro))))
/-! ## 54 -/
inductive A54v1 where
  | a0 (z922 : Int) (z923 : Int) (z924 : Int) (z925 : Int) (z926 : Int)
@[reducible] def A54v1.out : A54v1 → V × Store
  | .a0 z922 z923 z924 z925 z926 => (V.tup [V.agg [i64 z922, i64 z923], V.agg [i64 z924, i64 z925], i64 z926], [])
def F54v1 (b876 : Bool) (l877 : List (List V)) (z878 : Int) : Option A54v1 :=
  if 0 ≤ z878 then
   ((l877[Int.toNat z878]?).bind W43.dec).bind fun e880 =>
   (F75 (e880.c0) (e880.c1)).bind fun r => match r with
   | .a0 z893 z894 =>
    if (↑(List.length l877) : Int) = 0 then
     none -- none
    else
     if 0 ≤ Int.tmod (w64 (z878 + 1)) (↑(List.length l877) : Int) then
      ((l877[Int.toNat (Int.tmod (w64 (z878 + (1 : Int))) (↑(List.length l877) : Int))]?).bind W43.dec).bind fun e895 =>
      (F75 (e895.c0) (e895.c1)).bind fun r => match r with
      | .a0 z896 z897 =>
       (F76 (w64 (z896 - z893)) (w64 (z897 - z894))).bind fun r => match r with
       | .a0 z921 =>
        some (A54v1.a0 (z893) (z894) (z896) (z897) (z921))
     else
      none -- none
  else
   none -- none
theorem F54v1_ok (m : Nat) (b876 : Bool) (l877 : List (List V)) (z878 : Int) (r : A54v1) (h : F54v1 b876 l877 z878 = some r) : call Try.prog X O0 100000 (m + 4) 54 ([V.agg [vb b876, V.list 2 l877], i64 z878]) ([]) = some r.out := by
  unfold F54v1 at h
  rcases ite_eq h with ⟨h0, h⟩ | ⟨h0, h⟩
  · skip
    obtain ⟨e880, h1, h⟩ := Option.bind_eq_some_iff.mp h
    obtain ⟨r2, h2, h⟩ := Option.bind_eq_some_iff.mp h
    have h2 := F75_ok (m + 0) (e880.c0) (e880.c1) r2 h2
    cases r2 with
    | a0 z893 z894 =>
      rcases ite_eq h with ⟨h3, h⟩ | ⟨h3, h⟩
      · skip
        cases h
      · skip
        rcases ite_eq h with ⟨h4, h⟩ | ⟨h4, h⟩
        · skip
          obtain ⟨e895, h5, h⟩ := Option.bind_eq_some_iff.mp h
          obtain ⟨r6, h6, h⟩ := Option.bind_eq_some_iff.mp h
          have h6 := F75_ok (m + 0) (e895.c0) (e895.c1) r6 h6
          cases r6 with
          | a0 z896 z897 =>
            obtain ⟨r7, h7, h⟩ := Option.bind_eq_some_iff.mp h
            have h7 := F76_ok (m + 0) (w64 (z896 - z893)) (w64 (z897 - z894)) r7 h7
            cases r7 with
            | a0 z921 =>
              cases h
              exact call_pathL (gs := [.a, .t, .el (W43.cells e880), .an (V.agg [i64 z893, i64 z894]) [], .a, .a, .f, .t, .el (W43.cells e895), .an (V.agg [i64 z896, i64 z897]) [], .a, .a, .ft [⟨0, [0], []⟩, ⟨1, [0], []⟩, ⟨2, [], []⟩, ⟨3, [], []⟩, ⟨4, [], []⟩, ⟨5, [], []⟩, ⟨6, [0], []⟩, ⟨7, [0], []⟩, ⟨8, [], []⟩, ⟨9, [], []⟩, ⟨10, [0], []⟩, ⟨11, [0], []⟩, ⟨12, [], []⟩, ⟨13, [], []⟩, ⟨14, [], []⟩, ⟨15, [], []⟩, ⟨16, [], []⟩, ⟨17, [3], [3]⟩, ⟨18, [4], [4]⟩, ⟨19, [3], [3]⟩, ⟨20, [4], [4]⟩], .a, .a, .a, .a, .a, .a, .an (i64 z921) [], .a, .a, .ft [⟨0, [3], []⟩, ⟨1, [4], []⟩, ⟨2, [4], []⟩, ⟨3, [4], []⟩, ⟨4, [3], []⟩, ⟨5, [3], []⟩, ⟨6, [], []⟩, ⟨7, [4], []⟩, ⟨8, [4], []⟩, ⟨9, [3], []⟩, ⟨10, [3], []⟩, ⟨11, [], []⟩, ⟨12, [], []⟩, ⟨13, [1], [1]⟩, ⟨14, [2], [2]⟩, ⟨15, [], []⟩]]) (notIn []) rfl rfl (by kernel_rfl) (And.intro (decide_eq_true h0) (And.intro (W43.dec_ok h1) (And.intro h2 (And.intro (decide_eq_false h3) (And.intro (decide_eq_true h4) (And.intro (W43.dec_ok h5) (And.intro h6 (And.intro (Eq.refl ([⟨0, [0], []⟩, ⟨1, [0], []⟩, ⟨2, [], []⟩, ⟨3, [], []⟩, ⟨4, [], []⟩, ⟨5, [], []⟩, ⟨6, [0], []⟩, ⟨7, [0], []⟩, ⟨8, [], []⟩, ⟨9, [], []⟩, ⟨10, [0], []⟩, ⟨11, [0], []⟩, ⟨12, [], []⟩, ⟨13, [], []⟩, ⟨14, [], []⟩, ⟨15, [], []⟩, ⟨16, [], []⟩, ⟨17, [3], [3]⟩, ⟨18, [4], [4]⟩, ⟨19, [3], [3]⟩, ⟨20, [4], [4]⟩] : List Foot)) (And.intro h7 (And.intro (Eq.refl ([⟨0, [3], []⟩, ⟨1, [4], []⟩, ⟨2, [4], []⟩, ⟨3, [4], []⟩, ⟨4, [3], []⟩, ⟨5, [3], []⟩, ⟨6, [], []⟩, ⟨7, [4], []⟩, ⟨8, [4], []⟩, ⟨9, [3], []⟩, ⟨10, [3], []⟩, ⟨11, [], []⟩, ⟨12, [], []⟩, ⟨13, [1], [1]⟩, ⟨14, [2], [2]⟩, ⟨15, [], []⟩] : List Foot)) True.intro))))))))))
        · skip
          cases h
  · skip
    cases h
/-! ## 55 -/
def F55 (z932 : Int) (z933 : Int) : Int :=
  bnd (F56 (z932)) fun z935 =>
  bnd (F56 (z933)) fun z936 =>
  bnd (F56 (w64 (z935 + z936))) fun z937 =>
  z937
theorem F55_ok (m : Nat) (z932 : Int) (z933 : Int) (z939 : Int) (h : F55 z932 z933 = z939) : call Try.prog X O0 100000 (m + 3) 55 ([i64 z932, i64 z933]) ([]) = some (i64 z939, []) := by
  unfold F55 at h
  obtain ⟨z935, h0, h⟩ := bnd_eq h
  obtain ⟨z936, h1, h⟩ := bnd_eq h
  obtain ⟨z937, h2, h⟩ := bnd_eq h
  subst h
  exact call_pathL (gs := [.an (i64 z935) [], .an (i64 z936) [], .an (i64 z937) []]) (notIn []) rfl rfl (by kernel_rfl) (And.intro (F56_ok (m + 0) (z932) z935 h0) (And.intro (F56_ok (m + 0) (z933) z936 h1) (And.intro (F56_ok (m + 0) (w64 (z935 + z936)) z937 h2) True.intro)))
/-! ## 32 -/
noncomputable abbrev B32v1 : Code := (Try.f32.body).getD .skip
inductive R32v1_0 where
  | e0 (z962 : Int)
@[reducible] def s32v1_0_0 (z962 : Int) (z963 : Int) (z964 : Int) (b965 : Bool) (b966 : Bool) (l967 : List (List V)) : S := { T := U :: V.ptr 0 0 0 :: U :: i64 z962 :: un 5 (i64 z963 :: i64 z964 :: vb b965 :: un 13 []), σ := [Ob.cells true false 2 [[vb b966, V.list 2 l967]]] }
def R32v1_0.St : R32v1_0 → VX × S → Prop
  | .e0 z962, p => ∃ z963 : Int, ∃ z964 : Int, ∃ b965 : Bool, ∃ b966 : Bool, ∃ l967 : List (List V), p = (VX.exit 0, s32v1_0_0 z962 z963 z964 b965 b966 l967)
def L32v1_0 : Nat → Int → Int → Int → Bool → List (List V) → Option R32v1_0
  | 0, _, _, _, _, _ => none
  | n + 1, z941, z942, z943, b944, l945 =>
    if z943 < z942 then
     (F54v1 (b944) (l945) (z943)).bind fun r => match r with
     | .a0 z956 z957 z958 z959 z960 =>
      bnd (F55 (z941) (z960)) fun z961 =>
      L32v1_0 n (z961) (z942) (w64 (z943 + 1)) (b944) (l945)
    else
     some (R32v1_0.e0 (z941))
theorem L32v1_0_ok (m : Nat) : ∀ (n : Nat) (z941 : Int) (z942 : Int) (z943 : Int) (b944 : Bool) (l945 : List (List V)) (r : R32v1_0), L32v1_0 n z941 z942 z943 b944 l945 = some r → ∃ st, loopFrom Try.prog X (call Try.prog X O0 100000 (m + 4)) 32 (0) 100000 B32v1 0 n ({ T := U :: V.ptr 0 0 0 :: U :: i64 z941 :: un 5 (i64 z942 :: i64 z943 :: un 14 []), σ := [Ob.cells true false 2 [[vb b944, V.list 2 l945]]] }) = some st ∧ r.St st
  | 0, _, _, _, _, _, r, h => by cases h
  | n + 1, z941, z942, z943, b944, l945, r, h => by
    rw [L32v1_0] at h
    rcases ite_eq h with ⟨h0, h⟩ | ⟨h0, h⟩
    · skip
      obtain ⟨r1, h1, h⟩ := Option.bind_eq_some_iff.mp h
      have h1 := F54v1_ok (m + 0) (b944) (l945) (z943) r1 h1
      cases r1 with
      | a0 z956 z957 z958 z959 z960 =>
        obtain ⟨z961, h2, h⟩ := bnd_eq h
        obtain ⟨st, hs, hr⟩ := L32v1_0_ok m n (z961) (z942) (w64 (z943 + 1)) (b944) (l945) r h
        exact ⟨st, (round_on (gs := [.t, .a, .an (V.tup [V.agg [i64 z956, i64 z957], V.agg [i64 z958, i64 z959], i64 z960]) [], .a, .a, .an (i64 z961) []]) (notIn []) (by kernel_rfl) (And.intro (decide_eq_true h0) (And.intro h1 (And.intro (F55_ok (m + 1) (z941) (z960) z961 h2) True.intro))) n).trans hs, hr⟩
    · skip
      cases h
      exact ⟨_, round_out (gs := [.f]) (notIn []) (by kernel_rfl) rfl (And.intro (decide_eq_false h0) True.intro) n, z942, z943, decide (z943 < z942), b944, l945, rfl⟩
inductive A32v1 where
  | a0 (z974 : Int)
@[reducible] def A32v1.out : A32v1 → V × Store
  | .a0 z974 => (i64 z974, [])
def F32v1 (b864 : Bool) (l865 : List (List V)) : Option A32v1 :=
  bnd (F53v1 (b864) (l865)) fun z955 =>
  (L32v1_0 100000 (0) (z955) (0) (b864) (l865)).bind fun r => match r with
  | .e0 z968 =>
   some (A32v1.a0 (z968))
theorem F32v1_ok (m : Nat) (b864 : Bool) (l865 : List (List V)) (r : A32v1) (h : F32v1 b864 l865 = some r) : call Try.prog X O0 100000 (m + 5) 32 ([V.agg [vb b864, V.list 2 l865]]) ([]) = some r.out := by
  unfold F32v1 at h
  obtain ⟨z955, h0, h⟩ := bnd_eq h
  obtain ⟨r1, h1, h⟩ := Option.bind_eq_some_iff.mp h
  obtain ⟨st1, h1, hr1⟩ := L32v1_0_ok m 100000 (0) (z955) (0) (b864) (l865) r1 h1
  have h1 : loopRun Try.prog X (call Try.prog X O0 100000 (m + 4)) 32 (0) 100000 B32v1 0 ({ T := V.agg [vb b864, V.list 2 l865] :: V.ptr 0 0 0 :: i64 0 :: i64 0 :: un 4 (V.agg [vb b864, V.list 2 l865] :: i64 z955 :: i64 0 :: un 14 []), σ := [Ob.cells true false 2 [[vb b864, V.list 2 l865]]] }) = some st1 := by
    rw [loopRun_from, show prep (0) (X.keep 32 0) ({ T := V.agg [vb b864, V.list 2 l865] :: V.ptr 0 0 0 :: i64 0 :: i64 0 :: un 4 (V.agg [vb b864, V.list 2 l865] :: i64 z955 :: i64 0 :: un 14 []), σ := [Ob.cells true false 2 [[vb b864, V.list 2 l865]]] }) = { T := U :: V.ptr 0 0 0 :: U :: i64 0 :: un 5 (i64 z955 :: i64 0 :: un 14 []), σ := [Ob.cells true false 2 [[vb b864, V.list 2 l865]]] } by kernel_rfl]
    exact h1
  cases r1 with
  | e0 z968 =>
    obtain ⟨z969, z970, b971, b972, l973, rfl⟩ := hr1
    cases h
    exact call_pathL (gs := [.a, .an (i64 z955) [], .lp (VX.exit 0) (s32v1_0_0 z968 z969 z970 b971 b972 l973)]) (notIn []) rfl rfl (by kernel_rfl) (And.intro (F53v1_ok (m + 3) (b864) (l865) z955 h0) (And.intro h1 True.intro))
/-! ## 60 -/
inductive A60 where
  | a0 (z1019 : Int)
@[reducible] def A60.out : A60 → V × Store
  | .a0 z1019 => (i64 z1019, [])
def F60 (z1014 : Int) (z1015 : Int) : Option A60 :=
  bnd (F56 (z1014)) fun z1017 =>
  bnd (F56 (z1015)) fun z1018 =>
  if (z1018 == 0) = true then
   some (A60.a0 (0))
  else
   if z1018 = 0 then
    none -- none
   else
    if (Int.tmod (w64 (z1017 * 65536)) z1018 != 0) = true then
     if (!decide (w64 (z1017 * 65536) < 0) == decide (z1018 < 0)) = true then
      bnd (F56 (w64 (w64 (Int.tdiv (w64 (z1017 * 65536)) z1018) - 1))) fun z1020 =>
      some (A60.a0 (z1020))
     else
      bnd (F56 (w64 (Int.tdiv (w64 (z1017 * 65536)) z1018))) fun z1021 =>
      some (A60.a0 (z1021))
    else
     bnd (F56 (w64 (Int.tdiv (w64 (z1017 * 65536)) z1018))) fun z1022 =>
     some (A60.a0 (z1022))
theorem F60_ok (m : Nat) (z1014 : Int) (z1015 : Int) (r : A60) (h : F60 z1014 z1015 = some r) : call Try.prog X O0 100000 (m + 3) 60 ([i64 z1014, i64 z1015]) ([]) = some r.out := by
  unfold F60 at h
  obtain ⟨z1017, h0, h⟩ := bnd_eq h
  obtain ⟨z1018, h1, h⟩ := bnd_eq h
  rcases ite_eq h with ⟨h2, h⟩ | ⟨h2, h⟩
  · skip
    cases h
    exact call_pathL (gs := [.an (i64 z1017) [], .an (i64 z1018) [], .t]) (notIn []) rfl rfl (by kernel_rfl) (And.intro (F56_ok (m + 0) (z1014) z1017 h0) (And.intro (F56_ok (m + 0) (z1015) z1018 h1) (And.intro h2 True.intro)))
  · skip
    rcases ite_eq h with ⟨h3, h⟩ | ⟨h3, h⟩
    · skip
      cases h
    · skip
      rcases ite_eq h with ⟨h4, h⟩ | ⟨h4, h⟩
      · skip
        rcases ite_eq h with ⟨h5, h⟩ | ⟨h5, h⟩
        · skip
          obtain ⟨z1020, h6, h⟩ := bnd_eq h
          cases h
          exact call_pathL (gs := [.an (i64 z1017) [], .an (i64 z1018) [], .f, .f, .f, .t, .t, .t, .t, .t, .t, .t, .an (i64 z1020) []]) (notIn []) rfl rfl (by kernel_rfl) (And.intro (F56_ok (m + 0) (z1014) z1017 h0) (And.intro (F56_ok (m + 0) (z1015) z1018 h1) (And.intro (Bool.eq_false_iff.mpr h2) (And.intro (decide_eq_false h3) (And.intro (decide_eq_false h3) (And.intro h4 (And.intro h4 (And.intro h4 (And.intro h4 (And.intro h4 (And.intro h4 (And.intro h5 (And.intro (F56_ok (m + 0) (w64 (w64 (Int.tdiv (w64 (z1017 * 65536)) z1018) - 1)) z1020 h6) True.intro)))))))))))))
        · skip
          obtain ⟨z1021, h6, h⟩ := bnd_eq h
          cases h
          exact call_pathL (gs := [.an (i64 z1017) [], .an (i64 z1018) [], .f, .f, .f, .t, .t, .t, .t, .t, .t, .f, .an (i64 z1021) []]) (notIn []) rfl rfl (by kernel_rfl) (And.intro (F56_ok (m + 0) (z1014) z1017 h0) (And.intro (F56_ok (m + 0) (z1015) z1018 h1) (And.intro (Bool.eq_false_iff.mpr h2) (And.intro (decide_eq_false h3) (And.intro (decide_eq_false h3) (And.intro h4 (And.intro h4 (And.intro h4 (And.intro h4 (And.intro h4 (And.intro h4 (And.intro (Bool.eq_false_iff.mpr h5) (And.intro (F56_ok (m + 0) (w64 (Int.tdiv (w64 (z1017 * 65536)) z1018)) z1021 h6) True.intro)))))))))))))
      · skip
        obtain ⟨z1022, h5, h⟩ := bnd_eq h
        cases h
        exact call_pathL (gs := [.an (i64 z1017) [], .an (i64 z1018) [], .f, .f, .f, .f, .f, .f, .f, .f, .f, .a, .an (i64 z1022) []]) (notIn []) rfl rfl (by kernel_rfl) (And.intro (F56_ok (m + 0) (z1014) z1017 h0) (And.intro (F56_ok (m + 0) (z1015) z1018 h1) (And.intro (Bool.eq_false_iff.mpr h2) (And.intro (decide_eq_false h3) (And.intro (decide_eq_false h3) (And.intro (Bool.eq_false_iff.mpr h4) (And.intro (Bool.eq_false_iff.mpr h4) (And.intro (Bool.eq_false_iff.mpr h4) (And.intro (Bool.eq_false_iff.mpr h4) (And.intro (Bool.eq_false_iff.mpr h4) (And.intro (Bool.eq_false_iff.mpr h4) (And.intro (F56_ok (m + 0) (w64 (Int.tdiv (w64 (z1017 * 65536)) z1018)) z1022 h5) True.intro))))))))))))
/-! ## 83 -/
inductive A83 where
  | a0 (z1041 : Int) (z1042 : Int)
@[reducible] def A83.out : A83 → V × Store
  | .a0 z1041 z1042 => (V.tup [V.int IntKind.u64 z1041, V.int IntKind.u64 z1042], [])
def F83 (z1038 : Int) (z1039 : Int) : Option A83 :=
  some (A83.a0 (IntKind.wrap IntKind.u64 (IntKind.wrap IntKind.u64 (IntKind.wrap IntKind.u64 (Int.fdiv z1038 4294967296 * Int.fdiv z1039 4294967296) + Int.fdiv (IntKind.wrap IntKind.u64 (IntKind.wrap IntKind.u64 (Int.fdiv z1038 4294967296 * IntKind.wrap IntKind.u64 (↑(BitVec.toNat (BitVec.ofInt (IntKind.bits IntKind.u64) z1039 &&& BitVec.ofInt (IntKind.bits IntKind.u64) 4294967295)) : Int)) + Int.fdiv (IntKind.wrap IntKind.u64 (IntKind.wrap IntKind.u64 (↑(BitVec.toNat (BitVec.ofInt (IntKind.bits IntKind.u64) z1038 &&& BitVec.ofInt (IntKind.bits IntKind.u64) 4294967295)) : Int) * IntKind.wrap IntKind.u64 (↑(BitVec.toNat (BitVec.ofInt (IntKind.bits IntKind.u64) z1039 &&& BitVec.ofInt (IntKind.bits IntKind.u64) 4294967295)) : Int))) 4294967296)) 4294967296) + Int.fdiv (IntKind.wrap IntKind.u64 (IntKind.wrap IntKind.u64 (↑(BitVec.toNat (BitVec.ofInt (IntKind.bits IntKind.u64) (IntKind.wrap IntKind.u64 (IntKind.wrap IntKind.u64 (Int.fdiv z1038 4294967296 * IntKind.wrap IntKind.u64 (↑(BitVec.toNat (BitVec.ofInt (IntKind.bits IntKind.u64) z1039 &&& BitVec.ofInt (IntKind.bits IntKind.u64) 4294967295)) : Int)) + Int.fdiv (IntKind.wrap IntKind.u64 (IntKind.wrap IntKind.u64 (↑(BitVec.toNat (BitVec.ofInt (IntKind.bits IntKind.u64) z1038 &&& BitVec.ofInt (IntKind.bits IntKind.u64) 4294967295)) : Int) * IntKind.wrap IntKind.u64 (↑(BitVec.toNat (BitVec.ofInt (IntKind.bits IntKind.u64) z1039 &&& BitVec.ofInt (IntKind.bits IntKind.u64) 4294967295)) : Int))) 4294967296)) &&& BitVec.ofInt (IntKind.bits IntKind.u64) 4294967295)) : Int) + IntKind.wrap IntKind.u64 (IntKind.wrap IntKind.u64 (↑(BitVec.toNat (BitVec.ofInt (IntKind.bits IntKind.u64) z1038 &&& BitVec.ofInt (IntKind.bits IntKind.u64) 4294967295)) : Int) * Int.fdiv z1039 4294967296))) 4294967296)) (IntKind.wrap IntKind.u64 (z1038 * z1039)))
theorem F83_ok (m : Nat) (z1038 : Int) (z1039 : Int) (r : A83) (h : F83 z1038 z1039 = some r) : call Try.prog X O0 100000 (m + 1) 83 ([V.int IntKind.u64 z1038, V.int IntKind.u64 z1039]) ([]) = some r.out := by
  unfold F83 at h
  cases h
  exact call_pathL (gs := []) (notIn []) rfl rfl (by kernel_rfl) True.intro
/-! ## 81 -/
inductive A81 where
  | a0 (z1045 : Int) (z1046 : Int)
@[reducible] def A81.out : A81 → V × Store
  | .a0 z1045 z1046 => (V.tup [V.int IntKind.u64 z1045, V.int IntKind.u64 z1046], [])
def F81 (z1035 : Int) (z1036 : Int) : Option A81 :=
  (F83 (IntKind.wrap IntKind.u64 z1035) (IntKind.wrap IntKind.u64 z1036)).bind fun r => match r with
  | .a0 z1043 z1044 =>
   if z1035 < 0 then
    if z1036 < 0 then
     some (A81.a0 (IntKind.wrap IntKind.u64 (IntKind.wrap IntKind.u64 (z1043 - IntKind.wrap IntKind.u64 z1036) - IntKind.wrap IntKind.u64 z1035)) (z1044))
    else
     some (A81.a0 (IntKind.wrap IntKind.u64 (z1043 - IntKind.wrap IntKind.u64 z1036)) (z1044))
   else
    if z1036 < 0 then
     some (A81.a0 (IntKind.wrap IntKind.u64 (z1043 - IntKind.wrap IntKind.u64 z1035)) (z1044))
    else
     some (A81.a0 (z1043) (z1044))
theorem F81_ok (m : Nat) (z1035 : Int) (z1036 : Int) (r : A81) (h : F81 z1035 z1036 = some r) : call Try.prog X O0 100000 (m + 2) 81 ([i64 z1035, i64 z1036]) ([]) = some r.out := by
  unfold F81 at h
  obtain ⟨r0, h0, h⟩ := Option.bind_eq_some_iff.mp h
  have h0 := F83_ok (m + 0) (IntKind.wrap IntKind.u64 z1035) (IntKind.wrap IntKind.u64 z1036) r0 h0
  cases r0 with
  | a0 z1043 z1044 =>
    rcases ite_eq h with ⟨h1, h⟩ | ⟨h1, h⟩
    · skip
      rcases ite_eq h with ⟨h2, h⟩ | ⟨h2, h⟩
      · skip
        cases h
        exact call_pathL (gs := [.an (V.tup [V.int IntKind.u64 z1043, V.int IntKind.u64 z1044]) [], .t, .t]) (notIn []) rfl rfl (by kernel_rfl) (And.intro h0 (And.intro (decide_eq_true h1) (And.intro (decide_eq_true h2) True.intro)))
      · skip
        cases h
        exact call_pathL (gs := [.an (V.tup [V.int IntKind.u64 z1043, V.int IntKind.u64 z1044]) [], .t, .f]) (notIn []) rfl rfl (by kernel_rfl) (And.intro h0 (And.intro (decide_eq_true h1) (And.intro (decide_eq_false h2) True.intro)))
    · skip
      rcases ite_eq h with ⟨h2, h⟩ | ⟨h2, h⟩
      · skip
        cases h
        exact call_pathL (gs := [.an (V.tup [V.int IntKind.u64 z1043, V.int IntKind.u64 z1044]) [], .f, .t]) (notIn []) rfl rfl (by kernel_rfl) (And.intro h0 (And.intro (decide_eq_false h1) (And.intro (decide_eq_true h2) True.intro)))
      · skip
        cases h
        exact call_pathL (gs := [.an (V.tup [V.int IntKind.u64 z1043, V.int IntKind.u64 z1044]) [], .f, .f]) (notIn []) rfl rfl (by kernel_rfl) (And.intro h0 (And.intro (decide_eq_false h1) (And.intro (decide_eq_false h2) True.intro)))
/-! ## 80 -/
def F80 (z1049 : Int) (z1050 : Int) : Int :=
  if Int.fdiv (w64 z1049) 65536 < -1 then
   -9223372036854775808
  else
   if (Int.fdiv (w64 z1049) 65536 == -1) = true then
    if (Int.fdiv (IntKind.wrap IntKind.u64 (↑(BitVec.toNat (BitVec.ofInt (IntKind.bits IntKind.u64) (IntKind.wrap IntKind.u64 (z1049 * 2 ^ min (Int.toNat 48) (IntKind.bits IntKind.u64))) ||| BitVec.ofInt (IntKind.bits IntKind.u64) (Int.fdiv z1050 (2 ^ min (Int.toNat 16) (IntKind.bits IntKind.u64))))) : Int)) 9223372036854775808 == 0) = true then
     -9223372036854775808
    else
     if Int.fdiv (w64 z1049) 65536 > 0 then
      9223372036854775807
     else
      if (Int.fdiv (w64 z1049) 65536 == 0) = true then
       if (Int.fdiv (IntKind.wrap IntKind.u64 (↑(BitVec.toNat (BitVec.ofInt (IntKind.bits IntKind.u64) (IntKind.wrap IntKind.u64 (z1049 * 2 ^ min (Int.toNat 48) (IntKind.bits IntKind.u64))) ||| BitVec.ofInt (IntKind.bits IntKind.u64) (Int.fdiv z1050 (2 ^ min (Int.toNat 16) (IntKind.bits IntKind.u64))))) : Int)) 9223372036854775808 != 0) = true then
        9223372036854775807
       else
        w64 (IntKind.wrap IntKind.u64 (↑(BitVec.toNat (BitVec.ofInt (IntKind.bits IntKind.u64) (IntKind.wrap IntKind.u64 (z1049 * 2 ^ min (Int.toNat 48) (IntKind.bits IntKind.u64))) ||| BitVec.ofInt (IntKind.bits IntKind.u64) (Int.fdiv z1050 (2 ^ min (Int.toNat 16) (IntKind.bits IntKind.u64))))) : Int))
      else
       w64 (IntKind.wrap IntKind.u64 (↑(BitVec.toNat (BitVec.ofInt (IntKind.bits IntKind.u64) (IntKind.wrap IntKind.u64 (z1049 * 2 ^ min (Int.toNat 48) (IntKind.bits IntKind.u64))) ||| BitVec.ofInt (IntKind.bits IntKind.u64) (Int.fdiv z1050 (2 ^ min (Int.toNat 16) (IntKind.bits IntKind.u64))))) : Int))
   else
    if Int.fdiv (w64 z1049) 65536 > 0 then
     9223372036854775807
    else
     if (Int.fdiv (w64 z1049) 65536 == 0) = true then
      if (Int.fdiv (IntKind.wrap IntKind.u64 (↑(BitVec.toNat (BitVec.ofInt (IntKind.bits IntKind.u64) (IntKind.wrap IntKind.u64 (z1049 * 2 ^ min (Int.toNat 48) (IntKind.bits IntKind.u64))) ||| BitVec.ofInt (IntKind.bits IntKind.u64) (Int.fdiv z1050 (2 ^ min (Int.toNat 16) (IntKind.bits IntKind.u64))))) : Int)) 9223372036854775808 != 0) = true then
       9223372036854775807
      else
       w64 (IntKind.wrap IntKind.u64 (↑(BitVec.toNat (BitVec.ofInt (IntKind.bits IntKind.u64) (IntKind.wrap IntKind.u64 (z1049 * 2 ^ min (Int.toNat 48) (IntKind.bits IntKind.u64))) ||| BitVec.ofInt (IntKind.bits IntKind.u64) (Int.fdiv z1050 (2 ^ min (Int.toNat 16) (IntKind.bits IntKind.u64))))) : Int))
     else
      w64 (IntKind.wrap IntKind.u64 (↑(BitVec.toNat (BitVec.ofInt (IntKind.bits IntKind.u64) (IntKind.wrap IntKind.u64 (z1049 * 2 ^ min (Int.toNat 48) (IntKind.bits IntKind.u64))) ||| BitVec.ofInt (IntKind.bits IntKind.u64) (Int.fdiv z1050 (2 ^ min (Int.toNat 16) (IntKind.bits IntKind.u64))))) : Int))
theorem F80_ok (m : Nat) (z1049 : Int) (z1050 : Int) (z1053 : Int) (h : F80 z1049 z1050 = z1053) : call Try.prog X O0 100000 (m + 1) 80 ([V.int IntKind.u64 z1049, V.int IntKind.u64 z1050]) ([]) = some (i64 z1053, []) := by
  unfold F80 at h
  rcases ite_eq h with ⟨h0, h⟩ | ⟨h0, h⟩
  · skip
    subst h
    exact call_pathL (gs := [.t, .t, .t, .t, .t, .a]) (notIn []) rfl rfl (by kernel_rfl) (And.intro (decide_eq_true h0) (And.intro (decide_eq_true h0) (And.intro (decide_eq_true h0) (And.intro (decide_eq_true h0) (And.intro (decide_eq_true h0) True.intro)))))
  · skip
    rcases ite_eq h with ⟨h1, h⟩ | ⟨h1, h⟩
    · skip
      rcases ite_eq h with ⟨h2, h⟩ | ⟨h2, h⟩
      · skip
        subst h
        exact call_pathL (gs := [.f, .f, .f, .t, .t, .t, .f, .t, .f, .t]) (notIn []) rfl rfl (by kernel_rfl) (And.intro (decide_eq_false h0) (And.intro (decide_eq_false h0) (And.intro (decide_eq_false h0) (And.intro h1 (And.intro h1 (And.intro h1 (And.intro (decide_eq_false h0) (And.intro h1 (And.intro (decide_eq_false h0) (And.intro h2 True.intro))))))))))
      · skip
        rcases ite_eq h with ⟨h3, h⟩ | ⟨h3, h⟩
        · skip
          subst h
          exact call_pathL (gs := [.f, .f, .f, .t, .t, .t, .f, .t, .f, .f, .t, .t, .t, .t, .t, .a]) (notIn []) rfl rfl (by kernel_rfl) (And.intro (decide_eq_false h0) (And.intro (decide_eq_false h0) (And.intro (decide_eq_false h0) (And.intro h1 (And.intro h1 (And.intro h1 (And.intro (decide_eq_false h0) (And.intro h1 (And.intro (decide_eq_false h0) (And.intro (Bool.eq_false_iff.mpr h2) (And.intro (decide_eq_true h3) (And.intro (decide_eq_true h3) (And.intro (decide_eq_true h3) (And.intro (decide_eq_true h3) (And.intro (decide_eq_true h3) True.intro)))))))))))))))
        · skip
          rcases ite_eq h with ⟨h4, h⟩ | ⟨h4, h⟩
          · skip
            rcases ite_eq h with ⟨h5, h⟩ | ⟨h5, h⟩
            · skip
              subst h
              exact call_pathL (gs := [.f, .f, .f, .t, .t, .t, .f, .t, .f, .f, .f, .f, .f, .t, .t, .t, .f, .t, .f, .t]) (notIn []) rfl rfl (by kernel_rfl) (And.intro (decide_eq_false h0) (And.intro (decide_eq_false h0) (And.intro (decide_eq_false h0) (And.intro h1 (And.intro h1 (And.intro h1 (And.intro (decide_eq_false h0) (And.intro h1 (And.intro (decide_eq_false h0) (And.intro (Bool.eq_false_iff.mpr h2) (And.intro (decide_eq_false h3) (And.intro (decide_eq_false h3) (And.intro (decide_eq_false h3) (And.intro h4 (And.intro h4 (And.intro h4 (And.intro (decide_eq_false h3) (And.intro h4 (And.intro (decide_eq_false h3) (And.intro h5 True.intro))))))))))))))))))))
            · skip
              subst h
              exact call_pathL (gs := [.f, .f, .f, .t, .t, .t, .f, .t, .f, .f, .f, .f, .f, .t, .t, .t, .f, .t, .f, .f]) (notIn []) rfl rfl (by kernel_rfl) (And.intro (decide_eq_false h0) (And.intro (decide_eq_false h0) (And.intro (decide_eq_false h0) (And.intro h1 (And.intro h1 (And.intro h1 (And.intro (decide_eq_false h0) (And.intro h1 (And.intro (decide_eq_false h0) (And.intro (Bool.eq_false_iff.mpr h2) (And.intro (decide_eq_false h3) (And.intro (decide_eq_false h3) (And.intro (decide_eq_false h3) (And.intro h4 (And.intro h4 (And.intro h4 (And.intro (decide_eq_false h3) (And.intro h4 (And.intro (decide_eq_false h3) (And.intro (Bool.eq_false_iff.mpr h5) True.intro))))))))))))))))))))
          · skip
            subst h
            exact call_pathL (gs := [.f, .f, .f, .t, .t, .t, .f, .t, .f, .f, .f, .f, .f, .f, .f, .f, .f, .f, .f, .a]) (notIn []) rfl rfl (by kernel_rfl) (And.intro (decide_eq_false h0) (And.intro (decide_eq_false h0) (And.intro (decide_eq_false h0) (And.intro h1 (And.intro h1 (And.intro h1 (And.intro (decide_eq_false h0) (And.intro h1 (And.intro (decide_eq_false h0) (And.intro (Bool.eq_false_iff.mpr h2) (And.intro (decide_eq_false h3) (And.intro (decide_eq_false h3) (And.intro (decide_eq_false h3) (And.intro (Bool.eq_false_iff.mpr h4) (And.intro (Bool.eq_false_iff.mpr h4) (And.intro (Bool.eq_false_iff.mpr h4) (And.intro (decide_eq_false h3) (And.intro (Bool.eq_false_iff.mpr h4) (And.intro (decide_eq_false h3) True.intro)))))))))))))))))))
    · skip
      rcases ite_eq h with ⟨h2, h⟩ | ⟨h2, h⟩
      · skip
        subst h
        exact call_pathL (gs := [.f, .f, .f, .f, .f, .f, .f, .f, .f, .a, .t, .t, .t, .t, .t, .a]) (notIn []) rfl rfl (by kernel_rfl) (And.intro (decide_eq_false h0) (And.intro (decide_eq_false h0) (And.intro (decide_eq_false h0) (And.intro (Bool.eq_false_iff.mpr h1) (And.intro (Bool.eq_false_iff.mpr h1) (And.intro (Bool.eq_false_iff.mpr h1) (And.intro (decide_eq_false h0) (And.intro (Bool.eq_false_iff.mpr h1) (And.intro (decide_eq_false h0) (And.intro (decide_eq_true h2) (And.intro (decide_eq_true h2) (And.intro (decide_eq_true h2) (And.intro (decide_eq_true h2) (And.intro (decide_eq_true h2) True.intro))))))))))))))
      · skip
        rcases ite_eq h with ⟨h3, h⟩ | ⟨h3, h⟩
        · skip
          rcases ite_eq h with ⟨h4, h⟩ | ⟨h4, h⟩
          · skip
            subst h
            exact call_pathL (gs := [.f, .f, .f, .f, .f, .f, .f, .f, .f, .a, .f, .f, .f, .t, .t, .t, .f, .t, .f, .t]) (notIn []) rfl rfl (by kernel_rfl) (And.intro (decide_eq_false h0) (And.intro (decide_eq_false h0) (And.intro (decide_eq_false h0) (And.intro (Bool.eq_false_iff.mpr h1) (And.intro (Bool.eq_false_iff.mpr h1) (And.intro (Bool.eq_false_iff.mpr h1) (And.intro (decide_eq_false h0) (And.intro (Bool.eq_false_iff.mpr h1) (And.intro (decide_eq_false h0) (And.intro (decide_eq_false h2) (And.intro (decide_eq_false h2) (And.intro (decide_eq_false h2) (And.intro h3 (And.intro h3 (And.intro h3 (And.intro (decide_eq_false h2) (And.intro h3 (And.intro (decide_eq_false h2) (And.intro h4 True.intro)))))))))))))))))))
          · skip
            subst h
            exact call_pathL (gs := [.f, .f, .f, .f, .f, .f, .f, .f, .f, .a, .f, .f, .f, .t, .t, .t, .f, .t, .f, .f]) (notIn []) rfl rfl (by kernel_rfl) (And.intro (decide_eq_false h0) (And.intro (decide_eq_false h0) (And.intro (decide_eq_false h0) (And.intro (Bool.eq_false_iff.mpr h1) (And.intro (Bool.eq_false_iff.mpr h1) (And.intro (Bool.eq_false_iff.mpr h1) (And.intro (decide_eq_false h0) (And.intro (Bool.eq_false_iff.mpr h1) (And.intro (decide_eq_false h0) (And.intro (decide_eq_false h2) (And.intro (decide_eq_false h2) (And.intro (decide_eq_false h2) (And.intro h3 (And.intro h3 (And.intro h3 (And.intro (decide_eq_false h2) (And.intro h3 (And.intro (decide_eq_false h2) (And.intro (Bool.eq_false_iff.mpr h4) True.intro)))))))))))))))))))
        · skip
          subst h
          exact call_pathL (gs := [.f, .f, .f, .f, .f, .f, .f, .f, .f, .a, .f, .f, .f, .f, .f, .f, .f, .f, .f, .a]) (notIn []) rfl rfl (by kernel_rfl) (And.intro (decide_eq_false h0) (And.intro (decide_eq_false h0) (And.intro (decide_eq_false h0) (And.intro (Bool.eq_false_iff.mpr h1) (And.intro (Bool.eq_false_iff.mpr h1) (And.intro (Bool.eq_false_iff.mpr h1) (And.intro (decide_eq_false h0) (And.intro (Bool.eq_false_iff.mpr h1) (And.intro (decide_eq_false h0) (And.intro (decide_eq_false h2) (And.intro (decide_eq_false h2) (And.intro (decide_eq_false h2) (And.intro (Bool.eq_false_iff.mpr h3) (And.intro (Bool.eq_false_iff.mpr h3) (And.intro (Bool.eq_false_iff.mpr h3) (And.intro (decide_eq_false h2) (And.intro (Bool.eq_false_iff.mpr h3) (And.intro (decide_eq_false h2) True.intro))))))))))))))))))
/-! ## 62 -/
inductive A62 where
  | a0 (z1056 : Int)
@[reducible] def A62.out : A62 → V × Store
  | .a0 z1056 => (i64 z1056, [])
def F62 (z1030 : Int) (z1031 : Int) : Option A62 :=
  bnd (F56 (z1030)) fun z1033 =>
  bnd (F56 (z1031)) fun z1034 =>
  (F81 (z1033) (z1034)).bind fun r => match r with
  | .a0 z1047 z1048 =>
   bnd (F80 (z1047) (z1048)) fun z1054 =>
   bnd (F56 (z1054)) fun z1055 =>
   some (A62.a0 (z1055))
theorem F62_ok (m : Nat) (z1030 : Int) (z1031 : Int) (r : A62) (h : F62 z1030 z1031 = some r) : call Try.prog X O0 100000 (m + 3) 62 ([i64 z1030, i64 z1031]) ([]) = some r.out := by
  unfold F62 at h
  obtain ⟨z1033, h0, h⟩ := bnd_eq h
  obtain ⟨z1034, h1, h⟩ := bnd_eq h
  obtain ⟨r2, h2, h⟩ := Option.bind_eq_some_iff.mp h
  have h2 := F81_ok (m + 0) (z1033) (z1034) r2 h2
  cases r2 with
  | a0 z1047 z1048 =>
    obtain ⟨z1054, h3, h⟩ := bnd_eq h
    obtain ⟨z1055, h4, h⟩ := bnd_eq h
    cases h
    exact call_pathL (gs := [.an (i64 z1033) [], .an (i64 z1034) [], .an (V.tup [V.int IntKind.u64 z1047, V.int IntKind.u64 z1048]) [], .an (i64 z1054) [], .an (i64 z1055) []]) (notIn []) rfl rfl (by kernel_rfl) (And.intro (F56_ok (m + 0) (z1030) z1033 h0) (And.intro (F56_ok (m + 0) (z1031) z1034 h1) (And.intro h2 (And.intro (F80_ok (m + 1) (z1047) (z1048) z1054 h3) (And.intro (F56_ok (m + 0) (z1054) z1055 h4) True.intro)))))
/-! ## 77 -/
inductive A77 where
  | a0 (z1059 : Int)
@[reducible] def A77.out : A77 → V × Store
  | .a0 z1059 => (i64 z1059, [])
def F77 (z1024 : Int) (z1025 : Int) (z1026 : Int) : Option A77 :=
  bnd (F56 (z1024)) fun z1028 =>
  bnd (F55 (z1025) (w64 (0 - z1028))) fun z1029 =>
  (F62 (z1029) (z1026)).bind fun r => match r with
  | .a0 z1057 =>
   bnd (F55 (z1028) (z1057)) fun z1058 =>
   some (A77.a0 (z1058))
theorem F77_ok (m : Nat) (z1024 : Int) (z1025 : Int) (z1026 : Int) (r : A77) (h : F77 z1024 z1025 z1026 = some r) : call Try.prog X O0 100000 (m + 4) 77 ([i64 z1024, i64 z1025, i64 z1026]) ([]) = some r.out := by
  unfold F77 at h
  obtain ⟨z1028, h0, h⟩ := bnd_eq h
  obtain ⟨z1029, h1, h⟩ := bnd_eq h
  obtain ⟨r2, h2, h⟩ := Option.bind_eq_some_iff.mp h
  have h2 := F62_ok (m + 0) (z1029) (z1026) r2 h2
  cases r2 with
  | a0 z1057 =>
    obtain ⟨z1058, h3, h⟩ := bnd_eq h
    cases h
    exact call_pathL (gs := [.an (i64 z1028) [], .an (i64 z1029) [], .an (i64 z1057) [], .an (i64 z1058) []]) (notIn []) rfl rfl (by kernel_rfl) (And.intro (F56_ok (m + 1) (z1024) z1028 h0) (And.intro (F55_ok (m + 0) (z1025) (w64 (0 - z1028)) z1029 h1) (And.intro h2 (And.intro (F55_ok (m + 0) (z1028) (z1057) z1058 h3) True.intro))))
/-! ## 57 -/
inductive A57 where
  | a0 (z1012 : Int) (z1013 : Int)
@[reducible] def A57.out : A57 → V × Store
  | .a0 z1012 z1013 => (V.agg [i64 z1012, i64 z1013], [])
def F57 (z1001 : Int) (z1002 : Int) (z1003 : Int) (z1004 : Int) (z1005 : Int) (z1006 : Int) : Option A57 :=
  (F75 (z1001) (z1002)).bind fun r => match r with
  | .a0 z1008 z1009 =>
   (F75 (z1003) (z1004)).bind fun r => match r with
   | .a0 z1010 z1011 =>
    if z1005 ≤ 0 then
     some (A57.a0 (z1008) (z1009))
    else
     if z1005 ≥ z1006 then
      some (A57.a0 (z1010) (z1011))
     else
      (F60 (z1005) (z1006)).bind fun r => match r with
      | .a0 z1023 =>
       (F77 (z1008) (z1010) (z1023)).bind fun r => match r with
       | .a0 z1060 =>
        (F77 (z1009) (z1011) (z1023)).bind fun r => match r with
        | .a0 z1061 =>
         some (A57.a0 (z1060) (z1061))
theorem F57_ok (m : Nat) (z1001 : Int) (z1002 : Int) (z1003 : Int) (z1004 : Int) (z1005 : Int) (z1006 : Int) (r : A57) (h : F57 z1001 z1002 z1003 z1004 z1005 z1006 = some r) : call Try.prog X O0 100000 (m + 5) 57 ([V.agg [i64 z1001, i64 z1002], V.agg [i64 z1003, i64 z1004], i64 z1005, i64 z1006]) ([]) = some r.out := by
  unfold F57 at h
  obtain ⟨r0, h0, h⟩ := Option.bind_eq_some_iff.mp h
  have h0 := F75_ok (m + 1) (z1001) (z1002) r0 h0
  cases r0 with
  | a0 z1008 z1009 =>
    obtain ⟨r1, h1, h⟩ := Option.bind_eq_some_iff.mp h
    have h1 := F75_ok (m + 1) (z1003) (z1004) r1 h1
    cases r1 with
    | a0 z1010 z1011 =>
      rcases ite_eq h with ⟨h2, h⟩ | ⟨h2, h⟩
      · skip
        cases h
        exact call_pathL (gs := [.a, .an (V.agg [i64 z1008, i64 z1009]) [], .a, .an (V.agg [i64 z1010, i64 z1011]) [], .a, .a, .ft [⟨0, [0], []⟩, ⟨1, [], []⟩, ⟨2, [1], []⟩, ⟨3, [], []⟩, ⟨4, [0], [0]⟩, ⟨5, [1], [1]⟩], .t, .a, .a]) (notIn []) rfl rfl (by kernel_rfl) (And.intro h0 (And.intro h1 (And.intro (Eq.refl ([⟨0, [0], []⟩, ⟨1, [], []⟩, ⟨2, [1], []⟩, ⟨3, [], []⟩, ⟨4, [0], [0]⟩, ⟨5, [1], [1]⟩] : List Foot)) (And.intro (decide_eq_true h2) True.intro))))
      · skip
        rcases ite_eq h with ⟨h3, h⟩ | ⟨h3, h⟩
        · skip
          cases h
          exact call_pathL (gs := [.a, .an (V.agg [i64 z1008, i64 z1009]) [], .a, .an (V.agg [i64 z1010, i64 z1011]) [], .a, .a, .ft [⟨0, [0], []⟩, ⟨1, [], []⟩, ⟨2, [1], []⟩, ⟨3, [], []⟩, ⟨4, [0], [0]⟩, ⟨5, [1], [1]⟩], .f, .t, .a, .a]) (notIn []) rfl rfl (by kernel_rfl) (And.intro h0 (And.intro h1 (And.intro (Eq.refl ([⟨0, [0], []⟩, ⟨1, [], []⟩, ⟨2, [1], []⟩, ⟨3, [], []⟩, ⟨4, [0], [0]⟩, ⟨5, [1], [1]⟩] : List Foot)) (And.intro (decide_eq_false h2) (And.intro (decide_eq_true h3) True.intro)))))
        · skip
          obtain ⟨r4, h4, h⟩ := Option.bind_eq_some_iff.mp h
          have h4 := F60_ok (m + 1) (z1005) (z1006) r4 h4
          cases r4 with
          | a0 z1023 =>
            obtain ⟨r5, h5, h⟩ := Option.bind_eq_some_iff.mp h
            have h5 := F77_ok (m + 0) (z1008) (z1010) (z1023) r5 h5
            cases r5 with
            | a0 z1060 =>
              obtain ⟨r6, h6, h⟩ := Option.bind_eq_some_iff.mp h
              have h6 := F77_ok (m + 0) (z1009) (z1011) (z1023) r6 h6
              cases r6 with
              | a0 z1061 =>
                cases h
                exact call_pathL (gs := [.a, .an (V.agg [i64 z1008, i64 z1009]) [], .a, .an (V.agg [i64 z1010, i64 z1011]) [], .a, .a, .ft [⟨0, [0], []⟩, ⟨1, [], []⟩, ⟨2, [1], []⟩, ⟨3, [], []⟩, ⟨4, [0], [0]⟩, ⟨5, [1], [1]⟩], .f, .f, .an (i64 z1023) [], .a, .a, .an (i64 z1060) [], .a, .a, .an (i64 z1061) [], .a, .ft [⟨0, [0], []⟩, ⟨1, [0], []⟩, ⟨2, [1], []⟩, ⟨3, [1], []⟩, ⟨4, [], []⟩, ⟨5, [], []⟩, ⟨6, [0], []⟩, ⟨7, [0], []⟩, ⟨8, [1], []⟩, ⟨9, [1], []⟩, ⟨10, [], []⟩, ⟨11, [], []⟩, ⟨12, [], []⟩, ⟨13, [2], [2]⟩]]) (notIn []) rfl rfl (by kernel_rfl) (And.intro h0 (And.intro h1 (And.intro (Eq.refl ([⟨0, [0], []⟩, ⟨1, [], []⟩, ⟨2, [1], []⟩, ⟨3, [], []⟩, ⟨4, [0], [0]⟩, ⟨5, [1], [1]⟩] : List Foot)) (And.intro (decide_eq_false h2) (And.intro (decide_eq_false h3) (And.intro h4 (And.intro h5 (And.intro h6 (And.intro (Eq.refl ([⟨0, [0], []⟩, ⟨1, [0], []⟩, ⟨2, [1], []⟩, ⟨3, [1], []⟩, ⟨4, [], []⟩, ⟨5, [], []⟩, ⟨6, [0], []⟩, ⟨7, [0], []⟩, ⟨8, [1], []⟩, ⟨9, [1], []⟩, ⟨10, [], []⟩, ⟨11, [], []⟩, ⟨12, [], []⟩, ⟨13, [2], [2]⟩] : List Foot)) True.intro)))))))))
/-! ## 33 -/
noncomputable abbrev B33v1 : Code := (Try.f33.body).getD .skip
inductive R33v1_0 where
  | e0
  | e1 (k1187 : Nat) (l1188 : List (List V))
@[reducible] def s33v1_0_0 (z1154 : Int) (z1155 : Int) (z1156 : Int) (z1157 : Int) (z1158 : Int) (b1159 : Bool) (b1160 : Bool) (l1161 : List (List V)) : S := { T := U :: i64 z1154 :: i64 z1155 :: V.ptr 0 0 0 :: U :: U :: V.ptr 1 0 0 :: V.ptr 2 0 0 :: i64 z1156 :: un 13 (i64 z1157 :: i64 z1158 :: vb b1159 :: un 55 []), σ := [Ob.cells true false 2 [[vb b1160, V.list 2 l1161]], Ob.cells true false 2 [[vb false, V.nilS]], Ob.cells true false 2 [[vb false, V.nilS]]] }
@[reducible] def s33v1_0_1 (z1179 : Int) (z1180 : Int) (z1181 : Int) (z1182 : Int) (z1183 : Int) (b1184 : Bool) (b1185 : Bool) (l1186 : List (List V)) (k1187 : Nat) (l1188 : List (List V)) : S := { T := U :: i64 z1179 :: i64 z1180 :: V.ptr 0 0 0 :: U :: U :: V.ptr 1 0 0 :: V.ptr 2 0 0 :: i64 z1181 :: un 13 (i64 z1182 :: i64 z1183 :: vb b1184 :: un 55 []), σ := [Ob.cells true false 2 [[vb b1185, V.list 2 l1186]], Ob.cells true false 2 [[vb false, V.nilS]], Ob.cells true false 2 [[vb false, V.hs 3 0 k1187]], Ob.cells true true 2 l1188] }
def R33v1_0.St : R33v1_0 → VX × S → Prop
  | .e0, p => ∃ z1154 : Int, ∃ z1155 : Int, ∃ z1156 : Int, ∃ z1157 : Int, ∃ z1158 : Int, ∃ b1159 : Bool, ∃ b1160 : Bool, ∃ l1161 : List (List V), p = (VX.exit 0, s33v1_0_0 z1154 z1155 z1156 z1157 z1158 b1159 b1160 l1161)
  | .e1 k1187 l1188, p => ∃ z1179 : Int, ∃ z1180 : Int, ∃ z1181 : Int, ∃ z1182 : Int, ∃ z1183 : Int, ∃ b1184 : Bool, ∃ b1185 : Bool, ∃ l1186 : List (List V), p = (VX.exit 0, s33v1_0_1 z1179 z1180 z1181 z1182 z1183 b1184 b1185 l1186 k1187 l1188)
def L33v1_0s1 : Nat → Int → Int → Int → Int → Int → Bool → List (List V) → Nat → List (List V) → Option R33v1_0
  | 0, _, _, _, _, _, _, _, _, _ => none
  | n + 1, z1099, z1100, z1101, z1102, z1103, b1104, l1105, k1106, l1107 =>
    if z1103 < z1102 then
     (F54v1 (b1104) (l1105) (z1103)).bind fun r => match r with
     | .a0 z1162 z1163 z1164 z1165 z1166 =>
      if z1166 > 0 then
       bnd (F55 (z1101) (z1166)) fun z1167 =>
       if z1167 > z1099 then
        if z1101 < z1100 then
         if ((↑k1106 : Int) == 0) = true then
          (F57 (z1162) (z1163) (z1164) (z1165) (w64 (z1099 - z1101)) (z1166)).bind fun r => match r with
          | .a0 z1168 z1169 =>
           if 0 + k1106 ≤ List.length l1107 ∧ (k1106 + 1) * 16 ≤ 140737488355328 ∧ k1106 + 1 ≤ 140737488355328 then
            (F57 (z1162) (z1163) (z1164) (z1165) (w64 (z1100 - z1101)) (z1166)).bind fun r => match r with
            | .a0 z1170 z1171 =>
             if 0 + (k1106 + 1) ≤ List.length (List.take k1106 l1107 ++ [[i64 z1168, i64 z1169]]) ∧ (k1106 + 1 + 1) * 16 ≤ 140737488355328 ∧ k1106 + 1 + 1 ≤ 140737488355328 then
              bnd (F55 (z1101) (z1166)) fun z1172 =>
              L33v1_0s1 n (z1099) (z1100) (z1172) (z1102) (w64 (z1103 + 1)) (b1104) (l1105) (k1106 + 1 + 1) (List.take (k1106 + 1) (List.take k1106 l1107 ++ [[i64 z1168, i64 z1169]]) ++ [[i64 z1170, i64 z1171]])
             else
              none -- none
           else
            none -- none
         else
          (F57 (z1162) (z1163) (z1164) (z1165) (w64 (z1100 - z1101)) (z1166)).bind fun r => match r with
          | .a0 z1173 z1174 =>
           if 0 + k1106 ≤ List.length l1107 ∧ (k1106 + 1) * 16 ≤ 140737488355328 ∧ k1106 + 1 ≤ 140737488355328 then
            bnd (F55 (z1101) (z1166)) fun z1175 =>
            L33v1_0s1 n (z1099) (z1100) (z1175) (z1102) (w64 (z1103 + 1)) (b1104) (l1105) (k1106 + 1) (List.take k1106 l1107 ++ [[i64 z1173, i64 z1174]])
           else
            none -- none
        else
         bnd (F55 (z1101) (z1166)) fun z1176 =>
         L33v1_0s1 n (z1099) (z1100) (z1176) (z1102) (w64 (z1103 + 1)) (b1104) (l1105) (k1106) (l1107)
       else
        bnd (F55 (z1101) (z1166)) fun z1177 =>
        L33v1_0s1 n (z1099) (z1100) (z1177) (z1102) (w64 (z1103 + 1)) (b1104) (l1105) (k1106) (l1107)
      else
       bnd (F55 (z1101) (z1166)) fun z1178 =>
       L33v1_0s1 n (z1099) (z1100) (z1178) (z1102) (w64 (z1103 + 1)) (b1104) (l1105) (k1106) (l1107)
    else
     some (R33v1_0.e1 (k1106) (l1107))
theorem L33v1_0s1_ok (m : Nat) : ∀ (n : Nat) (z1099 : Int) (z1100 : Int) (z1101 : Int) (z1102 : Int) (z1103 : Int) (b1104 : Bool) (l1105 : List (List V)) (k1106 : Nat) (l1107 : List (List V)) (r : R33v1_0), L33v1_0s1 n z1099 z1100 z1101 z1102 z1103 b1104 l1105 k1106 l1107 = some r → ∃ st, loopFrom Try.prog X (call Try.prog X O0 100000 (m + 5)) 33 (0) 100000 B33v1 0 n ({ T := U :: i64 z1099 :: i64 z1100 :: V.ptr 0 0 0 :: U :: U :: V.ptr 1 0 0 :: V.ptr 2 0 0 :: i64 z1101 :: un 13 (i64 z1102 :: i64 z1103 :: un 56 []), σ := [Ob.cells true false 2 [[vb b1104, V.list 2 l1105]], Ob.cells true false 2 [[vb false, V.nilS]], Ob.cells true false 2 [[vb false, V.hs 3 0 k1106]], Ob.cells true true 2 l1107] }) = some st ∧ r.St st
  | 0, _, _, _, _, _, _, _, _, _, r, h => by cases h
  | n + 1, z1099, z1100, z1101, z1102, z1103, b1104, l1105, k1106, l1107, r, h => by
    rw [L33v1_0s1] at h
    rcases ite_eq h with ⟨h0, h⟩ | ⟨h0, h⟩
    · skip
      obtain ⟨r1, h1, h⟩ := Option.bind_eq_some_iff.mp h
      have h1 := F54v1_ok (m + 1) (b1104) (l1105) (z1103) r1 h1
      cases r1 with
      | a0 z1162 z1163 z1164 z1165 z1166 =>
        rcases ite_eq h with ⟨h2, h⟩ | ⟨h2, h⟩
        · skip
          obtain ⟨z1167, h3, h⟩ := bnd_eq h
          rcases ite_eq h with ⟨h4, h⟩ | ⟨h4, h⟩
          · skip
            rcases ite_eq h with ⟨h5, h⟩ | ⟨h5, h⟩
            · skip
              rcases ite_eq h with ⟨h6, h⟩ | ⟨h6, h⟩
              · skip
                obtain ⟨r7, h7, h⟩ := Option.bind_eq_some_iff.mp h
                have h7 := F57_ok (m + 0) (z1162) (z1163) (z1164) (z1165) (w64 (z1099 - z1101)) (z1166) r7 h7
                cases r7 with
                | a0 z1168 z1169 =>
                  rcases ite_eq h with ⟨h8, h⟩ | ⟨h8, h⟩
                  · skip
                    obtain ⟨r9, h9, h⟩ := Option.bind_eq_some_iff.mp h
                    have h9 := F57_ok (m + 0) (z1162) (z1163) (z1164) (z1165) (w64 (z1100 - z1101)) (z1166) r9 h9
                    cases r9 with
                    | a0 z1170 z1171 =>
                      rcases ite_eq h with ⟨h10, h⟩ | ⟨h10, h⟩
                      · skip
                        obtain ⟨z1172, h11, h⟩ := bnd_eq h
                        obtain ⟨st, hs, hr⟩ := L33v1_0s1_ok m n (z1099) (z1100) (z1172) (z1102) (w64 (z1103 + 1)) (b1104) (l1105) (k1106 + 1 + 1) (List.take (k1106 + 1) (List.take k1106 l1107 ++ [[i64 z1168, i64 z1169]]) ++ [[i64 z1170, i64 z1171]]) r h
                        exact ⟨st, (round_on (gs := [.t, .a, .an (V.tup [V.agg [i64 z1162, i64 z1163], V.agg [i64 z1164, i64 z1165], i64 z1166]) [], .a, .a, .t, .t, .t, .an (i64 z1167) [], .t, .t, .t, .t, .t, .t, .t, .t, .a, .t, .a, .a, .a, .an (V.agg [i64 z1168, i64 z1169]) [], .a, .t, .a, .ft [⟨0, [2], []⟩, ⟨1, [2], []⟩, ⟨2, [7], []⟩, ⟨3, [8], []⟩, ⟨4, [], []⟩, ⟨5, [], []⟩, ⟨6, [], []⟩, ⟨7, [], []⟩, ⟨8, [], []⟩, ⟨9, [9], [9]⟩, ⟨10, [9, 10, 3], [3, 10]⟩, ⟨11, [2], []⟩, ⟨12, [2], [2]⟩], .a, .a, .a, .an (V.agg [i64 z1170, i64 z1171]) [], .a, .t, .a, .ft [⟨0, [2], []⟩, ⟨1, [2], []⟩, ⟨2, [7], []⟩, ⟨3, [8], []⟩, ⟨4, [], []⟩, ⟨5, [], []⟩, ⟨6, [], []⟩, ⟨7, [], []⟩, ⟨8, [], []⟩, ⟨9, [11], [11]⟩, ⟨10, [11, 12, 10], [10, 12]⟩, ⟨11, [2], []⟩, ⟨12, [2], [2]⟩], .an (i64 z1172) []]) (notIn []) (by kernel_rfl) (And.intro (decide_eq_true h0) (And.intro h1 (And.intro (decide_eq_true h2) (And.intro (decide_eq_true h2) (And.intro (decide_eq_true h2) (And.intro (F55_ok (m + 2) (z1101) (z1166) z1167 h3) (And.intro (decide_eq_true h2) (And.intro (decide_eq_true h2) (And.intro (decide_eq_true h2) (And.intro (decide_eq_true h4) (And.intro (decide_eq_true h4) (And.intro (decide_eq_true h4) (And.intro (decide_eq_true h4) (And.intro (decide_eq_true h5) (And.intro h6 (And.intro h7 (And.intro (decide_eq_true h8) (And.intro (Eq.refl ([⟨0, [2], []⟩, ⟨1, [2], []⟩, ⟨2, [7], []⟩, ⟨3, [8], []⟩, ⟨4, [], []⟩, ⟨5, [], []⟩, ⟨6, [], []⟩, ⟨7, [], []⟩, ⟨8, [], []⟩, ⟨9, [9], [9]⟩, ⟨10, [9, 10, 3], [3, 10]⟩, ⟨11, [2], []⟩, ⟨12, [2], [2]⟩] : List Foot)) (And.intro h9 (And.intro (decide_eq_true h10) (And.intro (Eq.refl ([⟨0, [2], []⟩, ⟨1, [2], []⟩, ⟨2, [7], []⟩, ⟨3, [8], []⟩, ⟨4, [], []⟩, ⟨5, [], []⟩, ⟨6, [], []⟩, ⟨7, [], []⟩, ⟨8, [], []⟩, ⟨9, [11], [11]⟩, ⟨10, [11, 12, 10], [10, 12]⟩, ⟨11, [2], []⟩, ⟨12, [2], [2]⟩] : List Foot)) (And.intro (F55_ok (m + 2) (z1101) (z1166) z1172 h11) True.intro)))))))))))))))))))))) n).trans hs, hr⟩
                      · skip
                        cases h
                  · skip
                    cases h
              · skip
                obtain ⟨r7, h7, h⟩ := Option.bind_eq_some_iff.mp h
                have h7 := F57_ok (m + 0) (z1162) (z1163) (z1164) (z1165) (w64 (z1100 - z1101)) (z1166) r7 h7
                cases r7 with
                | a0 z1173 z1174 =>
                  rcases ite_eq h with ⟨h8, h⟩ | ⟨h8, h⟩
                  · skip
                    obtain ⟨z1175, h9, h⟩ := bnd_eq h
                    obtain ⟨st, hs, hr⟩ := L33v1_0s1_ok m n (z1099) (z1100) (z1175) (z1102) (w64 (z1103 + 1)) (b1104) (l1105) (k1106 + 1) (List.take k1106 l1107 ++ [[i64 z1173, i64 z1174]]) r h
                    exact ⟨st, (round_on (gs := [.t, .a, .an (V.tup [V.agg [i64 z1162, i64 z1163], V.agg [i64 z1164, i64 z1165], i64 z1166]) [], .a, .a, .t, .t, .t, .an (i64 z1167) [], .t, .t, .t, .t, .t, .t, .t, .t, .a, .f, .a, .a, .a, .an (V.agg [i64 z1173, i64 z1174]) [], .a, .t, .a, .ft [⟨0, [2], []⟩, ⟨1, [2], []⟩, ⟨2, [7], []⟩, ⟨3, [8], []⟩, ⟨4, [], []⟩, ⟨5, [], []⟩, ⟨6, [], []⟩, ⟨7, [], []⟩, ⟨8, [], []⟩, ⟨9, [9], [9]⟩, ⟨10, [9, 10, 3], [3, 10]⟩, ⟨11, [2], []⟩, ⟨12, [2], [2]⟩], .an (i64 z1175) []]) (notIn []) (by kernel_rfl) (And.intro (decide_eq_true h0) (And.intro h1 (And.intro (decide_eq_true h2) (And.intro (decide_eq_true h2) (And.intro (decide_eq_true h2) (And.intro (F55_ok (m + 2) (z1101) (z1166) z1167 h3) (And.intro (decide_eq_true h2) (And.intro (decide_eq_true h2) (And.intro (decide_eq_true h2) (And.intro (decide_eq_true h4) (And.intro (decide_eq_true h4) (And.intro (decide_eq_true h4) (And.intro (decide_eq_true h4) (And.intro (decide_eq_true h5) (And.intro (Bool.eq_false_iff.mpr h6) (And.intro h7 (And.intro (decide_eq_true h8) (And.intro (Eq.refl ([⟨0, [2], []⟩, ⟨1, [2], []⟩, ⟨2, [7], []⟩, ⟨3, [8], []⟩, ⟨4, [], []⟩, ⟨5, [], []⟩, ⟨6, [], []⟩, ⟨7, [], []⟩, ⟨8, [], []⟩, ⟨9, [9], [9]⟩, ⟨10, [9, 10, 3], [3, 10]⟩, ⟨11, [2], []⟩, ⟨12, [2], [2]⟩] : List Foot)) (And.intro (F55_ok (m + 2) (z1101) (z1166) z1175 h9) True.intro))))))))))))))))))) n).trans hs, hr⟩
                  · skip
                    cases h
            · skip
              obtain ⟨z1176, h6, h⟩ := bnd_eq h
              obtain ⟨st, hs, hr⟩ := L33v1_0s1_ok m n (z1099) (z1100) (z1176) (z1102) (w64 (z1103 + 1)) (b1104) (l1105) (k1106) (l1107) r h
              exact ⟨st, (round_on (gs := [.t, .a, .an (V.tup [V.agg [i64 z1162, i64 z1163], V.agg [i64 z1164, i64 z1165], i64 z1166]) [], .a, .a, .t, .t, .t, .an (i64 z1167) [], .t, .t, .t, .t, .t, .t, .t, .f, .an (i64 z1176) []]) (notIn []) (by kernel_rfl) (And.intro (decide_eq_true h0) (And.intro h1 (And.intro (decide_eq_true h2) (And.intro (decide_eq_true h2) (And.intro (decide_eq_true h2) (And.intro (F55_ok (m + 2) (z1101) (z1166) z1167 h3) (And.intro (decide_eq_true h2) (And.intro (decide_eq_true h2) (And.intro (decide_eq_true h2) (And.intro (decide_eq_true h4) (And.intro (decide_eq_true h4) (And.intro (decide_eq_true h4) (And.intro (decide_eq_true h4) (And.intro (decide_eq_false h5) (And.intro (F55_ok (m + 2) (z1101) (z1166) z1176 h6) True.intro))))))))))))))) n).trans hs, hr⟩
          · skip
            obtain ⟨z1177, h5, h⟩ := bnd_eq h
            obtain ⟨st, hs, hr⟩ := L33v1_0s1_ok m n (z1099) (z1100) (z1177) (z1102) (w64 (z1103 + 1)) (b1104) (l1105) (k1106) (l1107) r h
            exact ⟨st, (round_on (gs := [.t, .a, .an (V.tup [V.agg [i64 z1162, i64 z1163], V.agg [i64 z1164, i64 z1165], i64 z1166]) [], .a, .a, .t, .t, .t, .an (i64 z1167) [], .t, .t, .t, .f, .f, .f, .f, .a, .an (i64 z1177) []]) (notIn []) (by kernel_rfl) (And.intro (decide_eq_true h0) (And.intro h1 (And.intro (decide_eq_true h2) (And.intro (decide_eq_true h2) (And.intro (decide_eq_true h2) (And.intro (F55_ok (m + 2) (z1101) (z1166) z1167 h3) (And.intro (decide_eq_true h2) (And.intro (decide_eq_true h2) (And.intro (decide_eq_true h2) (And.intro (decide_eq_false h4) (And.intro (decide_eq_false h4) (And.intro (decide_eq_false h4) (And.intro (decide_eq_false h4) (And.intro (F55_ok (m + 2) (z1101) (z1166) z1177 h5) True.intro)))))))))))))) n).trans hs, hr⟩
        · skip
          obtain ⟨z1178, h3, h⟩ := bnd_eq h
          obtain ⟨st, hs, hr⟩ := L33v1_0s1_ok m n (z1099) (z1100) (z1178) (z1102) (w64 (z1103 + 1)) (b1104) (l1105) (k1106) (l1107) r h
          exact ⟨st, (round_on (gs := [.t, .a, .an (V.tup [V.agg [i64 z1162, i64 z1163], V.agg [i64 z1164, i64 z1165], i64 z1166]) [], .a, .a, .f, .f, .f, .f, .f, .f, .a, .a, .a, .a, .a, .an (i64 z1178) []]) (notIn []) (by kernel_rfl) (And.intro (decide_eq_true h0) (And.intro h1 (And.intro (decide_eq_false h2) (And.intro (decide_eq_false h2) (And.intro (decide_eq_false h2) (And.intro (decide_eq_false h2) (And.intro (decide_eq_false h2) (And.intro (decide_eq_false h2) (And.intro (F55_ok (m + 2) (z1101) (z1166) z1178 h3) True.intro))))))))) n).trans hs, hr⟩
    · skip
      cases h
      exact ⟨_, round_out (gs := [.f]) (notIn []) (by kernel_rfl) rfl (And.intro (decide_eq_false h0) True.intro) n, z1099, z1100, z1101, z1102, z1103, decide (z1103 < z1102), b1104, l1105, rfl⟩
def L33v1_0 : Nat → Int → Int → Int → Int → Int → Bool → List (List V) → Option R33v1_0
  | 0, _, _, _, _, _, _, _ => none
  | n + 1, z1075, z1076, z1077, z1078, z1079, b1080, l1081 =>
    if z1079 < z1078 then
     (F54v1 (b1080) (l1081) (z1079)).bind fun r => match r with
     | .a0 z1140 z1141 z1142 z1143 z1144 =>
      if z1144 > 0 then
       bnd (F55 (z1077) (z1144)) fun z1145 =>
       if z1145 > z1075 then
        if z1077 < z1076 then
         (F57 (z1140) (z1141) (z1142) (z1143) (w64 (z1075 - z1077)) (z1144)).bind fun r => match r with
         | .a0 z1146 z1147 =>
          (F57 (z1140) (z1141) (z1142) (z1143) (w64 (z1076 - z1077)) (z1144)).bind fun r => match r with
          | .a0 z1148 z1149 =>
           bnd (F55 (z1077) (z1144)) fun z1150 =>
           L33v1_0s1 n (z1075) (z1076) (z1150) (z1078) (w64 (z1079 + 1)) (b1080) (l1081) (2) ([[i64 z1146, i64 z1147], [i64 z1148, i64 z1149]])
        else
         bnd (F55 (z1077) (z1144)) fun z1151 =>
         L33v1_0 n (z1075) (z1076) (z1151) (z1078) (w64 (z1079 + 1)) (b1080) (l1081)
       else
        bnd (F55 (z1077) (z1144)) fun z1152 =>
        L33v1_0 n (z1075) (z1076) (z1152) (z1078) (w64 (z1079 + 1)) (b1080) (l1081)
      else
       bnd (F55 (z1077) (z1144)) fun z1153 =>
       L33v1_0 n (z1075) (z1076) (z1153) (z1078) (w64 (z1079 + 1)) (b1080) (l1081)
    else
     some (R33v1_0.e0)
theorem L33v1_0_ok (m : Nat) : ∀ (n : Nat) (z1075 : Int) (z1076 : Int) (z1077 : Int) (z1078 : Int) (z1079 : Int) (b1080 : Bool) (l1081 : List (List V)) (r : R33v1_0), L33v1_0 n z1075 z1076 z1077 z1078 z1079 b1080 l1081 = some r → ∃ st, loopFrom Try.prog X (call Try.prog X O0 100000 (m + 5)) 33 (0) 100000 B33v1 0 n ({ T := U :: i64 z1075 :: i64 z1076 :: V.ptr 0 0 0 :: U :: U :: V.ptr 1 0 0 :: V.ptr 2 0 0 :: i64 z1077 :: un 13 (i64 z1078 :: i64 z1079 :: un 56 []), σ := [Ob.cells true false 2 [[vb b1080, V.list 2 l1081]], Ob.cells true false 2 [[vb false, V.nilS]], Ob.cells true false 2 [[vb false, V.nilS]]] }) = some st ∧ r.St st
  | 0, _, _, _, _, _, _, _, r, h => by cases h
  | n + 1, z1075, z1076, z1077, z1078, z1079, b1080, l1081, r, h => by
    rw [L33v1_0] at h
    rcases ite_eq h with ⟨h0, h⟩ | ⟨h0, h⟩
    · skip
      obtain ⟨r1, h1, h⟩ := Option.bind_eq_some_iff.mp h
      have h1 := F54v1_ok (m + 1) (b1080) (l1081) (z1079) r1 h1
      cases r1 with
      | a0 z1140 z1141 z1142 z1143 z1144 =>
        rcases ite_eq h with ⟨h2, h⟩ | ⟨h2, h⟩
        · skip
          obtain ⟨z1145, h3, h⟩ := bnd_eq h
          rcases ite_eq h with ⟨h4, h⟩ | ⟨h4, h⟩
          · skip
            rcases ite_eq h with ⟨h5, h⟩ | ⟨h5, h⟩
            · skip
              obtain ⟨r6, h6, h⟩ := Option.bind_eq_some_iff.mp h
              have h6 := F57_ok (m + 0) (z1140) (z1141) (z1142) (z1143) (w64 (z1075 - z1077)) (z1144) r6 h6
              cases r6 with
              | a0 z1146 z1147 =>
                obtain ⟨r7, h7, h⟩ := Option.bind_eq_some_iff.mp h
                have h7 := F57_ok (m + 0) (z1140) (z1141) (z1142) (z1143) (w64 (z1076 - z1077)) (z1144) r7 h7
                cases r7 with
                | a0 z1148 z1149 =>
                  obtain ⟨z1150, h8, h⟩ := bnd_eq h
                  obtain ⟨st, hs, hr⟩ := L33v1_0s1_ok m n (z1075) (z1076) (z1150) (z1078) (w64 (z1079 + 1)) (b1080) (l1081) (2) ([[i64 z1146, i64 z1147], [i64 z1148, i64 z1149]]) r h
                  exact ⟨st, (round_on (gs := [.t, .a, .an (V.tup [V.agg [i64 z1140, i64 z1141], V.agg [i64 z1142, i64 z1143], i64 z1144]) [], .a, .a, .t, .t, .t, .an (i64 z1145) [], .t, .t, .t, .t, .t, .t, .t, .t, .a, .a, .a, .a, .a, .an (V.agg [i64 z1146, i64 z1147]) [], .a, .a, .a, .ft [⟨0, [2], []⟩, ⟨1, [2], []⟩, ⟨2, [6], []⟩, ⟨3, [7], []⟩, ⟨4, [], []⟩, ⟨5, [], []⟩, ⟨6, [], []⟩, ⟨7, [], []⟩, ⟨8, [], []⟩, ⟨9, [8], [8]⟩, ⟨10, [8, 9], [9]⟩, ⟨11, [2], []⟩, ⟨12, [2], [2]⟩], .a, .a, .a, .an (V.agg [i64 z1148, i64 z1149]) [], .a, .a, .a, .ft [⟨0, [2], []⟩, ⟨1, [2], []⟩, ⟨2, [6], []⟩, ⟨3, [7], []⟩, ⟨4, [], []⟩, ⟨5, [], []⟩, ⟨6, [], []⟩, ⟨7, [], []⟩, ⟨8, [], []⟩, ⟨9, [10], [10]⟩, ⟨10, [10, 11, 9], [9, 11]⟩, ⟨11, [2], []⟩, ⟨12, [2], [2]⟩], .an (i64 z1150) []]) (notIn []) (by kernel_rfl) (And.intro (decide_eq_true h0) (And.intro h1 (And.intro (decide_eq_true h2) (And.intro (decide_eq_true h2) (And.intro (decide_eq_true h2) (And.intro (F55_ok (m + 2) (z1077) (z1144) z1145 h3) (And.intro (decide_eq_true h2) (And.intro (decide_eq_true h2) (And.intro (decide_eq_true h2) (And.intro (decide_eq_true h4) (And.intro (decide_eq_true h4) (And.intro (decide_eq_true h4) (And.intro (decide_eq_true h4) (And.intro (decide_eq_true h5) (And.intro h6 (And.intro (Eq.refl ([⟨0, [2], []⟩, ⟨1, [2], []⟩, ⟨2, [6], []⟩, ⟨3, [7], []⟩, ⟨4, [], []⟩, ⟨5, [], []⟩, ⟨6, [], []⟩, ⟨7, [], []⟩, ⟨8, [], []⟩, ⟨9, [8], [8]⟩, ⟨10, [8, 9], [9]⟩, ⟨11, [2], []⟩, ⟨12, [2], [2]⟩] : List Foot)) (And.intro h7 (And.intro (Eq.refl ([⟨0, [2], []⟩, ⟨1, [2], []⟩, ⟨2, [6], []⟩, ⟨3, [7], []⟩, ⟨4, [], []⟩, ⟨5, [], []⟩, ⟨6, [], []⟩, ⟨7, [], []⟩, ⟨8, [], []⟩, ⟨9, [10], [10]⟩, ⟨10, [10, 11, 9], [9, 11]⟩, ⟨11, [2], []⟩, ⟨12, [2], [2]⟩] : List Foot)) (And.intro (F55_ok (m + 2) (z1077) (z1144) z1150 h8) True.intro))))))))))))))))))) n).trans hs, hr⟩
            · skip
              obtain ⟨z1151, h6, h⟩ := bnd_eq h
              obtain ⟨st, hs, hr⟩ := L33v1_0_ok m n (z1075) (z1076) (z1151) (z1078) (w64 (z1079 + 1)) (b1080) (l1081) r h
              exact ⟨st, (round_on (gs := [.t, .a, .an (V.tup [V.agg [i64 z1140, i64 z1141], V.agg [i64 z1142, i64 z1143], i64 z1144]) [], .a, .a, .t, .t, .t, .an (i64 z1145) [], .t, .t, .t, .t, .t, .t, .t, .f, .an (i64 z1151) []]) (notIn []) (by kernel_rfl) (And.intro (decide_eq_true h0) (And.intro h1 (And.intro (decide_eq_true h2) (And.intro (decide_eq_true h2) (And.intro (decide_eq_true h2) (And.intro (F55_ok (m + 2) (z1077) (z1144) z1145 h3) (And.intro (decide_eq_true h2) (And.intro (decide_eq_true h2) (And.intro (decide_eq_true h2) (And.intro (decide_eq_true h4) (And.intro (decide_eq_true h4) (And.intro (decide_eq_true h4) (And.intro (decide_eq_true h4) (And.intro (decide_eq_false h5) (And.intro (F55_ok (m + 2) (z1077) (z1144) z1151 h6) True.intro))))))))))))))) n).trans hs, hr⟩
          · skip
            obtain ⟨z1152, h5, h⟩ := bnd_eq h
            obtain ⟨st, hs, hr⟩ := L33v1_0_ok m n (z1075) (z1076) (z1152) (z1078) (w64 (z1079 + 1)) (b1080) (l1081) r h
            exact ⟨st, (round_on (gs := [.t, .a, .an (V.tup [V.agg [i64 z1140, i64 z1141], V.agg [i64 z1142, i64 z1143], i64 z1144]) [], .a, .a, .t, .t, .t, .an (i64 z1145) [], .t, .t, .t, .f, .f, .f, .f, .a, .an (i64 z1152) []]) (notIn []) (by kernel_rfl) (And.intro (decide_eq_true h0) (And.intro h1 (And.intro (decide_eq_true h2) (And.intro (decide_eq_true h2) (And.intro (decide_eq_true h2) (And.intro (F55_ok (m + 2) (z1077) (z1144) z1145 h3) (And.intro (decide_eq_true h2) (And.intro (decide_eq_true h2) (And.intro (decide_eq_true h2) (And.intro (decide_eq_false h4) (And.intro (decide_eq_false h4) (And.intro (decide_eq_false h4) (And.intro (decide_eq_false h4) (And.intro (F55_ok (m + 2) (z1077) (z1144) z1152 h5) True.intro)))))))))))))) n).trans hs, hr⟩
        · skip
          obtain ⟨z1153, h3, h⟩ := bnd_eq h
          obtain ⟨st, hs, hr⟩ := L33v1_0_ok m n (z1075) (z1076) (z1153) (z1078) (w64 (z1079 + 1)) (b1080) (l1081) r h
          exact ⟨st, (round_on (gs := [.t, .a, .an (V.tup [V.agg [i64 z1140, i64 z1141], V.agg [i64 z1142, i64 z1143], i64 z1144]) [], .a, .a, .f, .f, .f, .f, .f, .f, .a, .a, .a, .a, .a, .an (i64 z1153) []]) (notIn []) (by kernel_rfl) (And.intro (decide_eq_true h0) (And.intro h1 (And.intro (decide_eq_false h2) (And.intro (decide_eq_false h2) (And.intro (decide_eq_false h2) (And.intro (decide_eq_false h2) (And.intro (decide_eq_false h2) (And.intro (decide_eq_false h2) (And.intro (F55_ok (m + 2) (z1077) (z1144) z1153 h3) True.intro))))))))) n).trans hs, hr⟩
    · skip
      cases h
      exact ⟨_, round_out (gs := [.f]) (notIn []) (by kernel_rfl) rfl (And.intro (decide_eq_false h0) True.intro) n, z1075, z1076, z1077, z1078, z1079, decide (z1079 < z1078), b1080, l1081, rfl⟩
inductive A33v1 where
  | a0 (b1138 : Bool)
  | a1 (b1207 : Bool) (k1208 : Nat) (l1209 : List (List V))
@[reducible] def A33v1.out : A33v1 → V × Store
  | .a0 b1138 => (V.agg [vb b1138, V.nilS], [])
  | .a1 b1207 k1208 l1209 => (V.agg [vb b1207, V.hs 0 0 k1208], [Ob.cells true true 2 l1209])
def F33v1 (b981 : Bool) (l982 : List (List V)) (z983 : Int) (z984 : Int) : Option A33v1 :=
  bnd (F56 (z983)) fun z1136 =>
  bnd (F56 (z984)) fun z1137 =>
  if z1136 ≥ z1137 then
   some (A33v1.a0 (false))
  else
   bnd (F53v1 (b981) (l982)) fun z1139 =>
   (L33v1_0 100000 (z1136) (z1137) (0) (z1139) (0) (b981) (l982)).bind fun r => match r with
   | .e0 =>
    some (A33v1.a0 (false))
   | .e1 k1205 l1206 =>
    some (A33v1.a1 (false) (k1205) (l1206))
theorem F33v1_ok (m : Nat) (b981 : Bool) (l982 : List (List V)) (z983 : Int) (z984 : Int) (r : A33v1) (h : F33v1 b981 l982 z983 z984 = some r) : call Try.prog X O0 100000 (m + 6) 33 ([V.agg [vb b981, V.list 2 l982], i64 z983, i64 z984]) ([]) = some r.out := by
  unfold F33v1 at h
  obtain ⟨z1136, h0, h⟩ := bnd_eq h
  obtain ⟨z1137, h1, h⟩ := bnd_eq h
  rcases ite_eq h with ⟨h2, h⟩ | ⟨h2, h⟩
  · skip
    cases h
    exact call_pathL (gs := [.an (i64 z1136) [], .an (i64 z1137) [], .t, .a, .a]) (notIn []) rfl rfl (by kernel_rfl) (And.intro (F56_ok (m + 3) (z983) z1136 h0) (And.intro (F56_ok (m + 3) (z984) z1137 h1) (And.intro (decide_eq_true h2) True.intro)))
  · skip
    obtain ⟨z1139, h3, h⟩ := bnd_eq h
    obtain ⟨r4, h4, h⟩ := Option.bind_eq_some_iff.mp h
    obtain ⟨st4, h4, hr4⟩ := L33v1_0_ok m 100000 (z1136) (z1137) (0) (z1139) (0) (b981) (l982) r4 h4
    have h4 : loopRun Try.prog X (call Try.prog X O0 100000 (m + 5)) 33 (0) 100000 B33v1 0 ({ T := V.agg [vb b981, V.list 2 l982] :: i64 z1136 :: i64 z1137 :: V.ptr 0 0 0 :: U :: U :: V.ptr 1 0 0 :: V.ptr 2 0 0 :: i64 0 :: un 4 (i64 z983 :: i64 z1136 :: i64 z984 :: i64 z1137 :: i64 z1136 :: i64 z1137 :: vb (decide (z1136 ≥ z1137)) :: U :: V.agg [vb b981, V.list 2 l982] :: i64 z1139 :: i64 0 :: un 56 []), σ := [Ob.cells true false 2 [[vb b981, V.list 2 l982]], Ob.cells true false 2 [[vb false, V.nilS]], Ob.cells true false 2 [[vb false, V.nilS]]] }) = some st4 := by
      rw [loopRun_from, show prep (0) (X.keep 33 0) ({ T := V.agg [vb b981, V.list 2 l982] :: i64 z1136 :: i64 z1137 :: V.ptr 0 0 0 :: U :: U :: V.ptr 1 0 0 :: V.ptr 2 0 0 :: i64 0 :: un 4 (i64 z983 :: i64 z1136 :: i64 z984 :: i64 z1137 :: i64 z1136 :: i64 z1137 :: vb (decide (z1136 ≥ z1137)) :: U :: V.agg [vb b981, V.list 2 l982] :: i64 z1139 :: i64 0 :: un 56 []), σ := [Ob.cells true false 2 [[vb b981, V.list 2 l982]], Ob.cells true false 2 [[vb false, V.nilS]], Ob.cells true false 2 [[vb false, V.nilS]]] }) = { T := U :: i64 z1136 :: i64 z1137 :: V.ptr 0 0 0 :: U :: U :: V.ptr 1 0 0 :: V.ptr 2 0 0 :: i64 0 :: un 13 (i64 z1139 :: i64 0 :: un 56 []), σ := [Ob.cells true false 2 [[vb b981, V.list 2 l982]], Ob.cells true false 2 [[vb false, V.nilS]], Ob.cells true false 2 [[vb false, V.nilS]]] } by kernel_rfl]
      exact h4
    cases r4 with
    | e0 =>
      obtain ⟨z1189, z1190, z1191, z1192, z1193, b1194, b1195, l1196, rfl⟩ := hr4
      cases h
      exact call_pathL (gs := [.an (i64 z1136) [], .an (i64 z1137) [], .f, .a, .an (i64 z1139) [], .lp (VX.exit 0) (s33v1_0_0 z1189 z1190 z1191 z1192 z1193 b1194 b1195 l1196), .a, .a]) (notIn []) rfl rfl (by kernel_rfl) (And.intro (F56_ok (m + 3) (z983) z1136 h0) (And.intro (F56_ok (m + 3) (z984) z1137 h1) (And.intro (decide_eq_false h2) (And.intro (F53v1_ok (m + 4) (b981) (l982) z1139 h3) (And.intro h4 True.intro)))))
    | e1 k1205 l1206 =>
      obtain ⟨z1197, z1198, z1199, z1200, z1201, b1202, b1203, l1204, rfl⟩ := hr4
      cases h
      exact call_pathL (gs := [.an (i64 z1136) [], .an (i64 z1137) [], .f, .a, .an (i64 z1139) [], .lp (VX.exit 0) (s33v1_0_1 z1197 z1198 z1199 z1200 z1201 b1202 b1203 l1204 k1205 l1206), .a, .a]) (notIn []) rfl rfl (by kernel_rfl) (And.intro (F56_ok (m + 3) (z983) z1136 h0) (And.intro (F56_ok (m + 3) (z984) z1137 h1) (And.intro (decide_eq_false h2) (And.intro (F53v1_ok (m + 4) (b981) (l982) z1139 h3) (And.intro h4 True.intro)))))
end Go.Proofs.Ytojigbcgmneiiaa.H
