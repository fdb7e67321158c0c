/- What the functions compute, and that they do so over the machine of plain values (printed by this session's program wip/vm/Walk.lean). No condition beyond those stated. -/
import Derived.Test.YthohhdcngdmbeaaWk
import Derived.Test.YthohhdcngdmbeaaRowsR2
set_option linter.unusedVariables false
set_option linter.unusedSimpArgs false
namespace Go.Proofs.Ythohhdcngdmbeaa.H
open Go Go.VM
set_option maxRecDepth 100000
/-! ## 17 -/
inductive A17 where
  | a0 (z18 : Int)
@[reducible] def A17.out : A17 → V × Store
  | .a0 z18 => (i64 z18, [])
def F17 (z14 : Int) (z15 : Int) (z16 : Int) : Option A17 :=
  if z14 ≥ z15 then
   if z14 ≤ z16 then
    some (A17.a0 (z14))
   else
    if w64 (w64 (z16 - z15) + 1) = 0 then
     none -- none
    else
     if Int.tmod z14 (w64 (w64 (z16 - z15) + 1)) < 0 then
      some (A17.a0 (w64 (z15 + w64 (w64 (w64 (Int.tmod z14 (w64 (w64 (z16 - z15) + 1)) + z16) - z15) + 1))))
     else
      some (A17.a0 (w64 (z15 + Int.tmod z14 (w64 (w64 (z16 - z15) + 1)))))
  else
   if w64 (w64 (z16 - z15) + 1) = 0 then
    none -- none
   else
    if Int.tmod z14 (w64 (w64 (z16 - z15) + 1)) < 0 then
     some (A17.a0 (w64 (z15 + w64 (w64 (w64 (Int.tmod z14 (w64 (w64 (z16 - z15) + 1)) + z16) - z15) + 1))))
    else
     some (A17.a0 (w64 (z15 + Int.tmod z14 (w64 (w64 (z16 - z15) + 1)))))
theorem F17_ok (m : Nat) (z14 : Int) (z15 : Int) (z16 : Int) (r : A17) (h : F17 z14 z15 z16 = some r) : call Try.prog X O0 18446744073709551616 (m + 1) 17 ([i64 z14, i64 z15, i64 z16]) ([]) = some r.out := by
  unfold F17 at h
  rcases ite_eq h with ⟨h0, h⟩ | ⟨h0, h⟩
  · skip
    rcases ite_eq h with ⟨h1, h⟩ | ⟨h1, h⟩
    · skip
      cases h
      exact call_pathL (gs := [.t, .t, .t, .t, .t]) (notIn []) rfl rfl (by kernel_rfl) (And.intro (decide_eq_true h0) (And.intro (decide_eq_true h0) (And.intro (decide_eq_true h0) (And.intro (decide_eq_true h0) (And.intro (decide_eq_true h1) True.intro)))))
    · skip
      rcases ite_eq h with ⟨h2, h⟩ | ⟨h2, h⟩
      · skip
        cases h
      · skip
        rcases ite_eq h with ⟨h3, h⟩ | ⟨h3, h⟩
        · skip
          cases h
          exact call_pathL (gs := [.t, .t, .t, .t, .f, .f, .t]) (notIn []) rfl rfl (by kernel_rfl) (And.intro (decide_eq_true h0) (And.intro (decide_eq_true h0) (And.intro (decide_eq_true h0) (And.intro (decide_eq_true h0) (And.intro (decide_eq_false h1) (And.intro (decide_eq_false h2) (And.intro (decide_eq_true h3) True.intro)))))))
        · skip
          cases h
          exact call_pathL (gs := [.t, .t, .t, .t, .f, .f, .f]) (notIn []) rfl rfl (by kernel_rfl) (And.intro (decide_eq_true h0) (And.intro (decide_eq_true h0) (And.intro (decide_eq_true h0) (And.intro (decide_eq_true h0) (And.intro (decide_eq_false h1) (And.intro (decide_eq_false h2) (And.intro (decide_eq_false h3) True.intro)))))))
  · skip
    rcases ite_eq h with ⟨h1, h⟩ | ⟨h1, h⟩
    · skip
      cases h
    · skip
      rcases ite_eq h with ⟨h2, h⟩ | ⟨h2, h⟩
      · skip
        cases h
        exact call_pathL (gs := [.f, .f, .f, .f, .a, .f, .t]) (notIn []) rfl rfl (by kernel_rfl) (And.intro (decide_eq_false h0) (And.intro (decide_eq_false h0) (And.intro (decide_eq_false h0) (And.intro (decide_eq_false h0) (And.intro (decide_eq_false h1) (And.intro (decide_eq_true h2) True.intro))))))
      · skip
        cases h
        exact call_pathL (gs := [.f, .f, .f, .f, .a, .f, .f]) (notIn []) rfl rfl (by kernel_rfl) (And.intro (decide_eq_false h0) (And.intro (decide_eq_false h0) (And.intro (decide_eq_false h0) (And.intro (decide_eq_false h0) (And.intro (decide_eq_false h1) (And.intro (decide_eq_false h2) True.intro))))))
/-! ## 15 -/
inductive A15 where
  | a0 (z10 : Int) (l11 : List (List V)) (z12 : Int)
@[reducible] def A15.out : A15 → V × Store
  | .a0 z10 l11 z12 => (i64 z10, [Ob.cells true false 2 [[V.list 1 l11, i64 z12]]])
def F15 (z6 : Int) (l7 : List (List V)) (z8 : Int) : Option A15 :=
  if z8 ≥ (↑(List.length l7) : Int) then
   some (A15.a0 (0) (l7) (z8))
  else
   if 0 ≤ w64 (w64 (z8 + 1) - 1) then
    ((l7[Int.toNat (w64 (w64 (z8 + (1 : Int)) - (1 : Int)))]?).bind W3.dec).bind fun e13 =>
    (F17 (e13.c0) (0) (1073741824)).bind fun r => match r with
    | .a0 z19 =>
     if z6 = 0 then
      none -- none
     else
      some (A15.a0 (Int.tmod z19 z6) (l7) (w64 (z8 + 1)))
   else
    none -- none
theorem F15_ok (m : Nat) (z6 : Int) (l7 : List (List V)) (z8 : Int) (r : A15) (h : F15 z6 l7 z8 = some r) : call Try.prog X O0 18446744073709551616 (m + 2) 15 ([V.ptr 0 0 0, i64 z6]) ([Ob.cells true false 2 [[V.list 1 l7, i64 z8]]]) = some r.out := by
  unfold F15 at h
  rcases ite_eq h with ⟨h0, h⟩ | ⟨h0, h⟩
  · skip
    cases h
    exact call_pathL (gs := [.a, .a, .ft [⟨0, [], []⟩, ⟨1, [0], []⟩, ⟨2, [0], []⟩, ⟨3, [0], []⟩, ⟨4, [], []⟩, ⟨5, [0], []⟩, ⟨6, [0], []⟩, ⟨7, [0], []⟩, ⟨8, [], []⟩, ⟨9, [], []⟩], .t]) (notIn []) rfl rfl (by kernel_rfl) (And.intro (Eq.refl ([⟨0, [], []⟩, ⟨1, [0], []⟩, ⟨2, [0], []⟩, ⟨3, [0], []⟩, ⟨4, [], []⟩, ⟨5, [0], []⟩, ⟨6, [0], []⟩, ⟨7, [0], []⟩, ⟨8, [], []⟩, ⟨9, [], []⟩] : List Foot)) (And.intro (decide_eq_true h0) True.intro))
  · skip
    rcases ite_eq h with ⟨h1, h⟩ | ⟨h1, h⟩
    · skip
      obtain ⟨e13, h2, h⟩ := Option.bind_eq_some_iff.mp h
      obtain ⟨r3, h3, h⟩ := Option.bind_eq_some_iff.mp h
      have h3 := F17_ok (m + 0) (e13.c0) (0) (1073741824) r3 h3
      cases r3 with
      | a0 z19 =>
        rcases ite_eq h with ⟨h4, h⟩ | ⟨h4, h⟩
        · skip
          cases h
        · skip
          cases h
          exact call_pathL (gs := [.a, .a, .ft [⟨0, [], []⟩, ⟨1, [0], []⟩, ⟨2, [0], []⟩, ⟨3, [0], []⟩, ⟨4, [], []⟩, ⟨5, [0], []⟩, ⟨6, [0], []⟩, ⟨7, [0], []⟩, ⟨8, [], []⟩, ⟨9, [], []⟩], .f, .a, .a, .a, .a, .t, .el (W3.cells e13), .an (i64 z19) [], .f, .ft [⟨0, [], []⟩, ⟨1, [0], []⟩, ⟨2, [0], []⟩, ⟨3, [0], []⟩, ⟨4, [], []⟩, ⟨5, [0], []⟩, ⟨6, [0], []⟩, ⟨7, [0], []⟩, ⟨8, [], []⟩, ⟨9, [], []⟩, ⟨10, [], []⟩, ⟨11, [], []⟩, ⟨12, [], []⟩, ⟨13, [], []⟩, ⟨14, [], []⟩]]) (notIn []) rfl rfl (by kernel_rfl) (And.intro (Eq.refl ([⟨0, [], []⟩, ⟨1, [0], []⟩, ⟨2, [0], []⟩, ⟨3, [0], []⟩, ⟨4, [], []⟩, ⟨5, [0], []⟩, ⟨6, [0], []⟩, ⟨7, [0], []⟩, ⟨8, [], []⟩, ⟨9, [], []⟩] : List Foot)) (And.intro (decide_eq_false h0) (And.intro (decide_eq_true h1) (And.intro (W3.dec_ok h2) (And.intro h3 (And.intro (decide_eq_false h4) (And.intro (Eq.refl ([⟨0, [], []⟩, ⟨1, [0], []⟩, ⟨2, [0], []⟩, ⟨3, [0], []⟩, ⟨4, [], []⟩, ⟨5, [0], []⟩, ⟨6, [0], []⟩, ⟨7, [0], []⟩, ⟨8, [], []⟩, ⟨9, [], []⟩, ⟨10, [], []⟩, ⟨11, [], []⟩, ⟨12, [], []⟩, ⟨13, [], []⟩, ⟨14, [], []⟩] : List Foot)) True.intro)))))))
    · skip
      cases h
/-! ## 54 -/
inductive A54 where
  | a0 (z41 : Int) (l42 : List (List V)) (z43 : Int)
@[reducible] def A54.out : A54 → V × Store
  | .a0 z41 l42 z43 => (i64 z41, [Ob.cells true false 2 [[V.list 1 l42, i64 z43]]])
def F54 (z30 : Int) (z31 : Int) (l32 : List (List V)) (z33 : Int) : Option A54 :=
  (F15 (w64 (w64 (z31 - z30) + 1)) (l32) (z33)).bind fun r => match r with
  | .a0 z35 l36 z37 =>
   (F15 (4) (l36) (z37)).bind fun r => match r with
   | .a0 z38 l39 z40 =>
    if (z38 == 0) = true then
     some (A54.a0 (w64 (w64 (w64 (z30 + z35) * 65536) + 32768)) (l39) (z40))
    else
     if (z38 == 1) = true then
      (F15 (65536) (l39) (z40)).bind fun r => match r with
      | .a0 z44 l45 z46 =>
       some (A54.a0 (w64 (w64 (w64 (z30 + z35) * 65536) + z44)) (l45) (z46))
     else
      some (A54.a0 (w64 (w64 (z30 + z35) * 65536)) (l39) (z40))
theorem F54_ok (m : Nat) (z30 : Int) (z31 : Int) (l32 : List (List V)) (z33 : Int) (r : A54) (h : F54 z30 z31 l32 z33 = some r) : call Try.prog X O0 18446744073709551616 (m + 3) 54 ([V.ptr 0 0 0, i64 z30, i64 z31]) ([Ob.cells true false 2 [[V.list 1 l32, i64 z33]]]) = some r.out := by
  unfold F54 at h
  obtain ⟨r0, h0, h⟩ := Option.bind_eq_some_iff.mp h
  have h0 := F15_ok (m + 0) (w64 (w64 (z31 - z30) + 1)) (l32) (z33) r0 h0
  cases r0 with
  | a0 z35 l36 z37 =>
    obtain ⟨r1, h1, h⟩ := Option.bind_eq_some_iff.mp h
    have h1 := F15_ok (m + 0) (4) (l36) (z37) r1 h1
    cases r1 with
    | a0 z38 l39 z40 =>
      rcases ite_eq h with ⟨h2, h⟩ | ⟨h2, h⟩
      · skip
        cases h
        exact call_pathL (gs := [.an (i64 z35) [Ob.cells true false 2 [[V.list 1 l36, i64 z37]]], .an (i64 z38) [Ob.cells true false 2 [[V.list 1 l39, i64 z40]]], .t]) (notIn []) rfl rfl (by kernel_rfl) (And.intro h0 (And.intro h1 (And.intro h2 True.intro)))
      · skip
        rcases ite_eq h with ⟨h3, h⟩ | ⟨h3, h⟩
        · skip
          obtain ⟨r4, h4, h⟩ := Option.bind_eq_some_iff.mp h
          have h4 := F15_ok (m + 0) (65536) (l39) (z40) r4 h4
          cases r4 with
          | a0 z44 l45 z46 =>
            cases h
            exact call_pathL (gs := [.an (i64 z35) [Ob.cells true false 2 [[V.list 1 l36, i64 z37]]], .an (i64 z38) [Ob.cells true false 2 [[V.list 1 l39, i64 z40]]], .f, .t, .an (i64 z44) [Ob.cells true false 2 [[V.list 1 l45, i64 z46]]]]) (notIn []) rfl rfl (by kernel_rfl) (And.intro h0 (And.intro h1 (And.intro (Bool.eq_false_iff.mpr h2) (And.intro h3 (And.intro h4 True.intro)))))
        · skip
          cases h
          exact call_pathL (gs := [.an (i64 z35) [Ob.cells true false 2 [[V.list 1 l36, i64 z37]]], .an (i64 z38) [Ob.cells true false 2 [[V.list 1 l39, i64 z40]]], .f, .f]) (notIn []) rfl rfl (by kernel_rfl) (And.intro h0 (And.intro h1 (And.intro (Bool.eq_false_iff.mpr h2) (And.intro (Bool.eq_false_iff.mpr h3) True.intro))))
/-! ## 28 -/
noncomputable abbrev B28 : Code := (Try.f28.body).getD .skip
inductive R28_0 where
  | e0 (l94 : List (List V)) (z95 : Int) (b96 : Bool) (k97 : Nat) (l98 : List (List V))
@[reducible] def s28_0_0 (z92 : Int) (b93 : Bool) (l94 : List (List V)) (z95 : Int) (b96 : Bool) (k97 : Nat) (l98 : List (List V)) : S := { T := V.ptr 0 0 0 :: U :: V.ptr 1 0 0 :: V.ptr 2 0 0 :: i64 z92 :: un 7 (i64 z92 :: vb b93 :: un 23 []), σ := [Ob.cells true false 2 [[V.list 1 l94, i64 z95]], Ob.cells true false 2 [[vb false, V.hs 3 0 0]], Ob.cells true false 2 [[vb b96, V.hs 4 0 k97]], Ob.cells true true 2 [], Ob.cells true true 2 l98] }
def R28_0.St : R28_0 → VX × S → Prop
  | .e0 l94 z95 b96 k97 l98, p => ∃ z92 : Int, ∃ b93 : Bool, p = (VX.exit 0, s28_0_0 z92 b93 l94 z95 b96 k97 l98)
def L28_0 : Nat → Int → List (List V) → Int → Bool → Nat → List (List V) → Option R28_0
  | 0, _, _, _, _, _, _ => none
  | n + 1, z56, l57, z58, b59, k60, l61 =>
    if z56 > 0 then
     (F54 (-5) (20) (l57) (z58)).bind fun r => match r with
     | .a0 z83 l84 z85 =>
      (F54 (-5) (20) (l84) (z85)).bind fun r => match r with
      | .a0 z86 l87 z88 =>
       if 0 + k60 ≤ List.length l61 ∧ (k60 + 1) * 16 ≤ 140737488355328 ∧ k60 + 1 ≤ 140737488355328 then
        (F15 (6) (l87) (z88)).bind fun r => match r with
        | .a0 z89 l90 z91 =>
         if (z89 == 0) = true then
          if 0 + (k60 + 1) ≤ List.length (List.take k60 l61 ++ [[i64 z83, i64 z86]]) ∧ (k60 + 1 + 1) * 16 ≤ 140737488355328 ∧ k60 + 1 + 1 ≤ 140737488355328 then
           L28_0 n (w64 (z56 - 1)) (l90) (z91) (b59) (k60 + 1 + 1) (List.take (k60 + 1) (List.take k60 l61 ++ [[i64 z83, i64 z86]]) ++ [[i64 z83, i64 z86]])
          else
           none -- none
         else
          L28_0 n (w64 (z56 - 1)) (l90) (z91) (b59) (k60 + 1) (List.take k60 l61 ++ [[i64 z83, i64 z86]])
       else
        none -- none
    else
     some (R28_0.e0 (l57) (z58) (b59) (k60) (l61))
theorem L28_0_ok (m : Nat) : ∀ (n : Nat) (z56 : Int) (l57 : List (List V)) (z58 : Int) (b59 : Bool) (k60 : Nat) (l61 : List (List V)) (r : R28_0), L28_0 n z56 l57 z58 b59 k60 l61 = some r → ∃ st, loopFrom Try.prog X (genO X (call Try.prog X O0 18446744073709551616 (m + 3))) 28 (1) 18446744073709551616 B28 0 n ({ T := V.ptr 0 0 0 :: U :: V.ptr 1 0 0 :: V.ptr 2 0 0 :: i64 z56 :: un 32 [], σ := [Ob.cells true false 2 [[V.list 1 l57, i64 z58]], Ob.cells true false 2 [[vb false, V.hs 3 0 0]], Ob.cells true false 2 [[vb b59, V.hs 4 0 k60]], Ob.cells true true 2 [], Ob.cells true true 2 l61] }) = some st ∧ r.St st
  | 0, _, _, _, _, _, _, r, h => by cases h
  | n + 1, z56, l57, z58, b59, k60, l61, r, h => by
    rw [L28_0] at h
    rcases ite_eq h with ⟨h0, h⟩ | ⟨h0, h⟩
    · skip
      obtain ⟨r1, h1, h⟩ := Option.bind_eq_some_iff.mp h
      have h1 := F54_ok (m + 0) (-5) (20) (l57) (z58) r1 h1
      cases r1 with
      | a0 z83 l84 z85 =>
        obtain ⟨r2, h2, h⟩ := Option.bind_eq_some_iff.mp h
        have h2 := F54_ok (m + 0) (-5) (20) (l84) (z85) r2 h2
        cases r2 with
        | a0 z86 l87 z88 =>
          rcases ite_eq h with ⟨h3, h⟩ | ⟨h3, h⟩
          · skip
            obtain ⟨r4, h4, h⟩ := Option.bind_eq_some_iff.mp h
            have h4 := F15_ok (m + 1) (6) (l87) (z88) r4 h4
            cases r4 with
            | a0 z89 l90 z91 =>
              rcases ite_eq h with ⟨h5, h⟩ | ⟨h5, h⟩
              · skip
                rcases ite_eq h with ⟨h6, h⟩ | ⟨h6, h⟩
                · skip
                  obtain ⟨st, hs, hr⟩ := L28_0_ok m n (w64 (z56 - 1)) (l90) (z91) (b59) (k60 + 1 + 1) (List.take (k60 + 1) (List.take k60 l61 ++ [[i64 z83, i64 z86]]) ++ [[i64 z83, i64 z86]]) r h
                  exact ⟨st, (round_on (gs := [.t, .an (i64 z83) [Ob.cells true false 2 [[V.list 1 l84, i64 z85]]], .an (i64 z86) [Ob.cells true false 2 [[V.list 1 l87, i64 z88]]], .a, .a, .a, .a, .t, .a, .an (i64 z89) [Ob.cells true false 2 [[V.list 1 l90, i64 z91]]], .t, .a, .a, .a, .t, .a]) (notIn []) (by kernel_rfl) (And.intro (decide_eq_true h0) (And.intro h1 (And.intro h2 (And.intro (decide_eq_true h3) (And.intro h4 (And.intro h5 (And.intro (decide_eq_true h6) True.intro))))))) n).trans hs, hr⟩
                · skip
                  cases h
              · skip
                obtain ⟨st, hs, hr⟩ := L28_0_ok m n (w64 (z56 - 1)) (l90) (z91) (b59) (k60 + 1) (List.take k60 l61 ++ [[i64 z83, i64 z86]]) r h
                exact ⟨st, (round_on (gs := [.t, .an (i64 z83) [Ob.cells true false 2 [[V.list 1 l84, i64 z85]]], .an (i64 z86) [Ob.cells true false 2 [[V.list 1 l87, i64 z88]]], .a, .a, .a, .a, .t, .a, .an (i64 z89) [Ob.cells true false 2 [[V.list 1 l90, i64 z91]]], .f]) (notIn []) (by kernel_rfl) (And.intro (decide_eq_true h0) (And.intro h1 (And.intro h2 (And.intro (decide_eq_true h3) (And.intro h4 (And.intro (Bool.eq_false_iff.mpr h5) True.intro)))))) n).trans hs, hr⟩
          · skip
            cases h
    · skip
      cases h
      exact ⟨_, round_out (gs := [.f]) (notIn []) (by kernel_rfl) rfl (And.intro (decide_eq_false h0) True.intro) n, z56, decide (z56 > 0), rfl⟩
inductive A28 where
  | a0 (b106 : Bool) (k107 : Nat) (l108 : List (List V)) (z109 : Int) (l110 : List (List V))
@[reducible] def A28.out : A28 → V × Store
  | .a0 b106 k107 l108 z109 l110 => (V.agg [vb b106, V.hs 1 0 k107], [Ob.cells true false 2 [[V.list 1 l108, i64 z109]], Ob.cells true true 2 l110])
def F28 (l3 : List (List V)) (z4 : Int) : Option A28 :=
  (F15 (2) (l3) (z4)).bind fun r => match r with
  | .a0 z77 l78 z79 =>
   (F15 (7) (l78) (z79)).bind fun r => match r with
   | .a0 z80 l81 z82 =>
    (L28_0 18446744073709551616 (z80) (l81) (z82) (z77 == 0) (0) ([])).bind fun r => match r with
    | .e0 l101 z102 b103 k104 l105 =>
     some (A28.a0 (b103) (k104) (l101) (z102) (l105))
theorem F28_ok (m : Nat) (l3 : List (List V)) (z4 : Int) (r : A28) (h : F28 l3 z4 = some r) : call Try.prog X O0 18446744073709551616 (m + 4) 28 ([V.ptr 0 0 0]) ([Ob.cells true false 2 [[V.list 1 l3, i64 z4]]]) = some r.out := by
  unfold F28 at h
  obtain ⟨r0, h0, h⟩ := Option.bind_eq_some_iff.mp h
  have h0 := F15_ok (m + 1) (2) (l3) (z4) r0 h0
  cases r0 with
  | a0 z77 l78 z79 =>
    obtain ⟨r1, h1, h⟩ := Option.bind_eq_some_iff.mp h
    have h1 := F15_ok (m + 1) (7) (l78) (z79) r1 h1
    cases r1 with
    | a0 z80 l81 z82 =>
      obtain ⟨r2, h2, h⟩ := Option.bind_eq_some_iff.mp h
      obtain ⟨st2, h2, hr2⟩ := L28_0_ok m 18446744073709551616 (z80) (l81) (z82) (z77 == 0) (0) ([]) r2 h2
      have h2 : loopRun Try.prog X (genO X (call Try.prog X O0 18446744073709551616 (m + 3))) 28 (1) 18446744073709551616 B28 0 ({ T := V.ptr 0 0 0 :: U :: V.ptr 1 0 0 :: V.ptr 2 0 0 :: i64 z80 :: U :: V.ptr 0 0 0 :: i64 z77 :: vb (z77 == 0) :: V.agg [vb (z77 == 0), V.nilS] :: V.ptr 0 0 0 :: i64 z80 :: un 25 [], σ := [Ob.cells true false 2 [[V.list 1 l81, i64 z82]], Ob.cells true false 2 [[vb false, V.nilS]], Ob.cells true false 2 [[vb (z77 == 0), V.nilS]]] }) = some st2 := by
        rw [loopRun_from, show pre X 28 (1) 0 ({ T := V.ptr 0 0 0 :: U :: V.ptr 1 0 0 :: V.ptr 2 0 0 :: i64 z80 :: U :: V.ptr 0 0 0 :: i64 z77 :: vb (z77 == 0) :: V.agg [vb (z77 == 0), V.nilS] :: V.ptr 0 0 0 :: i64 z80 :: un 25 [], σ := [Ob.cells true false 2 [[V.list 1 l81, i64 z82]], Ob.cells true false 2 [[vb false, V.nilS]], Ob.cells true false 2 [[vb (z77 == 0), V.nilS]]] }) = { T := V.ptr 0 0 0 :: U :: V.ptr 1 0 0 :: V.ptr 2 0 0 :: i64 z80 :: un 32 [], σ := [Ob.cells true false 2 [[V.list 1 l81, i64 z82]], Ob.cells true false 2 [[vb false, V.hs 3 0 0]], Ob.cells true false 2 [[vb (z77 == 0), V.hs 4 0 0]], Ob.cells true true 2 [], Ob.cells true true 2 []] } by kernel_rfl]
        exact h2
      cases r2 with
      | e0 l101 z102 b103 k104 l105 =>
        obtain ⟨z99, b100, rfl⟩ := hr2
        cases h
        exact call_pathL (gs := [.an (i64 z77) [Ob.cells true false 2 [[V.list 1 l78, i64 z79]]], .a, .an (i64 z80) [Ob.cells true false 2 [[V.list 1 l81, i64 z82]]], .lp (VX.exit 0) (s28_0_0 z99 b100 l101 z102 b103 k104 l105), .a, .a]) (notIn []) rfl rfl (by kernel_rfl) (And.intro h0 (And.intro h1 (And.intro h2 True.intro)))
/-! ## 58 -/
def F58 (b121 : Bool) (l122 : List (List V)) : Int :=
  if (↑(List.length l122) : Int) < 2 then
   0
  else
   if (b121) = true then
    (↑(List.length l122) : Int)
   else
    w64 ((↑(List.length l122) : Int) - 1)
theorem F58_ok (m : Nat) (b121 : Bool) (l122 : List (List V)) (z125 : Int) (h : F58 b121 l122 = z125) : call Try.prog X O0 18446744073709551616 (m + 1) 58 ([V.agg [vb b121, V.list 2 l122]]) ([]) = some (i64 z125, []) := by
  unfold F58 at h
  rcases ite_eq h with ⟨h0, h⟩ | ⟨h0, h⟩
  · skip
    subst h
    exact call_pathL (gs := [.a, .t]) (notIn []) rfl rfl (by kernel_rfl) (And.intro (decide_eq_true h0) True.intro)
  · skip
    rcases ite_eq h with ⟨h1, h⟩ | ⟨h1, h⟩
    · skip
      subst h
      exact call_pathL (gs := [.a, .f, .a, .t]) (notIn []) rfl rfl (by kernel_rfl) (And.intro (decide_eq_false h0) (And.intro h1 True.intro))
    · skip
      subst h
      exact call_pathL (gs := [.a, .f, .a, .f]) (notIn []) rfl rfl (by kernel_rfl) (And.intro (decide_eq_false h0) (And.intro (Bool.eq_false_iff.mpr h1) True.intro))
/-! ## 101 -/
def F101 (z137 : Int) (z138 : Int) (z139 : Int) : Int :=
  if z137 < z138 then
   z138
  else
   if z137 > z139 then
    z139
   else
    z137
theorem F101_ok (m : Nat) (z137 : Int) (z138 : Int) (z139 : Int) (z142 : Int) (h : F101 z137 z138 z139 = z142) : call Try.prog X O0 18446744073709551616 (m + 1) 101 ([i64 z137, i64 z138, i64 z139]) ([]) = some (i64 z142, []) := by
  unfold F101 at h
  rcases ite_eq h with ⟨h0, h⟩ | ⟨h0, h⟩
  · skip
    subst h
    exact call_pathL (gs := [.t]) (notIn []) rfl rfl (by kernel_rfl) (And.intro (decide_eq_true h0) True.intro)
  · skip
    rcases ite_eq h with ⟨h1, h⟩ | ⟨h1, h⟩
    · skip
      subst h
      exact call_pathL (gs := [.f, .t]) (notIn []) rfl rfl (by kernel_rfl) (And.intro (decide_eq_false h0) (And.intro (decide_eq_true h1) True.intro))
    · skip
      subst h
      exact call_pathL (gs := [.f, .f]) (notIn []) rfl rfl (by kernel_rfl) (And.intro (decide_eq_false h0) (And.intro (decide_eq_false h1) True.intro))
/-! ## 100 -/
def F100 (z135 : Int) : Int :=
  bnd (F101 (z135) (-536870912) (536870912)) fun z143 =>
  z143
theorem F100_ok (m : Nat) (z135 : Int) (z145 : Int) (h : F100 z135 = z145) : call Try.prog X O0 18446744073709551616 (m + 2) 100 ([i64 z135]) ([]) = some (i64 z145, []) := by
  unfold F100 at h
  obtain ⟨z143, h0, h⟩ := bnd_eq h
  subst h
  exact call_pathL (gs := [.an (i64 z143) []]) (notIn []) rfl rfl (by kernel_rfl) (And.intro (F101_ok (m + 0) (z135) (-536870912) (536870912) z143 h0) True.intro)
/-! ## 73 -/
inductive A73 where
  | a0 (z148 : Int) (z149 : Int)
@[reducible] def A73.out : A73 → V × Store
  | .a0 z148 z149 => (V.agg [i64 z148, i64 z149], [])
def F73 (z132 : Int) (z133 : Int) : Option A73 :=
  bnd (F100 (z132)) fun z146 =>
  bnd (F100 (z133)) fun z147 =>
  some (A73.a0 (z146) (z147))
theorem F73_ok (m : Nat) (z132 : Int) (z133 : Int) (r : A73) (h : F73 z132 z133 = some r) : call Try.prog X O0 18446744073709551616 (m + 3) 73 ([V.agg [i64 z132, i64 z133]]) ([]) = some r.out := by
  unfold F73 at h
  obtain ⟨z146, h0, h⟩ := bnd_eq h
  obtain ⟨z147, h1, h⟩ := bnd_eq h
  cases h
  exact call_pathL (gs := [.a, .an (i64 z146) [], .a, .an (i64 z147) [], .a, .ft [⟨0, [0], []⟩, ⟨1, [0], []⟩, ⟨2, [], []⟩, ⟨3, [0], []⟩, ⟨4, [0], []⟩, ⟨5, [], []⟩, ⟨6, [], []⟩, ⟨7, [1], [1]⟩]]) (notIn []) rfl rfl (by kernel_rfl) (And.intro (F100_ok (m + 0) (z132) z146 h0) (And.intro (F100_ok (m + 0) (z133) z147 h1) (And.intro (Eq.refl ([⟨0, [0], []⟩, ⟨1, [0], []⟩, ⟨2, [], []⟩, ⟨3, [0], []⟩, ⟨4, [0], []⟩, ⟨5, [], []⟩, ⟨6, [], []⟩, ⟨7, [1], [1]⟩] : List Foot)) True.intro)))
/-! ## 59 -/
inductive A59 where
  | a0 (z155 : Int) (z156 : Int) (z157 : Int) (z158 : Int)
@[reducible] def A59.out : A59 → V × Store
  | .a0 z155 z156 z157 z158 => (V.tup [V.agg [i64 z155, i64 z156], V.agg [i64 z157, i64 z158]], [])
def F59 (b127 : Bool) (l128 : List (List V)) (z129 : Int) : Option A59 :=
  if 0 ≤ z129 then
   ((l128[Int.toNat z129]?).bind W34.dec).bind fun e131 =>
   (F73 (e131.c0) (e131.c1)).bind fun r => match r with
   | .a0 z150 z151 =>
    if (↑(List.length l128) : Int) = 0 then
     none -- none
    else
     if 0 ≤ Int.tmod (w64 (z129 + 1)) (↑(List.length l128) : Int) then
      ((l128[Int.toNat (Int.tmod (w64 (z129 + (1 : Int))) (↑(List.length l128) : Int))]?).bind W34.dec).bind fun e152 =>
      (F73 (e152.c0) (e152.c1)).bind fun r => match r with
      | .a0 z153 z154 =>
       some (A59.a0 (z150) (z151) (z153) (z154))
     else
      none -- none
  else
   none -- none
theorem F59_ok (m : Nat) (b127 : Bool) (l128 : List (List V)) (z129 : Int) (r : A59) (h : F59 b127 l128 z129 = some r) : call Try.prog X O0 18446744073709551616 (m + 4) 59 ([V.agg [vb b127, V.list 2 l128], i64 z129]) ([]) = some r.out := by
  unfold F59 at h
  rcases ite_eq h with ⟨h0, h⟩ | ⟨h0, h⟩
  · skip
    obtain ⟨e131, h1, h⟩ := Option.bind_eq_some_iff.mp h
    obtain ⟨r2, h2, h⟩ := Option.bind_eq_some_iff.mp h
    have h2 := F73_ok (m + 0) (e131.c0) (e131.c1) r2 h2
    cases r2 with
    | a0 z150 z151 =>
      rcases ite_eq h with ⟨h3, h⟩ | ⟨h3, h⟩
      · skip
        cases h
      · skip
        rcases ite_eq h with ⟨h4, h⟩ | ⟨h4, h⟩
        · skip
          obtain ⟨e152, h5, h⟩ := Option.bind_eq_some_iff.mp h
          obtain ⟨r6, h6, h⟩ := Option.bind_eq_some_iff.mp h
          have h6 := F73_ok (m + 0) (e152.c0) (e152.c1) r6 h6
          cases r6 with
          | a0 z153 z154 =>
            cases h
            exact call_pathL (gs := [.a, .t, .el (W34.cells e131), .an (V.agg [i64 z150, i64 z151]) [], .a, .a, .f, .t, .el (W34.cells e152), .an (V.agg [i64 z153, i64 z154]) [], .a, .a, .ft [⟨0, [0], []⟩, ⟨1, [0], []⟩, ⟨2, [], []⟩, ⟨3, [], []⟩, ⟨4, [], []⟩, ⟨5, [], []⟩, ⟨6, [0], []⟩, ⟨7, [0], []⟩, ⟨8, [], []⟩, ⟨9, [], []⟩, ⟨10, [0], []⟩, ⟨11, [0], []⟩, ⟨12, [], []⟩, ⟨13, [], []⟩, ⟨14, [], []⟩, ⟨15, [], []⟩, ⟨16, [], []⟩, ⟨17, [1], [1]⟩, ⟨18, [2], [2]⟩]]) (notIn []) rfl rfl (by kernel_rfl) (And.intro (decide_eq_true h0) (And.intro (W34.dec_ok h1) (And.intro h2 (And.intro (decide_eq_false h3) (And.intro (decide_eq_true h4) (And.intro (W34.dec_ok h5) (And.intro h6 (And.intro (Eq.refl ([⟨0, [0], []⟩, ⟨1, [0], []⟩, ⟨2, [], []⟩, ⟨3, [], []⟩, ⟨4, [], []⟩, ⟨5, [], []⟩, ⟨6, [0], []⟩, ⟨7, [0], []⟩, ⟨8, [], []⟩, ⟨9, [], []⟩, ⟨10, [0], []⟩, ⟨11, [0], []⟩, ⟨12, [], []⟩, ⟨13, [], []⟩, ⟨14, [], []⟩, ⟨15, [], []⟩, ⟨16, [], []⟩, ⟨17, [1], [1]⟩, ⟨18, [2], [2]⟩] : List Foot)) True.intro))))))))
        · skip
          cases h
  · skip
    cases h
/-! ## 112 -/
noncomputable abbrev B112 : Code := (Try.f112.body).getD .skip
inductive R112_0 where
  | e0 (z180 : Int)
@[reducible] def s112_0_0 (z179 : Int) (z180 : Int) (z181 : Int) (b182 : Bool) : S := { T := V.int IntKind.u64 z179 :: U :: U :: V.int IntKind.u64 z180 :: V.int IntKind.u64 z181 :: V.int IntKind.u64 z181 :: vb b182 :: un 15 [], σ := [] }
def R112_0.St : R112_0 → VX × S → Prop
  | .e0 z180, p => ∃ z179 : Int, ∃ z181 : Int, ∃ b182 : Bool, p = (VX.exit 0, s112_0_0 z179 z180 z181 b182)
def L112_0 : Nat → Int → Int → Int → Option R112_0
  | 0, _, _, _ => none
  | n + 1, z176, z177, z178 =>
    if z178 > 0 then
     if IntKind.wrap IntKind.u64 (IntKind.wrap IntKind.u64 (z177 + z178) * IntKind.wrap IntKind.u64 (z177 + z178)) ≤ z176 then
      L112_0 n (z176) (IntKind.wrap IntKind.u64 (z177 + z178)) (IntKind.wrap IntKind.u64 (Int.tdiv z178 2))
     else
      L112_0 n (z176) (z177) (IntKind.wrap IntKind.u64 (Int.tdiv z178 2))
    else
     some (R112_0.e0 (z177))
theorem L112_0_ok (m : Nat) : ∀ (n : Nat) (z176 : Int) (z177 : Int) (z178 : Int) (r : R112_0), L112_0 n z176 z177 z178 = some r → ∃ st, loopFrom Try.prog X (genO X (call Try.prog X O0 18446744073709551616 (m + 0))) 112 (0) 18446744073709551616 B112 0 n ({ T := V.int IntKind.u64 z176 :: U :: U :: V.int IntKind.u64 z177 :: V.int IntKind.u64 z178 :: un 17 [], σ := [] }) = some st ∧ r.St st
  | 0, _, _, _, r, h => by cases h
  | n + 1, z176, z177, z178, r, h => by
    rw [L112_0] at h
    rcases ite_eq h with ⟨h0, h⟩ | ⟨h0, h⟩
    · skip
      rcases ite_eq h with ⟨h1, h⟩ | ⟨h1, h⟩
      · skip
        obtain ⟨st, hs, hr⟩ := L112_0_ok m n (z176) (IntKind.wrap IntKind.u64 (z177 + z178)) (IntKind.wrap IntKind.u64 (Int.tdiv z178 2)) r h
        exact ⟨st, (round_on (gs := [.t, .t, .a]) (notIn []) (by kernel_rfl) (And.intro (decide_eq_true h0) (And.intro (decide_eq_true h1) True.intro)) n).trans hs, hr⟩
      · skip
        obtain ⟨st, hs, hr⟩ := L112_0_ok m n (z176) (z177) (IntKind.wrap IntKind.u64 (Int.tdiv z178 2)) r h
        exact ⟨st, (round_on (gs := [.t, .f, .a]) (notIn []) (by kernel_rfl) (And.intro (decide_eq_true h0) (And.intro (decide_eq_false h1) True.intro)) n).trans hs, hr⟩
    · skip
      cases h
      exact ⟨_, round_out (gs := [.f]) (notIn []) (by kernel_rfl) rfl (And.intro (decide_eq_false h0) True.intro) n, z176, z178, decide (z178 > 0), rfl⟩
inductive A112 where
  | a0 (z187 : Int)
@[reducible] def A112.out : A112 → V × Store
  | .a0 z187 => (V.int IntKind.u64 z187, [])
def F112 (z173 : Int) : Option A112 :=
  (L112_0 18446744073709551616 (z173) (0) (2147483648)).bind fun r => match r with
  | .e0 z184 =>
   some (A112.a0 (z184))
theorem F112_ok (m : Nat) (z173 : Int) (r : A112) (h : F112 z173 = some r) : call Try.prog X O0 18446744073709551616 (m + 1) 112 ([V.int IntKind.u64 z173]) ([]) = some r.out := by
  unfold F112 at h
  obtain ⟨r0, h0, h⟩ := Option.bind_eq_some_iff.mp h
  obtain ⟨st0, h0, hr0⟩ := L112_0_ok m 18446744073709551616 (z173) (0) (2147483648) r0 h0
  have h0 : loopRun Try.prog X (genO X (call Try.prog X O0 18446744073709551616 (m + 0))) 112 (0) 18446744073709551616 B112 0 ({ T := V.int IntKind.u64 z173 :: U :: V.int IntKind.u64 0 :: V.int IntKind.u64 0 :: V.int IntKind.u64 2147483648 :: un 17 [], σ := [] }) = some st0 := by
    rw [loopRun_from, show pre X 112 (0) 0 ({ T := V.int IntKind.u64 z173 :: U :: V.int IntKind.u64 0 :: V.int IntKind.u64 0 :: V.int IntKind.u64 2147483648 :: un 17 [], σ := [] }) = { T := V.int IntKind.u64 z173 :: U :: U :: V.int IntKind.u64 0 :: V.int IntKind.u64 2147483648 :: un 17 [], σ := [] } by kernel_rfl]
    exact h0
  cases r0 with
  | e0 z184 =>
    obtain ⟨z183, z185, b186, rfl⟩ := hr0
    cases h
    exact call_pathL (gs := [.lp (VX.exit 0) (s112_0_0 z183 z184 z185 b186)]) (notIn []) rfl rfl (by kernel_rfl) (And.intro h0 True.intro)
/-! ## 91 -/
inductive A91 where
  | a0 (z189 : Int)
@[reducible] def A91.out : A91 → V × Store
  | .a0 z189 => (i64 z189, [])
def F91 (z168 : Int) (z169 : Int) : Option A91 :=
  bnd (F101 (z168) (-1073741824) (1073741824)) fun z171 =>
  bnd (F101 (z169) (-1073741824) (1073741824)) fun z172 =>
  (F112 (IntKind.wrap IntKind.u64 (IntKind.wrap IntKind.u64 (w64 (z171 * z171)) + IntKind.wrap IntKind.u64 (w64 (z172 * z172))))).bind fun r => match r with
  | .a0 z188 =>
   some (A91.a0 (w64 z188))
theorem F91_ok (m : Nat) (z168 : Int) (z169 : Int) (r : A91) (h : F91 z168 z169 = some r) : call Try.prog X O0 18446744073709551616 (m + 2) 91 ([i64 z168, i64 z169]) ([]) = some r.out := by
  unfold F91 at h
  obtain ⟨z171, h0, h⟩ := bnd_eq h
  obtain ⟨z172, h1, h⟩ := bnd_eq h
  obtain ⟨r2, h2, h⟩ := Option.bind_eq_some_iff.mp h
  have h2 := F112_ok (m + 0) (IntKind.wrap IntKind.u64 (IntKind.wrap IntKind.u64 (w64 (z171 * z171)) + IntKind.wrap IntKind.u64 (w64 (z172 * z172)))) r2 h2
  cases r2 with
  | a0 z188 =>
    cases h
    exact call_pathL (gs := [.an (i64 z171) [], .an (i64 z172) [], .an (V.int IntKind.u64 z188) []]) (notIn []) rfl rfl (by kernel_rfl) (And.intro (F101_ok (m + 0) (z168) (-1073741824) (1073741824) z171 h0) (And.intro (F101_ok (m + 0) (z169) (-1073741824) (1073741824) z172 h1) (And.intro h2 True.intro)))
/-! ## 61 -/
inductive A61 where
  | a0 (z191 : Int)
@[reducible] def A61.out : A61 → V × Store
  | .a0 z191 => (i64 z191, [])
def F61 (z163 : Int) (z164 : Int) (z165 : Int) (z166 : Int) : Option A61 :=
  (F91 (w64 (z165 - z163)) (w64 (z166 - z164))).bind fun r => match r with
  | .a0 z190 =>
   some (A61.a0 (z190))
theorem F61_ok (m : Nat) (z163 : Int) (z164 : Int) (z165 : Int) (z166 : Int) (r : A61) (h : F61 z163 z164 z165 z166 = some r) : call Try.prog X O0 18446744073709551616 (m + 3) 61 ([V.agg [i64 z163, i64 z164], V.agg [i64 z165, i64 z166]]) ([]) = some r.out := by
  unfold F61 at h
  obtain ⟨r0, h0, h⟩ := Option.bind_eq_some_iff.mp h
  have h0 := F91_ok (m + 0) (w64 (z165 - z163)) (w64 (z166 - z164)) r0 h0
  cases r0 with
  | a0 z190 =>
    cases h
    exact call_pathL (gs := [.a, .a, .a, .a, .an (i64 z190) []]) (notIn []) rfl rfl (by kernel_rfl) (And.intro h0 True.intro)
/-! ## 74 -/
def F74 (z196 : Int) : Int :=
  bnd (F101 (z196) (-1099511627776) (1099511627776)) fun z198 =>
  z198
theorem F74_ok (m : Nat) (z196 : Int) (z200 : Int) (h : F74 z196 = z200) : call Try.prog X O0 18446744073709551616 (m + 2) 74 ([i64 z196]) ([]) = some (i64 z200, []) := by
  unfold F74 at h
  obtain ⟨z198, h0, h⟩ := bnd_eq h
  subst h
  exact call_pathL (gs := [.an (i64 z198) []]) (notIn []) rfl rfl (by kernel_rfl) (And.intro (F101_ok (m + 0) (z196) (-1099511627776) (1099511627776) z198 h0) True.intro)
/-! ## 60 -/
def F60 (z193 : Int) (z194 : Int) : Int :=
  bnd (F74 (z193)) fun z201 =>
  bnd (F74 (z194)) fun z202 =>
  bnd (F74 (w64 (z201 + z202))) fun z203 =>
  z203
theorem F60_ok (m : Nat) (z193 : Int) (z194 : Int) (z205 : Int) (h : F60 z193 z194 = z205) : call Try.prog X O0 18446744073709551616 (m + 3) 60 ([i64 z193, i64 z194]) ([]) = some (i64 z205, []) := by
  unfold F60 at h
  obtain ⟨z201, h0, h⟩ := bnd_eq h
  obtain ⟨z202, h1, h⟩ := bnd_eq h
  obtain ⟨z203, h2, h⟩ := bnd_eq h
  subst h
  exact call_pathL (gs := [.an (i64 z201) [], .an (i64 z202) [], .an (i64 z203) []]) (notIn []) rfl rfl (by kernel_rfl) (And.intro (F74_ok (m + 0) (z193) z201 h0) (And.intro (F74_ok (m + 0) (z194) z202 h1) (And.intro (F74_ok (m + 0) (w64 (z201 + z202)) z203 h2) True.intro)))
/-! ## 29 -/
noncomputable abbrev B29 : Code := (Try.f29.body).getD .skip
inductive R29_0 where
  | e0 (z227 : Int)
@[reducible] def s29_0_0 (z227 : Int) (z228 : Int) (b229 : Bool) (l230 : List (List V)) (z231 : Int) (b232 : Bool) : S := { T := U :: V.ptr 0 0 0 :: U :: i64 z227 :: i64 z228 :: U :: U :: i64 z228 :: V.agg [vb b229, V.list 2 l230] :: i64 z231 :: vb b232 :: un 14 [], σ := [Ob.cells true false 2 [[vb b229, V.list 2 l230]]] }
def R29_0.St : R29_0 → VX × S → Prop
  | .e0 z227, p => ∃ z228 : Int, ∃ b229 : Bool, ∃ l230 : List (List V), ∃ z231 : Int, ∃ b232 : Bool, p = (VX.exit 0, s29_0_0 z227 z228 b229 l230 z231 b232)
def L29_0 : Nat → Int → Int → Bool → List (List V) → Option R29_0
  | 0, _, _, _, _ => none
  | n + 1, z207, z208, b209, l210 =>
    bnd (F58 (b209) (l210)) fun z220 =>
    if z208 < z220 then
     (F59 (b209) (l210) (z208)).bind fun r => match r with
     | .a0 z221 z222 z223 z224 =>
      (F61 (z221) (z222) (z223) (z224)).bind fun r => match r with
      | .a0 z225 =>
       bnd (F60 (z207) (z225)) fun z226 =>
       L29_0 n (z226) (w64 (z208 + 1)) (b209) (l210)
    else
     some (R29_0.e0 (z207))
theorem L29_0_ok (m : Nat) : ∀ (n : Nat) (z207 : Int) (z208 : Int) (b209 : Bool) (l210 : List (List V)) (r : R29_0), L29_0 n z207 z208 b209 l210 = some r → ∃ st, loopFrom Try.prog X (genO X (call Try.prog X O0 18446744073709551616 (m + 4))) 29 (0) 18446744073709551616 B29 0 n ({ T := U :: V.ptr 0 0 0 :: U :: i64 z207 :: i64 z208 :: un 20 [], σ := [Ob.cells true false 2 [[vb b209, V.list 2 l210]]] }) = some st ∧ r.St st
  | 0, _, _, _, _, r, h => by cases h
  | n + 1, z207, z208, b209, l210, r, h => by
    rw [L29_0] at h
    obtain ⟨z220, h0, h⟩ := bnd_eq h
    rcases ite_eq h with ⟨h1, h⟩ | ⟨h1, h⟩
    · skip
      obtain ⟨r2, h2, h⟩ := Option.bind_eq_some_iff.mp h
      have h2 := F59_ok (m + 0) (b209) (l210) (z208) r2 h2
      cases r2 with
      | a0 z221 z222 z223 z224 =>
        obtain ⟨r3, h3, h⟩ := Option.bind_eq_some_iff.mp h
        have h3 := F61_ok (m + 1) (z221) (z222) (z223) (z224) r3 h3
        cases r3 with
        | a0 z225 =>
          obtain ⟨z226, h4, h⟩ := bnd_eq h
          obtain ⟨st, hs, hr⟩ := L29_0_ok m n (z226) (w64 (z208 + 1)) (b209) (l210) r h
          exact ⟨st, (round_on (gs := [.a, .an (i64 z220) [], .t, .a, .an (V.tup [V.agg [i64 z221, i64 z222], V.agg [i64 z223, i64 z224]]) [], .a, .a, .a, .a, .an (i64 z225) [], .an (i64 z226) []]) (notIn []) (by kernel_rfl) (And.intro (F58_ok (m + 3) (b209) (l210) z220 h0) (And.intro (decide_eq_true h1) (And.intro h2 (And.intro h3 (And.intro (F60_ok (m + 1) (z207) (z225) z226 h4) True.intro))))) n).trans hs, hr⟩
    · skip
      cases h
      exact ⟨_, round_out (gs := [.a, .an (i64 z220) [], .f]) (notIn []) (by kernel_rfl) rfl (And.intro (F58_ok (m + 3) (b209) (l210) z220 h0) (And.intro (decide_eq_false h1) True.intro)) n, z208, b209, l210, z220, decide (z208 < z220), rfl⟩
inductive A29 where
  | a0 (z239 : Int)
@[reducible] def A29.out : A29 → V × Store
  | .a0 z239 => (i64 z239, [])
def F29 (b116 : Bool) (l117 : List (List V)) : Option A29 :=
  (L29_0 18446744073709551616 (0) (0) (b116) (l117)).bind fun r => match r with
  | .e0 z233 =>
   some (A29.a0 (z233))
theorem F29_ok (m : Nat) (b116 : Bool) (l117 : List (List V)) (r : A29) (h : F29 b116 l117 = some r) : call Try.prog X O0 18446744073709551616 (m + 5) 29 ([V.agg [vb b116, V.list 2 l117]]) ([]) = some r.out := by
  unfold F29 at h
  obtain ⟨r0, h0, h⟩ := Option.bind_eq_some_iff.mp h
  obtain ⟨st0, h0, hr0⟩ := L29_0_ok m 18446744073709551616 (0) (0) (b116) (l117) r0 h0
  have h0 : loopRun Try.prog X (genO X (call Try.prog X O0 18446744073709551616 (m + 4))) 29 (0) 18446744073709551616 B29 0 ({ T := V.agg [vb b116, V.list 2 l117] :: V.ptr 0 0 0 :: i64 0 :: i64 0 :: i64 0 :: un 20 [], σ := [Ob.cells true false 2 [[vb b116, V.list 2 l117]]] }) = some st0 := by
    rw [loopRun_from, show pre X 29 (0) 0 ({ T := V.agg [vb b116, V.list 2 l117] :: V.ptr 0 0 0 :: i64 0 :: i64 0 :: i64 0 :: un 20 [], σ := [Ob.cells true false 2 [[vb b116, V.list 2 l117]]] }) = { T := U :: V.ptr 0 0 0 :: U :: i64 0 :: i64 0 :: un 20 [], σ := [Ob.cells true false 2 [[vb b116, V.list 2 l117]]] } by kernel_rfl]
    exact h0
  cases r0 with
  | e0 z233 =>
    obtain ⟨z234, b235, l236, z237, b238, rfl⟩ := hr0
    cases h
    exact call_pathL (gs := [.lp (VX.exit 0) (s29_0_0 z233 z234 b235 l236 z237 b238)]) (notIn []) rfl rfl (by kernel_rfl) (And.intro h0 True.intro)
/-! ## 90 -/
def F90 (z249 : Int) (z250 : Int) (z251 : Int) : Int :=
  if z249 < z250 then
   z250
  else
   if z249 > z251 then
    z251
   else
    z249
theorem F90_ok (m : Nat) (z249 : Int) (z250 : Int) (z251 : Int) (z254 : Int) (h : F90 z249 z250 z251 = z254) : call Try.prog X O0 18446744073709551616 (m + 1) 90 ([i64 z249, i64 z250, i64 z251]) ([]) = some (i64 z254, []) := by
  unfold F90 at h
  rcases ite_eq h with ⟨h0, h⟩ | ⟨h0, h⟩
  · skip
    subst h
    exact call_pathL (gs := [.t]) (notIn []) rfl rfl (by kernel_rfl) (And.intro (decide_eq_true h0) True.intro)
  · skip
    rcases ite_eq h with ⟨h1, h⟩ | ⟨h1, h⟩
    · skip
      subst h
      exact call_pathL (gs := [.f, .t]) (notIn []) rfl rfl (by kernel_rfl) (And.intro (decide_eq_false h0) (And.intro (decide_eq_true h1) True.intro))
    · skip
      subst h
      exact call_pathL (gs := [.f, .f]) (notIn []) rfl rfl (by kernel_rfl) (And.intro (decide_eq_false h0) (And.intro (decide_eq_false h1) True.intro))
/-! ## 62 -/
inductive A62 where
  | a0 (z257 : Int) (z258 : Int)
@[reducible] def A62.out : A62 → V × Store
  | .a0 z257 z258 => (V.tup [i64 z257, i64 z258], [])
def F62 (z246 : Int) (z247 : Int) : Option A62 :=
  bnd (F90 (z246) (0) (65536)) fun z255 =>
  bnd (F90 (z247) (0) (65536)) fun z256 =>
  some (A62.a0 (if z256 < z255 then z256 else z255) (if z256 > z255 then z256 else z255))
theorem F62_ok (m : Nat) (z246 : Int) (z247 : Int) (r : A62) (h : F62 z246 z247 = some r) : call Try.prog X O0 18446744073709551616 (m + 2) 62 ([i64 z246, i64 z247]) ([]) = some r.out := by
  unfold F62 at h
  obtain ⟨z255, h0, h⟩ := bnd_eq h
  obtain ⟨z256, h1, h⟩ := bnd_eq h
  cases h
  exact call_pathL (gs := [.an (i64 z255) [], .an (i64 z256) []]) (notIn []) rfl rfl (by kernel_rfl) (And.intro (F90_ok (m + 0) (z246) (0) (65536) z255 h0) (And.intro (F90_ok (m + 0) (z247) (0) (65536) z256 h1) True.intro))
/-! ## 47 -/
inductive A47 where
  | a0 (l266 : List (List V))
@[reducible] def A47.out : A47 → V × Store
  | .a0 l266 => (V.hs 0 0 (List.length l266), [Ob.cells true true 2 l266])
def F47 (l266 : List (List V)) : Option A47 :=
  if List.length l266 * 16 ≤ 140737488355328 ∧ List.length l266 ≤ 140737488355328 then
   some (A47.a0 (l266))
  else
   none
theorem F47_ok (m : Nat) (l266 : List (List V)) (r : A47) (h : F47 l266 = some r) : call Try.prog X O0 18446744073709551616 (m + 1) 47 ([V.list 2 l266]) ([]) = some r.out := by
  unfold F47 at h
  rcases ite_eq h with ⟨h0, h⟩ | ⟨h0, h⟩
  · skip
    cases h
    exact call_oracle (cloneO_eq rfl l266 h0)
  · skip
    cases h
/-! ## 26 -/
def F26 (b278 : Bool) (l279 : List (List V)) : Int :=
  if (b278) = true then
   if (↑(List.length l279) : Int) ≥ 2 then
    (↑(List.length l279) : Int)
   else
    if w64 ((↑(List.length l279) : Int) - 1) > 0 then w64 ((↑(List.length l279) : Int) - 1) else 0
  else
   if w64 ((↑(List.length l279) : Int) - 1) > 0 then w64 ((↑(List.length l279) : Int) - 1) else 0
theorem F26_ok (m : Nat) (b278 : Bool) (l279 : List (List V)) (z282 : Int) (h : F26 b278 l279 = z282) : call Try.prog X O0 18446744073709551616 (m + 1) 26 ([V.agg [vb b278, V.list 2 l279]]) ([]) = some (i64 z282, []) := by
  unfold F26 at h
  rcases ite_eq h with ⟨h0, h⟩ | ⟨h0, h⟩
  · skip
    rcases ite_eq h with ⟨h1, h⟩ | ⟨h1, h⟩
    · skip
      subst h
      exact call_pathL (gs := [.a, .a, .t, .t, .t, .t]) (notIn []) rfl rfl (by kernel_rfl) (And.intro h0 (And.intro h0 (And.intro h0 (And.intro (decide_eq_true h1) True.intro))))
    · skip
      subst h
      exact call_pathL (gs := [.a, .a, .t, .t, .t, .f]) (notIn []) rfl rfl (by kernel_rfl) (And.intro h0 (And.intro h0 (And.intro h0 (And.intro (decide_eq_false h1) True.intro))))
  · skip
    subst h
    exact call_pathL (gs := [.a, .a, .f, .f, .f, .a]) (notIn []) rfl rfl (by kernel_rfl) (And.intro (Bool.eq_false_iff.mpr h0) (And.intro (Bool.eq_false_iff.mpr h0) (And.intro (Bool.eq_false_iff.mpr h0) True.intro)))
/-! ## 98 -/
def F98 (z295 : Int) : Int :=
  bnd (F90 (z295) (-536870912) (536870912)) fun z297 =>
  z297
theorem F98_ok (m : Nat) (z295 : Int) (z299 : Int) (h : F98 z295 = z299) : call Try.prog X O0 18446744073709551616 (m + 2) 98 ([i64 z295]) ([]) = some (i64 z299, []) := by
  unfold F98 at h
  obtain ⟨z297, h0, h⟩ := bnd_eq h
  subst h
  exact call_pathL (gs := [.an (i64 z297) []]) (notIn []) rfl rfl (by kernel_rfl) (And.intro (F90_ok (m + 0) (z295) (-536870912) (536870912) z297 h0) True.intro)
/-! ## 71 -/
inductive A71 where
  | a0 (z302 : Int) (z303 : Int)
@[reducible] def A71.out : A71 → V × Store
  | .a0 z302 z303 => (V.agg [i64 z302, i64 z303], [])
def F71 (z292 : Int) (z293 : Int) : Option A71 :=
  bnd (F98 (z292)) fun z300 =>
  bnd (F98 (z293)) fun z301 =>
  some (A71.a0 (z300) (z301))
theorem F71_ok (m : Nat) (z292 : Int) (z293 : Int) (r : A71) (h : F71 z292 z293 = some r) : call Try.prog X O0 18446744073709551616 (m + 3) 71 ([V.agg [i64 z292, i64 z293]]) ([]) = some r.out := by
  unfold F71 at h
  obtain ⟨z300, h0, h⟩ := bnd_eq h
  obtain ⟨z301, h1, h⟩ := bnd_eq h
  cases h
  exact call_pathL (gs := [.a, .an (i64 z300) [], .a, .an (i64 z301) [], .a, .ft [⟨0, [0], []⟩, ⟨1, [0], []⟩, ⟨2, [], []⟩, ⟨3, [0], []⟩, ⟨4, [0], []⟩, ⟨5, [], []⟩, ⟨6, [], []⟩, ⟨7, [1], [1]⟩]]) (notIn []) rfl rfl (by kernel_rfl) (And.intro (F98_ok (m + 0) (z292) z300 h0) (And.intro (F98_ok (m + 0) (z293) z301 h1) (And.intro (Eq.refl ([⟨0, [0], []⟩, ⟨1, [0], []⟩, ⟨2, [], []⟩, ⟨3, [0], []⟩, ⟨4, [0], []⟩, ⟨5, [], []⟩, ⟨6, [], []⟩, ⟨7, [1], [1]⟩] : List Foot)) True.intro)))
/-! ## 111 -/
noncomputable abbrev B111 : Code := (Try.f111.body).getD .skip
inductive R111_0 where
  | e0 (z321 : Int)
@[reducible] def s111_0_0 (z320 : Int) (z321 : Int) (z322 : Int) (b323 : Bool) : S := { T := V.int IntKind.u64 z320 :: U :: U :: V.int IntKind.u64 z321 :: V.int IntKind.u64 z322 :: U :: V.int IntKind.u64 z322 :: vb b323 :: un 13 [], σ := [] }
def R111_0.St : R111_0 → VX × S → Prop
  | .e0 z321, p => ∃ z320 : Int, ∃ z322 : Int, ∃ b323 : Bool, p = (VX.exit 0, s111_0_0 z320 z321 z322 b323)
def L111_0 : Nat → Int → Int → Int → Option R111_0
  | 0, _, _, _ => none
  | n + 1, z317, z318, z319 =>
    if z319 > 0 then
     if IntKind.wrap IntKind.u64 (IntKind.wrap IntKind.u64 (↑(BitVec.toNat (BitVec.ofInt (IntKind.bits IntKind.u64) z318 ||| BitVec.ofInt (IntKind.bits IntKind.u64) z319)) : Int) * IntKind.wrap IntKind.u64 (↑(BitVec.toNat (BitVec.ofInt (IntKind.bits IntKind.u64) z318 ||| BitVec.ofInt (IntKind.bits IntKind.u64) z319)) : Int)) ≤ z317 then
      L111_0 n (z317) (IntKind.wrap IntKind.u64 (↑(BitVec.toNat (BitVec.ofInt (IntKind.bits IntKind.u64) z318 ||| BitVec.ofInt (IntKind.bits IntKind.u64) z319)) : Int)) (Int.fdiv z319 2)
     else
      L111_0 n (z317) (z318) (Int.fdiv z319 2)
    else
     some (R111_0.e0 (z318))
theorem L111_0_ok (m : Nat) : ∀ (n : Nat) (z317 : Int) (z318 : Int) (z319 : Int) (r : R111_0), L111_0 n z317 z318 z319 = some r → ∃ st, loopFrom Try.prog X (genO X (call Try.prog X O0 18446744073709551616 (m + 0))) 111 (0) 18446744073709551616 B111 0 n ({ T := V.int IntKind.u64 z317 :: U :: U :: V.int IntKind.u64 z318 :: V.int IntKind.u64 z319 :: un 16 [], σ := [] }) = some st ∧ r.St st
  | 0, _, _, _, r, h => by cases h
  | n + 1, z317, z318, z319, r, h => by
    rw [L111_0] at h
    rcases ite_eq h with ⟨h0, h⟩ | ⟨h0, h⟩
    · skip
      rcases ite_eq h with ⟨h1, h⟩ | ⟨h1, h⟩
      · skip
        obtain ⟨st, hs, hr⟩ := L111_0_ok m n (z317) (IntKind.wrap IntKind.u64 (↑(BitVec.toNat (BitVec.ofInt (IntKind.bits IntKind.u64) z318 ||| BitVec.ofInt (IntKind.bits IntKind.u64) z319)) : Int)) (Int.fdiv z319 2) r h
        exact ⟨st, (round_on (gs := [.t, .t]) (notIn []) (by kernel_rfl) (And.intro (decide_eq_true h0) (And.intro (decide_eq_true h1) True.intro)) n).trans hs, hr⟩
      · skip
        obtain ⟨st, hs, hr⟩ := L111_0_ok m n (z317) (z318) (Int.fdiv z319 2) r h
        exact ⟨st, (round_on (gs := [.t, .f]) (notIn []) (by kernel_rfl) (And.intro (decide_eq_true h0) (And.intro (decide_eq_false h1) True.intro)) n).trans hs, hr⟩
    · skip
      cases h
      exact ⟨_, round_out (gs := [.f]) (notIn []) (by kernel_rfl) rfl (And.intro (decide_eq_false h0) True.intro) n, z317, z319, decide (z319 > 0), rfl⟩
inductive A111 where
  | a0 (z328 : Int)
@[reducible] def A111.out : A111 → V × Store
  | .a0 z328 => (i64 z328, [])
def F111 (z314 : Int) : Option A111 :=
  (L111_0 18446744073709551616 (z314) (0) (2147483648)).bind fun r => match r with
  | .e0 z325 =>
   some (A111.a0 (w64 z325))
theorem F111_ok (m : Nat) (z314 : Int) (r : A111) (h : F111 z314 = some r) : call Try.prog X O0 18446744073709551616 (m + 1) 111 ([V.int IntKind.u64 z314]) ([]) = some r.out := by
  unfold F111 at h
  obtain ⟨r0, h0, h⟩ := Option.bind_eq_some_iff.mp h
  obtain ⟨st0, h0, hr0⟩ := L111_0_ok m 18446744073709551616 (z314) (0) (2147483648) r0 h0
  have h0 : loopRun Try.prog X (genO X (call Try.prog X O0 18446744073709551616 (m + 0))) 111 (0) 18446744073709551616 B111 0 ({ T := V.int IntKind.u64 z314 :: U :: i64 0 :: V.int IntKind.u64 0 :: V.int IntKind.u64 2147483648 :: un 16 [], σ := [] }) = some st0 := by
    rw [loopRun_from, show pre X 111 (0) 0 ({ T := V.int IntKind.u64 z314 :: U :: i64 0 :: V.int IntKind.u64 0 :: V.int IntKind.u64 2147483648 :: un 16 [], σ := [] }) = { T := V.int IntKind.u64 z314 :: U :: U :: V.int IntKind.u64 0 :: V.int IntKind.u64 2147483648 :: un 16 [], σ := [] } by kernel_rfl]
    exact h0
  cases r0 with
  | e0 z325 =>
    obtain ⟨z324, z326, b327, rfl⟩ := hr0
    cases h
    exact call_pathL (gs := [.lp (VX.exit 0) (s111_0_0 z324 z325 z326 b327)]) (notIn []) rfl rfl (by kernel_rfl) (And.intro h0 True.intro)
/-! ## 57 -/
def F57 (z330 : Int) : Int :=
  bnd (F90 (z330) (-1099511627776) (1099511627776)) fun z332 =>
  z332
theorem F57_ok (m : Nat) (z330 : Int) (z334 : Int) (h : F57 z330 = z334) : call Try.prog X O0 18446744073709551616 (m + 2) 57 ([i64 z330]) ([]) = some (i64 z334, []) := by
  unfold F57 at h
  obtain ⟨z332, h0, h⟩ := bnd_eq h
  subst h
  exact call_pathL (gs := [.an (i64 z332) []]) (notIn []) rfl rfl (by kernel_rfl) (And.intro (F90_ok (m + 0) (z330) (-1099511627776) (1099511627776) z332 h0) True.intro)
/-! ## 89 -/
inductive A89 where
  | a0 (z336 : Int)
@[reducible] def A89.out : A89 → V × Store
  | .a0 z336 => (i64 z336, [])
def F89 (z309 : Int) (z310 : Int) : Option A89 :=
  bnd (F90 (z309) (-1073741824) (1073741824)) fun z312 =>
  bnd (F90 (z310) (-1073741824) (1073741824)) fun z313 =>
  (F111 (IntKind.wrap IntKind.u64 (w64 (w64 (z312 * z312) + w64 (z313 * z313))))).bind fun r => match r with
  | .a0 z329 =>
   bnd (F57 (z329)) fun z335 =>
   some (A89.a0 (z335))
theorem F89_ok (m : Nat) (z309 : Int) (z310 : Int) (r : A89) (h : F89 z309 z310 = some r) : call Try.prog X O0 18446744073709551616 (m + 3) 89 ([i64 z309, i64 z310]) ([]) = some r.out := by
  unfold F89 at h
  obtain ⟨z312, h0, h⟩ := bnd_eq h
  obtain ⟨z313, h1, h⟩ := bnd_eq h
  obtain ⟨r2, h2, h⟩ := Option.bind_eq_some_iff.mp h
  have h2 := F111_ok (m + 1) (IntKind.wrap IntKind.u64 (w64 (w64 (z312 * z312) + w64 (z313 * z313)))) r2 h2
  cases r2 with
  | a0 z329 =>
    obtain ⟨z335, h3, h⟩ := bnd_eq h
    cases h
    exact call_pathL (gs := [.an (i64 z312) [], .an (i64 z313) [], .an (i64 z329) [], .an (i64 z335) []]) (notIn []) rfl rfl (by kernel_rfl) (And.intro (F90_ok (m + 1) (z309) (-1073741824) (1073741824) z312 h0) (And.intro (F90_ok (m + 1) (z310) (-1073741824) (1073741824) z313 h1) (And.intro h2 (And.intro (F57_ok (m + 0) (z329) z335 h3) True.intro))))
/-! ## 55 -/
inductive A55 where
  | a0 (z338 : Int) (z339 : Int) (z340 : Int) (z341 : Int) (z342 : Int)
@[reducible] def A55.out : A55 → V × Store
  | .a0 z338 z339 z340 z341 z342 => (V.tup [V.agg [i64 z338, i64 z339], V.agg [i64 z340, i64 z341], i64 z342], [])
def F55 (b287 : Bool) (l288 : List (List V)) (z289 : Int) : Option A55 :=
  if 0 ≤ z289 then
   ((l288[Int.toNat z289]?).bind W34.dec).bind fun e291 =>
   (F71 (e291.c0) (e291.c1)).bind fun r => match r with
   | .a0 z304 z305 =>
    if (↑(List.length l288) : Int) = 0 then
     none -- none
    else
     if 0 ≤ Int.tmod (w64 (z289 + 1)) (↑(List.length l288) : Int) then
      ((l288[Int.toNat (Int.tmod (w64 (z289 + (1 : Int))) (↑(List.length l288) : Int))]?).bind W34.dec).bind fun e306 =>
      (F71 (e306.c0) (e306.c1)).bind fun r => match r with
      | .a0 z307 z308 =>
       (F89 (w64 (z307 - z304)) (w64 (z308 - z305))).bind fun r => match r with
       | .a0 z337 =>
        some (A55.a0 (z304) (z305) (z307) (z308) (z337))
     else
      none -- none
  else
   none -- none
theorem F55_ok (m : Nat) (b287 : Bool) (l288 : List (List V)) (z289 : Int) (r : A55) (h : F55 b287 l288 z289 = some r) : call Try.prog X O0 18446744073709551616 (m + 4) 55 ([V.agg [vb b287, V.list 2 l288], i64 z289]) ([]) = some r.out := by
  unfold F55 at h
  rcases ite_eq h with ⟨h0, h⟩ | ⟨h0, h⟩
  · skip
    obtain ⟨e291, h1, h⟩ := Option.bind_eq_some_iff.mp h
    obtain ⟨r2, h2, h⟩ := Option.bind_eq_some_iff.mp h
    have h2 := F71_ok (m + 0) (e291.c0) (e291.c1) r2 h2
    cases r2 with
    | a0 z304 z305 =>
      rcases ite_eq h with ⟨h3, h⟩ | ⟨h3, h⟩
      · skip
        cases h
      · skip
        rcases ite_eq h with ⟨h4, h⟩ | ⟨h4, h⟩
        · skip
          obtain ⟨e306, h5, h⟩ := Option.bind_eq_some_iff.mp h
          obtain ⟨r6, h6, h⟩ := Option.bind_eq_some_iff.mp h
          have h6 := F71_ok (m + 0) (e306.c0) (e306.c1) r6 h6
          cases r6 with
          | a0 z307 z308 =>
            obtain ⟨r7, h7, h⟩ := Option.bind_eq_some_iff.mp h
            have h7 := F89_ok (m + 0) (w64 (z307 - z304)) (w64 (z308 - z305)) r7 h7
            cases r7 with
            | a0 z337 =>
              cases h
              exact call_pathL (gs := [.a, .t, .el (W34.cells e291), .an (V.agg [i64 z304, i64 z305]) [], .a, .a, .f, .t, .el (W34.cells e306), .an (V.agg [i64 z307, i64 z308]) [], .a, .a, .ft [⟨0, [0], []⟩, ⟨1, [0], []⟩, ⟨2, [], []⟩, ⟨3, [], []⟩, ⟨4, [], []⟩, ⟨5, [], []⟩, ⟨6, [0], []⟩, ⟨7, [0], []⟩, ⟨8, [], []⟩, ⟨9, [], []⟩, ⟨10, [0], []⟩, ⟨11, [0], []⟩, ⟨12, [], []⟩, ⟨13, [], []⟩, ⟨14, [], []⟩, ⟨15, [], []⟩, ⟨16, [], []⟩, ⟨17, [3], [3]⟩, ⟨18, [4], [4]⟩, ⟨19, [3], [3]⟩, ⟨20, [4], [4]⟩], .a, .a, .a, .a, .a, .a, .an (i64 z337) [], .a, .a, .ft [⟨0, [3], []⟩, ⟨1, [4], []⟩, ⟨2, [4], []⟩, ⟨3, [4], []⟩, ⟨4, [3], []⟩, ⟨5, [3], []⟩, ⟨6, [], []⟩, ⟨7, [4], []⟩, ⟨8, [4], []⟩, ⟨9, [3], []⟩, ⟨10, [3], []⟩, ⟨11, [], []⟩, ⟨12, [], []⟩, ⟨13, [1], [1]⟩, ⟨14, [2], [2]⟩, ⟨15, [], []⟩]]) (notIn []) rfl rfl (by kernel_rfl) (And.intro (decide_eq_true h0) (And.intro (W34.dec_ok h1) (And.intro h2 (And.intro (decide_eq_false h3) (And.intro (decide_eq_true h4) (And.intro (W34.dec_ok h5) (And.intro h6 (And.intro (Eq.refl ([⟨0, [0], []⟩, ⟨1, [0], []⟩, ⟨2, [], []⟩, ⟨3, [], []⟩, ⟨4, [], []⟩, ⟨5, [], []⟩, ⟨6, [0], []⟩, ⟨7, [0], []⟩, ⟨8, [], []⟩, ⟨9, [], []⟩, ⟨10, [0], []⟩, ⟨11, [0], []⟩, ⟨12, [], []⟩, ⟨13, [], []⟩, ⟨14, [], []⟩, ⟨15, [], []⟩, ⟨16, [], []⟩, ⟨17, [3], [3]⟩, ⟨18, [4], [4]⟩, ⟨19, [3], [3]⟩, ⟨20, [4], [4]⟩] : List Foot)) (And.intro h7 (And.intro (Eq.refl ([⟨0, [3], []⟩, ⟨1, [4], []⟩, ⟨2, [4], []⟩, ⟨3, [4], []⟩, ⟨4, [3], []⟩, ⟨5, [3], []⟩, ⟨6, [], []⟩, ⟨7, [4], []⟩, ⟨8, [4], []⟩, ⟨9, [3], []⟩, ⟨10, [3], []⟩, ⟨11, [], []⟩, ⟨12, [], []⟩, ⟨13, [1], [1]⟩, ⟨14, [2], [2]⟩, ⟨15, [], []⟩] : List Foot)) True.intro))))))))))
        · skip
          cases h
  · skip
    cases h
/-! ## 56 -/
def F56 (z348 : Int) (z349 : Int) : Int :=
  bnd (F57 (z348)) fun z351 =>
  bnd (F57 (z349)) fun z352 =>
  bnd (F57 (w64 (z351 + z352))) fun z353 =>
  z353
theorem F56_ok (m : Nat) (z348 : Int) (z349 : Int) (z355 : Int) (h : F56 z348 z349 = z355) : call Try.prog X O0 18446744073709551616 (m + 3) 56 ([i64 z348, i64 z349]) ([]) = some (i64 z355, []) := by
  unfold F56 at h
  obtain ⟨z351, h0, h⟩ := bnd_eq h
  obtain ⟨z352, h1, h⟩ := bnd_eq h
  obtain ⟨z353, h2, h⟩ := bnd_eq h
  subst h
  exact call_pathL (gs := [.an (i64 z351) [], .an (i64 z352) [], .an (i64 z353) []]) (notIn []) rfl rfl (by kernel_rfl) (And.intro (F57_ok (m + 0) (z348) z351 h0) (And.intro (F57_ok (m + 0) (z349) z352 h1) (And.intro (F57_ok (m + 0) (w64 (z351 + z352)) z353 h2) True.intro)))
/-! ## 23 -/
noncomputable abbrev B23 : Code := (Try.f23.body).getD .skip
inductive R23_0 where
  | e0 (z378 : Int)
@[reducible] def s23_0_0 (z378 : Int) (z379 : Int) (z380 : Int) (b381 : Bool) (b382 : Bool) (l383 : List (List V)) : S := { T := U :: V.ptr 0 0 0 :: U :: i64 z378 :: un 5 (i64 z379 :: i64 z380 :: vb b381 :: un 13 []), σ := [Ob.cells true false 2 [[vb b382, V.list 2 l383]]] }
def R23_0.St : R23_0 → VX × S → Prop
  | .e0 z378, p => ∃ z379 : Int, ∃ z380 : Int, ∃ b381 : Bool, ∃ b382 : Bool, ∃ l383 : List (List V), p = (VX.exit 0, s23_0_0 z378 z379 z380 b381 b382 l383)
def L23_0 : Nat → Int → Int → Int → Bool → List (List V) → Option R23_0
  | 0, _, _, _, _, _ => none
  | n + 1, z357, z358, z359, b360, l361 =>
    if z359 < z358 then
     (F55 (b360) (l361) (z359)).bind fun r => match r with
     | .a0 z372 z373 z374 z375 z376 =>
      bnd (F56 (z357) (z376)) fun z377 =>
      L23_0 n (z377) (z358) (w64 (z359 + 1)) (b360) (l361)
    else
     some (R23_0.e0 (z357))
theorem L23_0_ok (m : Nat) : ∀ (n : Nat) (z357 : Int) (z358 : Int) (z359 : Int) (b360 : Bool) (l361 : List (List V)) (r : R23_0), L23_0 n z357 z358 z359 b360 l361 = some r → ∃ st, loopFrom Try.prog X (genO X (call Try.prog X O0 18446744073709551616 (m + 4))) 23 (0) 18446744073709551616 B23 0 n ({ T := U :: V.ptr 0 0 0 :: U :: i64 z357 :: un 5 (i64 z358 :: i64 z359 :: un 14 []), σ := [Ob.cells true false 2 [[vb b360, V.list 2 l361]]] }) = some st ∧ r.St st
  | 0, _, _, _, _, _, r, h => by cases h
  | n + 1, z357, z358, z359, b360, l361, r, h => by
    rw [L23_0] at h
    rcases ite_eq h with ⟨h0, h⟩ | ⟨h0, h⟩
    · skip
      obtain ⟨r1, h1, h⟩ := Option.bind_eq_some_iff.mp h
      have h1 := F55_ok (m + 0) (b360) (l361) (z359) r1 h1
      cases r1 with
      | a0 z372 z373 z374 z375 z376 =>
        obtain ⟨z377, h2, h⟩ := bnd_eq h
        obtain ⟨st, hs, hr⟩ := L23_0_ok m n (z377) (z358) (w64 (z359 + 1)) (b360) (l361) r h
        exact ⟨st, (round_on (gs := [.t, .a, .an (V.tup [V.agg [i64 z372, i64 z373], V.agg [i64 z374, i64 z375], i64 z376]) [], .a, .a, .an (i64 z377) []]) (notIn []) (by kernel_rfl) (And.intro (decide_eq_true h0) (And.intro h1 (And.intro (F56_ok (m + 1) (z357) (z376) z377 h2) True.intro))) n).trans hs, hr⟩
    · skip
      cases h
      exact ⟨_, round_out (gs := [.f]) (notIn []) (by kernel_rfl) rfl (And.intro (decide_eq_false h0) True.intro) n, z358, z359, decide (z359 < z358), b360, l361, rfl⟩
inductive A23 where
  | a0 (z390 : Int)
@[reducible] def A23.out : A23 → V × Store
  | .a0 z390 => (i64 z390, [])
def F23 (b275 : Bool) (l276 : List (List V)) : Option A23 :=
  bnd (F26 (b275) (l276)) fun z371 =>
  (L23_0 18446744073709551616 (0) (z371) (0) (b275) (l276)).bind fun r => match r with
  | .e0 z384 =>
   some (A23.a0 (z384))
theorem F23_ok (m : Nat) (b275 : Bool) (l276 : List (List V)) (r : A23) (h : F23 b275 l276 = some r) : call Try.prog X O0 18446744073709551616 (m + 5) 23 ([V.agg [vb b275, V.list 2 l276]]) ([]) = some r.out := by
  unfold F23 at h
  obtain ⟨z371, h0, h⟩ := bnd_eq h
  obtain ⟨r1, h1, h⟩ := Option.bind_eq_some_iff.mp h
  obtain ⟨st1, h1, hr1⟩ := L23_0_ok m 18446744073709551616 (0) (z371) (0) (b275) (l276) r1 h1
  have h1 : loopRun Try.prog X (genO X (call Try.prog X O0 18446744073709551616 (m + 4))) 23 (0) 18446744073709551616 B23 0 ({ T := V.agg [vb b275, V.list 2 l276] :: V.ptr 0 0 0 :: i64 0 :: i64 0 :: un 4 (V.agg [vb b275, V.list 2 l276] :: i64 z371 :: i64 0 :: un 14 []), σ := [Ob.cells true false 2 [[vb b275, V.list 2 l276]]] }) = some st1 := by
    rw [loopRun_from, show pre X 23 (0) 0 ({ T := V.agg [vb b275, V.list 2 l276] :: V.ptr 0 0 0 :: i64 0 :: i64 0 :: un 4 (V.agg [vb b275, V.list 2 l276] :: i64 z371 :: i64 0 :: un 14 []), σ := [Ob.cells true false 2 [[vb b275, V.list 2 l276]]] }) = { T := U :: V.ptr 0 0 0 :: U :: i64 0 :: un 5 (i64 z371 :: i64 0 :: un 14 []), σ := [Ob.cells true false 2 [[vb b275, V.list 2 l276]]] } by kernel_rfl]
    exact h1
  cases r1 with
  | e0 z384 =>
    obtain ⟨z385, z386, b387, b388, l389, rfl⟩ := hr1
    cases h
    exact call_pathL (gs := [.a, .an (i64 z371) [], .lp (VX.exit 0) (s23_0_0 z384 z385 z386 b387 b388 l389)]) (notIn []) rfl rfl (by kernel_rfl) (And.intro (F26_ok (m + 3) (b275) (l276) z371 h0) (And.intro h1 True.intro))
/-! ## 96 -/
inductive A96 where
  | a0 (z403 : Int) (z404 : Int)
@[reducible] def A96.out : A96 → V × Store
  | .a0 z403 z404 => (V.tup [V.int IntKind.u64 z403, V.int IntKind.u64 z404], [])
def F96 (z400 : Int) (z401 : Int) : Option A96 :=
  some (A96.a0 (IntKind.wrap IntKind.u64 (IntKind.wrap IntKind.u64 (IntKind.wrap IntKind.u64 (Int.fdiv z400 4294967296 * Int.fdiv z401 4294967296) + Int.fdiv (IntKind.wrap IntKind.u64 (IntKind.wrap IntKind.u64 (Int.fdiv z400 4294967296 * IntKind.wrap IntKind.u64 (↑(BitVec.toNat (BitVec.ofInt (IntKind.bits IntKind.u64) z401 &&& BitVec.ofInt (IntKind.bits IntKind.u64) 4294967295)) : Int)) + Int.fdiv (IntKind.wrap IntKind.u64 (IntKind.wrap IntKind.u64 (↑(BitVec.toNat (BitVec.ofInt (IntKind.bits IntKind.u64) z400 &&& BitVec.ofInt (IntKind.bits IntKind.u64) 4294967295)) : Int) * IntKind.wrap IntKind.u64 (↑(BitVec.toNat (BitVec.ofInt (IntKind.bits IntKind.u64) z401 &&& BitVec.ofInt (IntKind.bits IntKind.u64) 4294967295)) : Int))) 4294967296)) 4294967296) + Int.fdiv (IntKind.wrap IntKind.u64 (IntKind.wrap IntKind.u64 (↑(BitVec.toNat (BitVec.ofInt (IntKind.bits IntKind.u64) (IntKind.wrap IntKind.u64 (IntKind.wrap IntKind.u64 (Int.fdiv z400 4294967296 * IntKind.wrap IntKind.u64 (↑(BitVec.toNat (BitVec.ofInt (IntKind.bits IntKind.u64) z401 &&& BitVec.ofInt (IntKind.bits IntKind.u64) 4294967295)) : Int)) + Int.fdiv (IntKind.wrap IntKind.u64 (IntKind.wrap IntKind.u64 (↑(BitVec.toNat (BitVec.ofInt (IntKind.bits IntKind.u64) z400 &&& BitVec.ofInt (IntKind.bits IntKind.u64) 4294967295)) : Int) * IntKind.wrap IntKind.u64 (↑(BitVec.toNat (BitVec.ofInt (IntKind.bits IntKind.u64) z401 &&& BitVec.ofInt (IntKind.bits IntKind.u64) 4294967295)) : Int))) 4294967296)) &&& BitVec.ofInt (IntKind.bits IntKind.u64) 4294967295)) : Int) + IntKind.wrap IntKind.u64 (IntKind.wrap IntKind.u64 (↑(BitVec.toNat (BitVec.ofInt (IntKind.bits IntKind.u64) z400 &&& BitVec.ofInt (IntKind.bits IntKind.u64) 4294967295)) : Int) * Int.fdiv z401 4294967296))) 4294967296)) (IntKind.wrap IntKind.u64 (z400 * z401)))
theorem F96_ok (m : Nat) (z400 : Int) (z401 : Int) (r : A96) (h : F96 z400 z401 = some r) : call Try.prog X O0 18446744073709551616 (m + 1) 96 ([V.int IntKind.u64 z400, V.int IntKind.u64 z401]) ([]) = some r.out := by
  unfold F96 at h
  cases h
  exact call_pathL (gs := []) (notIn []) rfl rfl (by kernel_rfl) True.intro
/-! ## 93 -/
inductive A93 where
  | a0 (z407 : Int) (z408 : Int)
@[reducible] def A93.out : A93 → V × Store
  | .a0 z407 z408 => (V.tup [V.int IntKind.u64 z407, V.int IntKind.u64 z408], [])
def F93 (z397 : Int) (z398 : Int) : Option A93 :=
  (F96 (IntKind.wrap IntKind.u64 z397) (IntKind.wrap IntKind.u64 z398)).bind fun r => match r with
  | .a0 z405 z406 =>
   if z397 < 0 then
    if z398 < 0 then
     some (A93.a0 (IntKind.wrap IntKind.u64 (IntKind.wrap IntKind.u64 (z405 - IntKind.wrap IntKind.u64 z398) - IntKind.wrap IntKind.u64 z397)) (z406))
    else
     some (A93.a0 (IntKind.wrap IntKind.u64 (z405 - IntKind.wrap IntKind.u64 z398)) (z406))
   else
    if z398 < 0 then
     some (A93.a0 (IntKind.wrap IntKind.u64 (z405 - IntKind.wrap IntKind.u64 z397)) (z406))
    else
     some (A93.a0 (z405) (z406))
theorem F93_ok (m : Nat) (z397 : Int) (z398 : Int) (r : A93) (h : F93 z397 z398 = some r) : call Try.prog X O0 18446744073709551616 (m + 2) 93 ([i64 z397, i64 z398]) ([]) = some r.out := by
  unfold F93 at h
  obtain ⟨r0, h0, h⟩ := Option.bind_eq_some_iff.mp h
  have h0 := F96_ok (m + 0) (IntKind.wrap IntKind.u64 z397) (IntKind.wrap IntKind.u64 z398) r0 h0
  cases r0 with
  | a0 z405 z406 =>
    rcases ite_eq h with ⟨h1, h⟩ | ⟨h1, h⟩
    · skip
      rcases ite_eq h with ⟨h2, h⟩ | ⟨h2, h⟩
      · skip
        cases h
        exact call_pathL (gs := [.an (V.tup [V.int IntKind.u64 z405, V.int IntKind.u64 z406]) [], .t, .t]) (notIn []) rfl rfl (by kernel_rfl) (And.intro h0 (And.intro (decide_eq_true h1) (And.intro (decide_eq_true h2) True.intro)))
      · skip
        cases h
        exact call_pathL (gs := [.an (V.tup [V.int IntKind.u64 z405, V.int IntKind.u64 z406]) [], .t, .f]) (notIn []) rfl rfl (by kernel_rfl) (And.intro h0 (And.intro (decide_eq_true h1) (And.intro (decide_eq_false h2) True.intro)))
    · skip
      rcases ite_eq h with ⟨h2, h⟩ | ⟨h2, h⟩
      · skip
        cases h
        exact call_pathL (gs := [.an (V.tup [V.int IntKind.u64 z405, V.int IntKind.u64 z406]) [], .f, .t]) (notIn []) rfl rfl (by kernel_rfl) (And.intro h0 (And.intro (decide_eq_false h1) (And.intro (decide_eq_true h2) True.intro)))
      · skip
        cases h
        exact call_pathL (gs := [.an (V.tup [V.int IntKind.u64 z405, V.int IntKind.u64 z406]) [], .f, .f]) (notIn []) rfl rfl (by kernel_rfl) (And.intro h0 (And.intro (decide_eq_false h1) (And.intro (decide_eq_false h2) True.intro)))
/-! ## 92 -/
def F92 (z411 : Int) (z412 : Int) : Int :=
  if Int.fdiv (w64 z411) 65536 < -1 then
   -9223372036854775808
  else
   if (Int.fdiv (w64 z411) 65536 == -1) = true then
    if (Int.fdiv (IntKind.wrap IntKind.u64 (↑(BitVec.toNat (BitVec.ofInt (IntKind.bits IntKind.u64) (IntKind.wrap IntKind.u64 (z411 * 2 ^ min (Int.toNat 48) (IntKind.bits IntKind.u64))) ||| BitVec.ofInt (IntKind.bits IntKind.u64) (Int.fdiv z412 (2 ^ min (Int.toNat 16) (IntKind.bits IntKind.u64))))) : Int)) 9223372036854775808 == 0) = true then
     -9223372036854775808
    else
     if Int.fdiv (w64 z411) 65536 > 0 then
      9223372036854775807
     else
      if (Int.fdiv (w64 z411) 65536 == 0) = true then
       if (Int.fdiv (IntKind.wrap IntKind.u64 (↑(BitVec.toNat (BitVec.ofInt (IntKind.bits IntKind.u64) (IntKind.wrap IntKind.u64 (z411 * 2 ^ min (Int.toNat 48) (IntKind.bits IntKind.u64))) ||| BitVec.ofInt (IntKind.bits IntKind.u64) (Int.fdiv z412 (2 ^ min (Int.toNat 16) (IntKind.bits IntKind.u64))))) : Int)) 9223372036854775808 != 0) = true then
        9223372036854775807
       else
        w64 (IntKind.wrap IntKind.u64 (↑(BitVec.toNat (BitVec.ofInt (IntKind.bits IntKind.u64) (IntKind.wrap IntKind.u64 (z411 * 2 ^ min (Int.toNat 48) (IntKind.bits IntKind.u64))) ||| BitVec.ofInt (IntKind.bits IntKind.u64) (Int.fdiv z412 (2 ^ min (Int.toNat 16) (IntKind.bits IntKind.u64))))) : Int))
      else
       w64 (IntKind.wrap IntKind.u64 (↑(BitVec.toNat (BitVec.ofInt (IntKind.bits IntKind.u64) (IntKind.wrap IntKind.u64 (z411 * 2 ^ min (Int.toNat 48) (IntKind.bits IntKind.u64))) ||| BitVec.ofInt (IntKind.bits IntKind.u64) (Int.fdiv z412 (2 ^ min (Int.toNat 16) (IntKind.bits IntKind.u64))))) : Int))
   else
    if Int.fdiv (w64 z411) 65536 > 0 then
     9223372036854775807
    else
     if (Int.fdiv (w64 z411) 65536 == 0) = true then
      if (Int.fdiv (IntKind.wrap IntKind.u64 (↑(BitVec.toNat (BitVec.ofInt (IntKind.bits IntKind.u64) (IntKind.wrap IntKind.u64 (z411 * 2 ^ min (Int.toNat 48) (IntKind.bits IntKind.u64))) ||| BitVec.ofInt (IntKind.bits IntKind.u64) (Int.fdiv z412 (2 ^ min (Int.toNat 16) (IntKind.bits IntKind.u64))))) : Int)) 9223372036854775808 != 0) = true then
       9223372036854775807
      else
       w64 (IntKind.wrap IntKind.u64 (↑(BitVec.toNat (BitVec.ofInt (IntKind.bits IntKind.u64) (IntKind.wrap IntKind.u64 (z411 * 2 ^ min (Int.toNat 48) (IntKind.bits IntKind.u64))) ||| BitVec.ofInt (IntKind.bits IntKind.u64) (Int.fdiv z412 (2 ^ min (Int.toNat 16) (IntKind.bits IntKind.u64))))) : Int))
     else
      w64 (IntKind.wrap IntKind.u64 (↑(BitVec.toNat (BitVec.ofInt (IntKind.bits IntKind.u64) (IntKind.wrap IntKind.u64 (z411 * 2 ^ min (Int.toNat 48) (IntKind.bits IntKind.u64))) ||| BitVec.ofInt (IntKind.bits IntKind.u64) (Int.fdiv z412 (2 ^ min (Int.toNat 16) (IntKind.bits IntKind.u64))))) : Int))
theorem F92_ok (m : Nat) (z411 : Int) (z412 : Int) (z415 : Int) (h : F92 z411 z412 = z415) : call Try.prog X O0 18446744073709551616 (m + 1) 92 ([V.int IntKind.u64 z411, V.int IntKind.u64 z412]) ([]) = some (i64 z415, []) := by
  unfold F92 at h
  rcases ite_eq h with ⟨h0, h⟩ | ⟨h0, h⟩
  · skip
    subst h
    exact call_pathL (gs := [.t, .t, .t, .t, .t, .a]) (notIn []) rfl rfl (by kernel_rfl) (And.intro (decide_eq_true h0) (And.intro (decide_eq_true h0) (And.intro (decide_eq_true h0) (And.intro (decide_eq_true h0) (And.intro (decide_eq_true h0) True.intro)))))
  · skip
    rcases ite_eq h with ⟨h1, h⟩ | ⟨h1, h⟩
    · skip
      rcases ite_eq h with ⟨h2, h⟩ | ⟨h2, h⟩
      · skip
        subst h
        exact call_pathL (gs := [.f, .f, .f, .t, .t, .t, .f, .t, .f, .t]) (notIn []) rfl rfl (by kernel_rfl) (And.intro (decide_eq_false h0) (And.intro (decide_eq_false h0) (And.intro (decide_eq_false h0) (And.intro h1 (And.intro h1 (And.intro h1 (And.intro (decide_eq_false h0) (And.intro h1 (And.intro (decide_eq_false h0) (And.intro h2 True.intro))))))))))
      · skip
        rcases ite_eq h with ⟨h3, h⟩ | ⟨h3, h⟩
        · skip
          subst h
          exact call_pathL (gs := [.f, .f, .f, .t, .t, .t, .f, .t, .f, .f, .t, .t, .t, .t, .t, .a]) (notIn []) rfl rfl (by kernel_rfl) (And.intro (decide_eq_false h0) (And.intro (decide_eq_false h0) (And.intro (decide_eq_false h0) (And.intro h1 (And.intro h1 (And.intro h1 (And.intro (decide_eq_false h0) (And.intro h1 (And.intro (decide_eq_false h0) (And.intro (Bool.eq_false_iff.mpr h2) (And.intro (decide_eq_true h3) (And.intro (decide_eq_true h3) (And.intro (decide_eq_true h3) (And.intro (decide_eq_true h3) (And.intro (decide_eq_true h3) True.intro)))))))))))))))
        · skip
          rcases ite_eq h with ⟨h4, h⟩ | ⟨h4, h⟩
          · skip
            rcases ite_eq h with ⟨h5, h⟩ | ⟨h5, h⟩
            · skip
              subst h
              exact call_pathL (gs := [.f, .f, .f, .t, .t, .t, .f, .t, .f, .f, .f, .f, .f, .t, .t, .t, .f, .t, .f, .t]) (notIn []) rfl rfl (by kernel_rfl) (And.intro (decide_eq_false h0) (And.intro (decide_eq_false h0) (And.intro (decide_eq_false h0) (And.intro h1 (And.intro h1 (And.intro h1 (And.intro (decide_eq_false h0) (And.intro h1 (And.intro (decide_eq_false h0) (And.intro (Bool.eq_false_iff.mpr h2) (And.intro (decide_eq_false h3) (And.intro (decide_eq_false h3) (And.intro (decide_eq_false h3) (And.intro h4 (And.intro h4 (And.intro h4 (And.intro (decide_eq_false h3) (And.intro h4 (And.intro (decide_eq_false h3) (And.intro h5 True.intro))))))))))))))))))))
            · skip
              subst h
              exact call_pathL (gs := [.f, .f, .f, .t, .t, .t, .f, .t, .f, .f, .f, .f, .f, .t, .t, .t, .f, .t, .f, .f]) (notIn []) rfl rfl (by kernel_rfl) (And.intro (decide_eq_false h0) (And.intro (decide_eq_false h0) (And.intro (decide_eq_false h0) (And.intro h1 (And.intro h1 (And.intro h1 (And.intro (decide_eq_false h0) (And.intro h1 (And.intro (decide_eq_false h0) (And.intro (Bool.eq_false_iff.mpr h2) (And.intro (decide_eq_false h3) (And.intro (decide_eq_false h3) (And.intro (decide_eq_false h3) (And.intro h4 (And.intro h4 (And.intro h4 (And.intro (decide_eq_false h3) (And.intro h4 (And.intro (decide_eq_false h3) (And.intro (Bool.eq_false_iff.mpr h5) True.intro))))))))))))))))))))
          · skip
            subst h
            exact call_pathL (gs := [.f, .f, .f, .t, .t, .t, .f, .t, .f, .f, .f, .f, .f, .f, .f, .f, .f, .f, .f, .a]) (notIn []) rfl rfl (by kernel_rfl) (And.intro (decide_eq_false h0) (And.intro (decide_eq_false h0) (And.intro (decide_eq_false h0) (And.intro h1 (And.intro h1 (And.intro h1 (And.intro (decide_eq_false h0) (And.intro h1 (And.intro (decide_eq_false h0) (And.intro (Bool.eq_false_iff.mpr h2) (And.intro (decide_eq_false h3) (And.intro (decide_eq_false h3) (And.intro (decide_eq_false h3) (And.intro (Bool.eq_false_iff.mpr h4) (And.intro (Bool.eq_false_iff.mpr h4) (And.intro (Bool.eq_false_iff.mpr h4) (And.intro (decide_eq_false h3) (And.intro (Bool.eq_false_iff.mpr h4) (And.intro (decide_eq_false h3) True.intro)))))))))))))))))))
    · skip
      rcases ite_eq h with ⟨h2, h⟩ | ⟨h2, h⟩
      · skip
        subst h
        exact call_pathL (gs := [.f, .f, .f, .f, .f, .f, .f, .f, .f, .a, .t, .t, .t, .t, .t, .a]) (notIn []) rfl rfl (by kernel_rfl) (And.intro (decide_eq_false h0) (And.intro (decide_eq_false h0) (And.intro (decide_eq_false h0) (And.intro (Bool.eq_false_iff.mpr h1) (And.intro (Bool.eq_false_iff.mpr h1) (And.intro (Bool.eq_false_iff.mpr h1) (And.intro (decide_eq_false h0) (And.intro (Bool.eq_false_iff.mpr h1) (And.intro (decide_eq_false h0) (And.intro (decide_eq_true h2) (And.intro (decide_eq_true h2) (And.intro (decide_eq_true h2) (And.intro (decide_eq_true h2) (And.intro (decide_eq_true h2) True.intro))))))))))))))
      · skip
        rcases ite_eq h with ⟨h3, h⟩ | ⟨h3, h⟩
        · skip
          rcases ite_eq h with ⟨h4, h⟩ | ⟨h4, h⟩
          · skip
            subst h
            exact call_pathL (gs := [.f, .f, .f, .f, .f, .f, .f, .f, .f, .a, .f, .f, .f, .t, .t, .t, .f, .t, .f, .t]) (notIn []) rfl rfl (by kernel_rfl) (And.intro (decide_eq_false h0) (And.intro (decide_eq_false h0) (And.intro (decide_eq_false h0) (And.intro (Bool.eq_false_iff.mpr h1) (And.intro (Bool.eq_false_iff.mpr h1) (And.intro (Bool.eq_false_iff.mpr h1) (And.intro (decide_eq_false h0) (And.intro (Bool.eq_false_iff.mpr h1) (And.intro (decide_eq_false h0) (And.intro (decide_eq_false h2) (And.intro (decide_eq_false h2) (And.intro (decide_eq_false h2) (And.intro h3 (And.intro h3 (And.intro h3 (And.intro (decide_eq_false h2) (And.intro h3 (And.intro (decide_eq_false h2) (And.intro h4 True.intro)))))))))))))))))))
          · skip
            subst h
            exact call_pathL (gs := [.f, .f, .f, .f, .f, .f, .f, .f, .f, .a, .f, .f, .f, .t, .t, .t, .f, .t, .f, .f]) (notIn []) rfl rfl (by kernel_rfl) (And.intro (decide_eq_false h0) (And.intro (decide_eq_false h0) (And.intro (decide_eq_false h0) (And.intro (Bool.eq_false_iff.mpr h1) (And.intro (Bool.eq_false_iff.mpr h1) (And.intro (Bool.eq_false_iff.mpr h1) (And.intro (decide_eq_false h0) (And.intro (Bool.eq_false_iff.mpr h1) (And.intro (decide_eq_false h0) (And.intro (decide_eq_false h2) (And.intro (decide_eq_false h2) (And.intro (decide_eq_false h2) (And.intro h3 (And.intro h3 (And.intro h3 (And.intro (decide_eq_false h2) (And.intro h3 (And.intro (decide_eq_false h2) (And.intro (Bool.eq_false_iff.mpr h4) True.intro)))))))))))))))))))
        · skip
          subst h
          exact call_pathL (gs := [.f, .f, .f, .f, .f, .f, .f, .f, .f, .a, .f, .f, .f, .f, .f, .f, .f, .f, .f, .a]) (notIn []) rfl rfl (by kernel_rfl) (And.intro (decide_eq_false h0) (And.intro (decide_eq_false h0) (And.intro (decide_eq_false h0) (And.intro (Bool.eq_false_iff.mpr h1) (And.intro (Bool.eq_false_iff.mpr h1) (And.intro (Bool.eq_false_iff.mpr h1) (And.intro (decide_eq_false h0) (And.intro (Bool.eq_false_iff.mpr h1) (And.intro (decide_eq_false h0) (And.intro (decide_eq_false h2) (And.intro (decide_eq_false h2) (And.intro (decide_eq_false h2) (And.intro (Bool.eq_false_iff.mpr h3) (And.intro (Bool.eq_false_iff.mpr h3) (And.intro (Bool.eq_false_iff.mpr h3) (And.intro (decide_eq_false h2) (And.intro (Bool.eq_false_iff.mpr h3) (And.intro (decide_eq_false h2) True.intro))))))))))))))))))
/-! ## 63 -/
inductive A63 where
  | a0 (z418 : Int)
@[reducible] def A63.out : A63 → V × Store
  | .a0 z418 => (i64 z418, [])
def F63 (z392 : Int) (z393 : Int) : Option A63 :=
  bnd (F57 (z392)) fun z395 =>
  bnd (F57 (z393)) fun z396 =>
  (F93 (z395) (z396)).bind fun r => match r with
  | .a0 z409 z410 =>
   bnd (F92 (z409) (z410)) fun z416 =>
   bnd (F57 (z416)) fun z417 =>
   some (A63.a0 (z417))
theorem F63_ok (m : Nat) (z392 : Int) (z393 : Int) (r : A63) (h : F63 z392 z393 = some r) : call Try.prog X O0 18446744073709551616 (m + 3) 63 ([i64 z392, i64 z393]) ([]) = some r.out := by
  unfold F63 at h
  obtain ⟨z395, h0, h⟩ := bnd_eq h
  obtain ⟨z396, h1, h⟩ := bnd_eq h
  obtain ⟨r2, h2, h⟩ := Option.bind_eq_some_iff.mp h
  have h2 := F93_ok (m + 0) (z395) (z396) r2 h2
  cases r2 with
  | a0 z409 z410 =>
    obtain ⟨z416, h3, h⟩ := bnd_eq h
    obtain ⟨z417, h4, h⟩ := bnd_eq h
    cases h
    exact call_pathL (gs := [.an (i64 z395) [], .an (i64 z396) [], .an (V.tup [V.int IntKind.u64 z409, V.int IntKind.u64 z410]) [], .an (i64 z416) [], .an (i64 z417) []]) (notIn []) rfl rfl (by kernel_rfl) (And.intro (F57_ok (m + 0) (z392) z395 h0) (And.intro (F57_ok (m + 0) (z393) z396 h1) (And.intro h2 (And.intro (F92_ok (m + 1) (z409) (z410) z416 h3) (And.intro (F57_ok (m + 0) (z416) z417 h4) True.intro)))))
/-! ## 72 -/
inductive A72 where
  | a0 (z461 : Int)
@[reducible] def A72.out : A72 → V × Store
  | .a0 z461 => (i64 z461, [])
def F72 (z456 : Int) (z457 : Int) : Option A72 :=
  bnd (F57 (z456)) fun z459 =>
  bnd (F57 (z457)) fun z460 =>
  if (z460 == 0) = true then
   some (A72.a0 (0))
  else
   if z460 = 0 then
    none -- none
   else
    if (Int.tmod (w64 (z459 * 65536)) z460 != 0) = true then
     if (!decide (w64 (z459 * 65536) < 0) == decide (z460 < 0)) = true then
      bnd (F57 (w64 (w64 (Int.tdiv (w64 (z459 * 65536)) z460) - 1))) fun z462 =>
      some (A72.a0 (z462))
     else
      bnd (F57 (w64 (Int.tdiv (w64 (z459 * 65536)) z460))) fun z463 =>
      some (A72.a0 (z463))
    else
     bnd (F57 (w64 (Int.tdiv (w64 (z459 * 65536)) z460))) fun z464 =>
     some (A72.a0 (z464))
theorem F72_ok (m : Nat) (z456 : Int) (z457 : Int) (r : A72) (h : F72 z456 z457 = some r) : call Try.prog X O0 18446744073709551616 (m + 3) 72 ([i64 z456, i64 z457]) ([]) = some r.out := by
  unfold F72 at h
  obtain ⟨z459, h0, h⟩ := bnd_eq h
  obtain ⟨z460, h1, h⟩ := bnd_eq h
  rcases ite_eq h with ⟨h2, h⟩ | ⟨h2, h⟩
  · skip
    cases h
    exact call_pathL (gs := [.an (i64 z459) [], .an (i64 z460) [], .t]) (notIn []) rfl rfl (by kernel_rfl) (And.intro (F57_ok (m + 0) (z456) z459 h0) (And.intro (F57_ok (m + 0) (z457) z460 h1) (And.intro h2 True.intro)))
  · skip
    rcases ite_eq h with ⟨h3, h⟩ | ⟨h3, h⟩
    · skip
      cases h
    · skip
      rcases ite_eq h with ⟨h4, h⟩ | ⟨h4, h⟩
      · skip
        rcases ite_eq h with ⟨h5, h⟩ | ⟨h5, h⟩
        · skip
          obtain ⟨z462, h6, h⟩ := bnd_eq h
          cases h
          exact call_pathL (gs := [.an (i64 z459) [], .an (i64 z460) [], .f, .f, .f, .t, .t, .t, .t, .t, .t, .t, .an (i64 z462) []]) (notIn []) rfl rfl (by kernel_rfl) (And.intro (F57_ok (m + 0) (z456) z459 h0) (And.intro (F57_ok (m + 0) (z457) z460 h1) (And.intro (Bool.eq_false_iff.mpr h2) (And.intro (decide_eq_false h3) (And.intro (decide_eq_false h3) (And.intro h4 (And.intro h4 (And.intro h4 (And.intro h4 (And.intro h4 (And.intro h4 (And.intro h5 (And.intro (F57_ok (m + 0) (w64 (w64 (Int.tdiv (w64 (z459 * 65536)) z460) - 1)) z462 h6) True.intro)))))))))))))
        · skip
          obtain ⟨z463, h6, h⟩ := bnd_eq h
          cases h
          exact call_pathL (gs := [.an (i64 z459) [], .an (i64 z460) [], .f, .f, .f, .t, .t, .t, .t, .t, .t, .f, .an (i64 z463) []]) (notIn []) rfl rfl (by kernel_rfl) (And.intro (F57_ok (m + 0) (z456) z459 h0) (And.intro (F57_ok (m + 0) (z457) z460 h1) (And.intro (Bool.eq_false_iff.mpr h2) (And.intro (decide_eq_false h3) (And.intro (decide_eq_false h3) (And.intro h4 (And.intro h4 (And.intro h4 (And.intro h4 (And.intro h4 (And.intro h4 (And.intro (Bool.eq_false_iff.mpr h5) (And.intro (F57_ok (m + 0) (w64 (Int.tdiv (w64 (z459 * 65536)) z460)) z463 h6) True.intro)))))))))))))
      · skip
        obtain ⟨z464, h5, h⟩ := bnd_eq h
        cases h
        exact call_pathL (gs := [.an (i64 z459) [], .an (i64 z460) [], .f, .f, .f, .f, .f, .f, .f, .f, .f, .a, .an (i64 z464) []]) (notIn []) rfl rfl (by kernel_rfl) (And.intro (F57_ok (m + 0) (z456) z459 h0) (And.intro (F57_ok (m + 0) (z457) z460 h1) (And.intro (Bool.eq_false_iff.mpr h2) (And.intro (decide_eq_false h3) (And.intro (decide_eq_false h3) (And.intro (Bool.eq_false_iff.mpr h4) (And.intro (Bool.eq_false_iff.mpr h4) (And.intro (Bool.eq_false_iff.mpr h4) (And.intro (Bool.eq_false_iff.mpr h4) (And.intro (Bool.eq_false_iff.mpr h4) (And.intro (Bool.eq_false_iff.mpr h4) (And.intro (F57_ok (m + 0) (w64 (Int.tdiv (w64 (z459 * 65536)) z460)) z464 h5) True.intro))))))))))))
/-! ## 48 -/
inductive A48 where
  | a0 (z474 : Int)
@[reducible] def A48.out : A48 → V × Store
  | .a0 z474 => (i64 z474, [])
def F48 (z466 : Int) (z467 : Int) (z468 : Int) : Option A48 :=
  bnd (F57 (z466)) fun z470 =>
  bnd (F56 (z467) (w64 (0 - z470))) fun z471 =>
  (F63 (z471) (z468)).bind fun r => match r with
  | .a0 z472 =>
   bnd (F56 (z470) (z472)) fun z473 =>
   some (A48.a0 (z473))
theorem F48_ok (m : Nat) (z466 : Int) (z467 : Int) (z468 : Int) (r : A48) (h : F48 z466 z467 z468 = some r) : call Try.prog X O0 18446744073709551616 (m + 4) 48 ([i64 z466, i64 z467, i64 z468]) ([]) = some r.out := by
  unfold F48 at h
  obtain ⟨z470, h0, h⟩ := bnd_eq h
  obtain ⟨z471, h1, h⟩ := bnd_eq h
  obtain ⟨r2, h2, h⟩ := Option.bind_eq_some_iff.mp h
  have h2 := F63_ok (m + 0) (z471) (z468) r2 h2
  cases r2 with
  | a0 z472 =>
    obtain ⟨z473, h3, h⟩ := bnd_eq h
    cases h
    exact call_pathL (gs := [.an (i64 z470) [], .an (i64 z471) [], .an (i64 z472) [], .an (i64 z473) []]) (notIn []) rfl rfl (by kernel_rfl) (And.intro (F57_ok (m + 1) (z466) z470 h0) (And.intro (F56_ok (m + 0) (z467) (w64 (0 - z470)) z471 h1) (And.intro h2 (And.intro (F56_ok (m + 0) (z470) (z472) z473 h3) True.intro))))
/-! ## 39 -/
inductive A39 where
  | a0 (z454 : Int) (z455 : Int)
@[reducible] def A39.out : A39 → V × Store
  | .a0 z454 z455 => (V.agg [i64 z454, i64 z455], [])
def F39 (z443 : Int) (z444 : Int) (z445 : Int) (z446 : Int) (z447 : Int) (z448 : Int) : Option A39 :=
  (F71 (z443) (z444)).bind fun r => match r with
  | .a0 z450 z451 =>
   (F71 (z445) (z446)).bind fun r => match r with
   | .a0 z452 z453 =>
    if z447 ≤ 0 then
     some (A39.a0 (z450) (z451))
    else
     if z447 ≥ z448 then
      some (A39.a0 (z452) (z453))
     else
      (F72 (z447) (z448)).bind fun r => match r with
      | .a0 z465 =>
       (F48 (z450) (z452) (z465)).bind fun r => match r with
       | .a0 z475 =>
        (F48 (z451) (z453) (z465)).bind fun r => match r with
        | .a0 z476 =>
         some (A39.a0 (z475) (z476))
theorem F39_ok (m : Nat) (z443 : Int) (z444 : Int) (z445 : Int) (z446 : Int) (z447 : Int) (z448 : Int) (r : A39) (h : F39 z443 z444 z445 z446 z447 z448 = some r) : call Try.prog X O0 18446744073709551616 (m + 5) 39 ([V.agg [i64 z443, i64 z444], V.agg [i64 z445, i64 z446], i64 z447, i64 z448]) ([]) = some r.out := by
  unfold F39 at h
  obtain ⟨r0, h0, h⟩ := Option.bind_eq_some_iff.mp h
  have h0 := F71_ok (m + 1) (z443) (z444) r0 h0
  cases r0 with
  | a0 z450 z451 =>
    obtain ⟨r1, h1, h⟩ := Option.bind_eq_some_iff.mp h
    have h1 := F71_ok (m + 1) (z445) (z446) r1 h1
    cases r1 with
    | a0 z452 z453 =>
      rcases ite_eq h with ⟨h2, h⟩ | ⟨h2, h⟩
      · skip
        cases h
        exact call_pathL (gs := [.a, .an (V.agg [i64 z450, i64 z451]) [], .a, .an (V.agg [i64 z452, i64 z453]) [], .a, .a, .ft [⟨0, [0], []⟩, ⟨1, [], []⟩, ⟨2, [1], []⟩, ⟨3, [], []⟩, ⟨4, [0], [0]⟩, ⟨5, [1], [1]⟩], .t, .a, .a]) (notIn []) rfl rfl (by kernel_rfl) (And.intro h0 (And.intro h1 (And.intro (Eq.refl ([⟨0, [0], []⟩, ⟨1, [], []⟩, ⟨2, [1], []⟩, ⟨3, [], []⟩, ⟨4, [0], [0]⟩, ⟨5, [1], [1]⟩] : List Foot)) (And.intro (decide_eq_true h2) True.intro))))
      · skip
        rcases ite_eq h with ⟨h3, h⟩ | ⟨h3, h⟩
        · skip
          cases h
          exact call_pathL (gs := [.a, .an (V.agg [i64 z450, i64 z451]) [], .a, .an (V.agg [i64 z452, i64 z453]) [], .a, .a, .ft [⟨0, [0], []⟩, ⟨1, [], []⟩, ⟨2, [1], []⟩, ⟨3, [], []⟩, ⟨4, [0], [0]⟩, ⟨5, [1], [1]⟩], .f, .t, .a, .a]) (notIn []) rfl rfl (by kernel_rfl) (And.intro h0 (And.intro h1 (And.intro (Eq.refl ([⟨0, [0], []⟩, ⟨1, [], []⟩, ⟨2, [1], []⟩, ⟨3, [], []⟩, ⟨4, [0], [0]⟩, ⟨5, [1], [1]⟩] : List Foot)) (And.intro (decide_eq_false h2) (And.intro (decide_eq_true h3) True.intro)))))
        · skip
          obtain ⟨r4, h4, h⟩ := Option.bind_eq_some_iff.mp h
          have h4 := F72_ok (m + 1) (z447) (z448) r4 h4
          cases r4 with
          | a0 z465 =>
            obtain ⟨r5, h5, h⟩ := Option.bind_eq_some_iff.mp h
            have h5 := F48_ok (m + 0) (z450) (z452) (z465) r5 h5
            cases r5 with
            | a0 z475 =>
              obtain ⟨r6, h6, h⟩ := Option.bind_eq_some_iff.mp h
              have h6 := F48_ok (m + 0) (z451) (z453) (z465) r6 h6
              cases r6 with
              | a0 z476 =>
                cases h
                exact call_pathL (gs := [.a, .an (V.agg [i64 z450, i64 z451]) [], .a, .an (V.agg [i64 z452, i64 z453]) [], .a, .a, .ft [⟨0, [0], []⟩, ⟨1, [], []⟩, ⟨2, [1], []⟩, ⟨3, [], []⟩, ⟨4, [0], [0]⟩, ⟨5, [1], [1]⟩], .f, .f, .an (i64 z465) [], .a, .a, .an (i64 z475) [], .a, .a, .an (i64 z476) [], .a, .ft [⟨0, [0], []⟩, ⟨1, [0], []⟩, ⟨2, [1], []⟩, ⟨3, [1], []⟩, ⟨4, [], []⟩, ⟨5, [], []⟩, ⟨6, [0], []⟩, ⟨7, [0], []⟩, ⟨8, [1], []⟩, ⟨9, [1], []⟩, ⟨10, [], []⟩, ⟨11, [], []⟩, ⟨12, [], []⟩, ⟨13, [2], [2]⟩]]) (notIn []) rfl rfl (by kernel_rfl) (And.intro h0 (And.intro h1 (And.intro (Eq.refl ([⟨0, [0], []⟩, ⟨1, [], []⟩, ⟨2, [1], []⟩, ⟨3, [], []⟩, ⟨4, [0], [0]⟩, ⟨5, [1], [1]⟩] : List Foot)) (And.intro (decide_eq_false h2) (And.intro (decide_eq_false h3) (And.intro h4 (And.intro h5 (And.intro h6 (And.intro (Eq.refl ([⟨0, [0], []⟩, ⟨1, [0], []⟩, ⟨2, [1], []⟩, ⟨3, [1], []⟩, ⟨4, [], []⟩, ⟨5, [], []⟩, ⟨6, [0], []⟩, ⟨7, [0], []⟩, ⟨8, [1], []⟩, ⟨9, [1], []⟩, ⟨10, [], []⟩, ⟨11, [], []⟩, ⟨12, [], []⟩, ⟨13, [2], [2]⟩] : List Foot)) True.intro)))))))))
/-! ## 24 -/
noncomputable abbrev B24 : Code := (Try.f24.body).getD .skip
inductive R24_0 where
  | e0 (k537 : Nat) (l538 : List (List V))
@[reducible] def s24_0_0 (z529 : Int) (z530 : Int) (z531 : Int) (z532 : Int) (z533 : Int) (b534 : Bool) (b535 : Bool) (l536 : List (List V)) (k537 : Nat) (l538 : List (List V)) : S := { T := U :: i64 z529 :: i64 z530 :: V.ptr 0 0 0 :: U :: U :: V.ptr 1 0 0 :: V.ptr 2 0 0 :: i64 z531 :: un 13 (i64 z532 :: i64 z533 :: vb b534 :: un 55 []), σ := [Ob.cells true false 2 [[vb b535, V.list 2 l536]], Ob.cells true false 2 [[vb false, V.hs 3 0 0]], Ob.cells true false 2 [[vb false, V.hs 4 0 k537]], Ob.cells true true 2 [], Ob.cells true true 2 l538] }
def R24_0.St : R24_0 → VX × S → Prop
  | .e0 k537 l538, p => ∃ z529 : Int, ∃ z530 : Int, ∃ z531 : Int, ∃ z532 : Int, ∃ z533 : Int, ∃ b534 : Bool, ∃ b535 : Bool, ∃ l536 : List (List V), p = (VX.exit 0, s24_0_0 z529 z530 z531 z532 z533 b534 b535 l536 k537 l538)
def L24_0 : Nat → Int → Int → Int → Int → Int → Bool → List (List V) → Nat → List (List V) → Option R24_0
  | 0, _, _, _, _, _, _, _, _, _ => none
  | n + 1, z482, z483, z484, z485, z486, b487, l488, k489, l490 =>
    if z486 < z485 then
     (F55 (b487) (l488) (z486)).bind fun r => match r with
     | .a0 z512 z513 z514 z515 z516 =>
      if z516 > 0 then
       bnd (F56 (z484) (z516)) fun z517 =>
       if z517 > z482 then
        if z484 < z483 then
         if ((↑k489 : Int) == 0) = true then
          (F39 (z512) (z513) (z514) (z515) (w64 (z482 - z484)) (z516)).bind fun r => match r with
          | .a0 z518 z519 =>
           if 0 + k489 ≤ List.length l490 ∧ (k489 + 1) * 16 ≤ 140737488355328 ∧ k489 + 1 ≤ 140737488355328 then
            (F39 (z512) (z513) (z514) (z515) (w64 (z483 - z484)) (z516)).bind fun r => match r with
            | .a0 z520 z521 =>
             if 0 + (k489 + 1) ≤ List.length (List.take k489 l490 ++ [[i64 z518, i64 z519]]) ∧ (k489 + 1 + 1) * 16 ≤ 140737488355328 ∧ k489 + 1 + 1 ≤ 140737488355328 then
              bnd (F56 (z484) (z516)) fun z522 =>
              L24_0 n (z482) (z483) (z522) (z485) (w64 (z486 + 1)) (b487) (l488) (k489 + 1 + 1) (List.take (k489 + 1) (List.take k489 l490 ++ [[i64 z518, i64 z519]]) ++ [[i64 z520, i64 z521]])
             else
              none -- none
           else
            none -- none
         else
          (F39 (z512) (z513) (z514) (z515) (w64 (z483 - z484)) (z516)).bind fun r => match r with
          | .a0 z523 z524 =>
           if 0 + k489 ≤ List.length l490 ∧ (k489 + 1) * 16 ≤ 140737488355328 ∧ k489 + 1 ≤ 140737488355328 then
            bnd (F56 (z484) (z516)) fun z525 =>
            L24_0 n (z482) (z483) (z525) (z485) (w64 (z486 + 1)) (b487) (l488) (k489 + 1) (List.take k489 l490 ++ [[i64 z523, i64 z524]])
           else
            none -- none
        else
         bnd (F56 (z484) (z516)) fun z526 =>
         L24_0 n (z482) (z483) (z526) (z485) (w64 (z486 + 1)) (b487) (l488) (k489) (l490)
       else
        bnd (F56 (z484) (z516)) fun z527 =>
        L24_0 n (z482) (z483) (z527) (z485) (w64 (z486 + 1)) (b487) (l488) (k489) (l490)
      else
       bnd (F56 (z484) (z516)) fun z528 =>
       L24_0 n (z482) (z483) (z528) (z485) (w64 (z486 + 1)) (b487) (l488) (k489) (l490)
    else
     some (R24_0.e0 (k489) (l490))
theorem L24_0_ok (m : Nat) : ∀ (n : Nat) (z482 : Int) (z483 : Int) (z484 : Int) (z485 : Int) (z486 : Int) (b487 : Bool) (l488 : List (List V)) (k489 : Nat) (l490 : List (List V)) (r : R24_0), L24_0 n z482 z483 z484 z485 z486 b487 l488 k489 l490 = some r → ∃ st, loopFrom Try.prog X (genO X (call Try.prog X O0 18446744073709551616 (m + 5))) 24 (0) 18446744073709551616 B24 0 n ({ T := U :: i64 z482 :: i64 z483 :: V.ptr 0 0 0 :: U :: U :: V.ptr 1 0 0 :: V.ptr 2 0 0 :: i64 z484 :: un 13 (i64 z485 :: i64 z486 :: un 56 []), σ := [Ob.cells true false 2 [[vb b487, V.list 2 l488]], Ob.cells true false 2 [[vb false, V.hs 3 0 0]], Ob.cells true false 2 [[vb false, V.hs 4 0 k489]], Ob.cells true true 2 [], Ob.cells true true 2 l490] }) = some st ∧ r.St st
  | 0, _, _, _, _, _, _, _, _, _, r, h => by cases h
  | n + 1, z482, z483, z484, z485, z486, b487, l488, k489, l490, r, h => by
    rw [L24_0] at h
    rcases ite_eq h with ⟨h0, h⟩ | ⟨h0, h⟩
    · skip
      obtain ⟨r1, h1, h⟩ := Option.bind_eq_some_iff.mp h
      have h1 := F55_ok (m + 1) (b487) (l488) (z486) r1 h1
      cases r1 with
      | a0 z512 z513 z514 z515 z516 =>
        rcases ite_eq h with ⟨h2, h⟩ | ⟨h2, h⟩
        · skip
          obtain ⟨z517, h3, h⟩ := bnd_eq h
          rcases ite_eq h with ⟨h4, h⟩ | ⟨h4, h⟩
          · skip
            rcases ite_eq h with ⟨h5, h⟩ | ⟨h5, h⟩
            · skip
              rcases ite_eq h with ⟨h6, h⟩ | ⟨h6, h⟩
              · skip
                obtain ⟨r7, h7, h⟩ := Option.bind_eq_some_iff.mp h
                have h7 := F39_ok (m + 0) (z512) (z513) (z514) (z515) (w64 (z482 - z484)) (z516) r7 h7
                cases r7 with
                | a0 z518 z519 =>
                  rcases ite_eq h with ⟨h8, h⟩ | ⟨h8, h⟩
                  · skip
                    obtain ⟨r9, h9, h⟩ := Option.bind_eq_some_iff.mp h
                    have h9 := F39_ok (m + 0) (z512) (z513) (z514) (z515) (w64 (z483 - z484)) (z516) r9 h9
                    cases r9 with
                    | a0 z520 z521 =>
                      rcases ite_eq h with ⟨h10, h⟩ | ⟨h10, h⟩
                      · skip
                        obtain ⟨z522, h11, h⟩ := bnd_eq h
                        obtain ⟨st, hs, hr⟩ := L24_0_ok m n (z482) (z483) (z522) (z485) (w64 (z486 + 1)) (b487) (l488) (k489 + 1 + 1) (List.take (k489 + 1) (List.take k489 l490 ++ [[i64 z518, i64 z519]]) ++ [[i64 z520, i64 z521]]) r h
                        exact ⟨st, (round_on (gs := [.t, .a, .an (V.tup [V.agg [i64 z512, i64 z513], V.agg [i64 z514, i64 z515], i64 z516]) [], .a, .a, .t, .t, .t, .an (i64 z517) [], .t, .t, .t, .t, .t, .t, .t, .t, .a, .t, .a, .a, .a, .an (V.agg [i64 z518, i64 z519]) [], .a, .t, .a, .ft [⟨0, [2], []⟩, ⟨1, [2], []⟩, ⟨2, [8], []⟩, ⟨3, [9], []⟩, ⟨4, [], []⟩, ⟨5, [], []⟩, ⟨6, [], []⟩, ⟨7, [], []⟩, ⟨8, [], []⟩, ⟨9, [10], [10]⟩, ⟨10, [10, 11, 4], [4, 11]⟩, ⟨11, [2], []⟩, ⟨12, [2], [2]⟩], .a, .a, .a, .an (V.agg [i64 z520, i64 z521]) [], .a, .t, .a, .ft [⟨0, [2], []⟩, ⟨1, [2], []⟩, ⟨2, [8], []⟩, ⟨3, [9], []⟩, ⟨4, [], []⟩, ⟨5, [], []⟩, ⟨6, [], []⟩, ⟨7, [], []⟩, ⟨8, [], []⟩, ⟨9, [12], [12]⟩, ⟨10, [12, 13, 11], [11, 13]⟩, ⟨11, [2], []⟩, ⟨12, [2], [2]⟩], .an (i64 z522) []]) (notIn []) (by kernel_rfl) (And.intro (decide_eq_true h0) (And.intro h1 (And.intro (decide_eq_true h2) (And.intro (decide_eq_true h2) (And.intro (decide_eq_true h2) (And.intro (F56_ok (m + 2) (z484) (z516) z517 h3) (And.intro (decide_eq_true h2) (And.intro (decide_eq_true h2) (And.intro (decide_eq_true h2) (And.intro (decide_eq_true h4) (And.intro (decide_eq_true h4) (And.intro (decide_eq_true h4) (And.intro (decide_eq_true h4) (And.intro (decide_eq_true h5) (And.intro h6 (And.intro h7 (And.intro (decide_eq_true h8) (And.intro (Eq.refl ([⟨0, [2], []⟩, ⟨1, [2], []⟩, ⟨2, [8], []⟩, ⟨3, [9], []⟩, ⟨4, [], []⟩, ⟨5, [], []⟩, ⟨6, [], []⟩, ⟨7, [], []⟩, ⟨8, [], []⟩, ⟨9, [10], [10]⟩, ⟨10, [10, 11, 4], [4, 11]⟩, ⟨11, [2], []⟩, ⟨12, [2], [2]⟩] : List Foot)) (And.intro h9 (And.intro (decide_eq_true h10) (And.intro (Eq.refl ([⟨0, [2], []⟩, ⟨1, [2], []⟩, ⟨2, [8], []⟩, ⟨3, [9], []⟩, ⟨4, [], []⟩, ⟨5, [], []⟩, ⟨6, [], []⟩, ⟨7, [], []⟩, ⟨8, [], []⟩, ⟨9, [12], [12]⟩, ⟨10, [12, 13, 11], [11, 13]⟩, ⟨11, [2], []⟩, ⟨12, [2], [2]⟩] : List Foot)) (And.intro (F56_ok (m + 2) (z484) (z516) z522 h11) True.intro)))))))))))))))))))))) n).trans hs, hr⟩
                      · skip
                        cases h
                  · skip
                    cases h
              · skip
                obtain ⟨r7, h7, h⟩ := Option.bind_eq_some_iff.mp h
                have h7 := F39_ok (m + 0) (z512) (z513) (z514) (z515) (w64 (z483 - z484)) (z516) r7 h7
                cases r7 with
                | a0 z523 z524 =>
                  rcases ite_eq h with ⟨h8, h⟩ | ⟨h8, h⟩
                  · skip
                    obtain ⟨z525, h9, h⟩ := bnd_eq h
                    obtain ⟨st, hs, hr⟩ := L24_0_ok m n (z482) (z483) (z525) (z485) (w64 (z486 + 1)) (b487) (l488) (k489 + 1) (List.take k489 l490 ++ [[i64 z523, i64 z524]]) r h
                    exact ⟨st, (round_on (gs := [.t, .a, .an (V.tup [V.agg [i64 z512, i64 z513], V.agg [i64 z514, i64 z515], i64 z516]) [], .a, .a, .t, .t, .t, .an (i64 z517) [], .t, .t, .t, .t, .t, .t, .t, .t, .a, .f, .a, .a, .a, .an (V.agg [i64 z523, i64 z524]) [], .a, .t, .a, .ft [⟨0, [2], []⟩, ⟨1, [2], []⟩, ⟨2, [8], []⟩, ⟨3, [9], []⟩, ⟨4, [], []⟩, ⟨5, [], []⟩, ⟨6, [], []⟩, ⟨7, [], []⟩, ⟨8, [], []⟩, ⟨9, [10], [10]⟩, ⟨10, [10, 11, 4], [4, 11]⟩, ⟨11, [2], []⟩, ⟨12, [2], [2]⟩], .an (i64 z525) []]) (notIn []) (by kernel_rfl) (And.intro (decide_eq_true h0) (And.intro h1 (And.intro (decide_eq_true h2) (And.intro (decide_eq_true h2) (And.intro (decide_eq_true h2) (And.intro (F56_ok (m + 2) (z484) (z516) z517 h3) (And.intro (decide_eq_true h2) (And.intro (decide_eq_true h2) (And.intro (decide_eq_true h2) (And.intro (decide_eq_true h4) (And.intro (decide_eq_true h4) (And.intro (decide_eq_true h4) (And.intro (decide_eq_true h4) (And.intro (decide_eq_true h5) (And.intro (Bool.eq_false_iff.mpr h6) (And.intro h7 (And.intro (decide_eq_true h8) (And.intro (Eq.refl ([⟨0, [2], []⟩, ⟨1, [2], []⟩, ⟨2, [8], []⟩, ⟨3, [9], []⟩, ⟨4, [], []⟩, ⟨5, [], []⟩, ⟨6, [], []⟩, ⟨7, [], []⟩, ⟨8, [], []⟩, ⟨9, [10], [10]⟩, ⟨10, [10, 11, 4], [4, 11]⟩, ⟨11, [2], []⟩, ⟨12, [2], [2]⟩] : List Foot)) (And.intro (F56_ok (m + 2) (z484) (z516) z525 h9) True.intro))))))))))))))))))) n).trans hs, hr⟩
                  · skip
                    cases h
            · skip
              obtain ⟨z526, h6, h⟩ := bnd_eq h
              obtain ⟨st, hs, hr⟩ := L24_0_ok m n (z482) (z483) (z526) (z485) (w64 (z486 + 1)) (b487) (l488) (k489) (l490) r h
              exact ⟨st, (round_on (gs := [.t, .a, .an (V.tup [V.agg [i64 z512, i64 z513], V.agg [i64 z514, i64 z515], i64 z516]) [], .a, .a, .t, .t, .t, .an (i64 z517) [], .t, .t, .t, .t, .t, .t, .t, .f, .an (i64 z526) []]) (notIn []) (by kernel_rfl) (And.intro (decide_eq_true h0) (And.intro h1 (And.intro (decide_eq_true h2) (And.intro (decide_eq_true h2) (And.intro (decide_eq_true h2) (And.intro (F56_ok (m + 2) (z484) (z516) z517 h3) (And.intro (decide_eq_true h2) (And.intro (decide_eq_true h2) (And.intro (decide_eq_true h2) (And.intro (decide_eq_true h4) (And.intro (decide_eq_true h4) (And.intro (decide_eq_true h4) (And.intro (decide_eq_true h4) (And.intro (decide_eq_false h5) (And.intro (F56_ok (m + 2) (z484) (z516) z526 h6) True.intro))))))))))))))) n).trans hs, hr⟩
          · skip
            obtain ⟨z527, h5, h⟩ := bnd_eq h
            obtain ⟨st, hs, hr⟩ := L24_0_ok m n (z482) (z483) (z527) (z485) (w64 (z486 + 1)) (b487) (l488) (k489) (l490) r h
            exact ⟨st, (round_on (gs := [.t, .a, .an (V.tup [V.agg [i64 z512, i64 z513], V.agg [i64 z514, i64 z515], i64 z516]) [], .a, .a, .t, .t, .t, .an (i64 z517) [], .t, .t, .t, .f, .f, .f, .f, .a, .an (i64 z527) []]) (notIn []) (by kernel_rfl) (And.intro (decide_eq_true h0) (And.intro h1 (And.intro (decide_eq_true h2) (And.intro (decide_eq_true h2) (And.intro (decide_eq_true h2) (And.intro (F56_ok (m + 2) (z484) (z516) z517 h3) (And.intro (decide_eq_true h2) (And.intro (decide_eq_true h2) (And.intro (decide_eq_true h2) (And.intro (decide_eq_false h4) (And.intro (decide_eq_false h4) (And.intro (decide_eq_false h4) (And.intro (decide_eq_false h4) (And.intro (F56_ok (m + 2) (z484) (z516) z527 h5) True.intro)))))))))))))) n).trans hs, hr⟩
        · skip
          obtain ⟨z528, h3, h⟩ := bnd_eq h
          obtain ⟨st, hs, hr⟩ := L24_0_ok m n (z482) (z483) (z528) (z485) (w64 (z486 + 1)) (b487) (l488) (k489) (l490) r h
          exact ⟨st, (round_on (gs := [.t, .a, .an (V.tup [V.agg [i64 z512, i64 z513], V.agg [i64 z514, i64 z515], i64 z516]) [], .a, .a, .f, .f, .f, .f, .f, .f, .a, .a, .a, .a, .a, .an (i64 z528) []]) (notIn []) (by kernel_rfl) (And.intro (decide_eq_true h0) (And.intro h1 (And.intro (decide_eq_false h2) (And.intro (decide_eq_false h2) (And.intro (decide_eq_false h2) (And.intro (decide_eq_false h2) (And.intro (decide_eq_false h2) (And.intro (decide_eq_false h2) (And.intro (F56_ok (m + 2) (z484) (z516) z528 h3) True.intro))))))))) n).trans hs, hr⟩
    · skip
      cases h
      exact ⟨_, round_out (gs := [.f]) (notIn []) (by kernel_rfl) rfl (And.intro (decide_eq_false h0) True.intro) n, z482, z483, z484, z485, z486, decide (z486 < z485), b487, l488, rfl⟩
inductive A24 where
  | a0 (b508 : Bool) (k509 : Nat) (l510 : List (List V))
@[reducible] def A24.out : A24 → V × Store
  | .a0 b508 k509 l510 => (V.agg [vb b508, V.hs 0 0 k509], [Ob.cells true true 2 l510])
def F24 (b421 : Bool) (l422 : List (List V)) (z423 : Int) (z424 : Int) : Option A24 :=
  bnd (F57 (z423)) fun z506 =>
  bnd (F57 (z424)) fun z507 =>
  if z506 ≥ z507 then
   some (A24.a0 (false) (0) ([]))
  else
   bnd (F26 (b421) (l422)) fun z511 =>
   (L24_0 18446744073709551616 (z506) (z507) (0) (z511) (0) (b421) (l422) (0) ([])).bind fun r => match r with
   | .e0 k547 l548 =>
    some (A24.a0 (false) (k547) (l548))
theorem F24_ok (m : Nat) (b421 : Bool) (l422 : List (List V)) (z423 : Int) (z424 : Int) (r : A24) (h : F24 b421 l422 z423 z424 = some r) : call Try.prog X O0 18446744073709551616 (m + 6) 24 ([V.agg [vb b421, V.list 2 l422], i64 z423, i64 z424]) ([]) = some r.out := by
  unfold F24 at h
  obtain ⟨z506, h0, h⟩ := bnd_eq h
  obtain ⟨z507, h1, h⟩ := bnd_eq h
  rcases ite_eq h with ⟨h2, h⟩ | ⟨h2, h⟩
  · skip
    cases h
    exact call_pathL (gs := [.an (i64 z506) [], .an (i64 z507) [], .t, .a, .a]) (notIn []) rfl rfl (by kernel_rfl) (And.intro (F57_ok (m + 3) (z423) z506 h0) (And.intro (F57_ok (m + 3) (z424) z507 h1) (And.intro (decide_eq_true h2) True.intro)))
  · skip
    obtain ⟨z511, h3, h⟩ := bnd_eq h
    obtain ⟨r4, h4, h⟩ := Option.bind_eq_some_iff.mp h
    obtain ⟨st4, h4, hr4⟩ := L24_0_ok m 18446744073709551616 (z506) (z507) (0) (z511) (0) (b421) (l422) (0) ([]) r4 h4
    have h4 : loopRun Try.prog X (genO X (call Try.prog X O0 18446744073709551616 (m + 5))) 24 (0) 18446744073709551616 B24 0 ({ T := V.agg [vb b421, V.list 2 l422] :: i64 z506 :: i64 z507 :: V.ptr 0 0 0 :: U :: U :: V.ptr 1 0 0 :: V.ptr 2 0 0 :: i64 0 :: un 4 (i64 z423 :: i64 z506 :: i64 z424 :: i64 z507 :: i64 z506 :: i64 z507 :: vb (decide (z506 ≥ z507)) :: U :: V.agg [vb b421, V.list 2 l422] :: i64 z511 :: i64 0 :: un 56 []), σ := [Ob.cells true false 2 [[vb b421, V.list 2 l422]], Ob.cells true false 2 [[vb false, V.nilS]], Ob.cells true false 2 [[vb false, V.nilS]]] }) = some st4 := by
      rw [loopRun_from, show pre X 24 (0) 0 ({ T := V.agg [vb b421, V.list 2 l422] :: i64 z506 :: i64 z507 :: V.ptr 0 0 0 :: U :: U :: V.ptr 1 0 0 :: V.ptr 2 0 0 :: i64 0 :: un 4 (i64 z423 :: i64 z506 :: i64 z424 :: i64 z507 :: i64 z506 :: i64 z507 :: vb (decide (z506 ≥ z507)) :: U :: V.agg [vb b421, V.list 2 l422] :: i64 z511 :: i64 0 :: un 56 []), σ := [Ob.cells true false 2 [[vb b421, V.list 2 l422]], Ob.cells true false 2 [[vb false, V.nilS]], Ob.cells true false 2 [[vb false, V.nilS]]] }) = { T := U :: i64 z506 :: i64 z507 :: V.ptr 0 0 0 :: U :: U :: V.ptr 1 0 0 :: V.ptr 2 0 0 :: i64 0 :: un 13 (i64 z511 :: i64 0 :: un 56 []), σ := [Ob.cells true false 2 [[vb b421, V.list 2 l422]], Ob.cells true false 2 [[vb false, V.hs 3 0 0]], Ob.cells true false 2 [[vb false, V.hs 4 0 0]], Ob.cells true true 2 [], Ob.cells true true 2 []] } by kernel_rfl]
      exact h4
    cases r4 with
    | e0 k547 l548 =>
      obtain ⟨z539, z540, z541, z542, z543, b544, b545, l546, rfl⟩ := hr4
      cases h
      exact call_pathL (gs := [.an (i64 z506) [], .an (i64 z507) [], .f, .a, .an (i64 z511) [], .lp (VX.exit 0) (s24_0_0 z539 z540 z541 z542 z543 b544 b545 l546 k547 l548), .a, .a]) (notIn []) rfl rfl (by kernel_rfl) (And.intro (F57_ok (m + 3) (z423) z506 h0) (And.intro (F57_ok (m + 3) (z424) z507 h1) (And.intro (decide_eq_false h2) (And.intro (F26_ok (m + 4) (b421) (l422) z511 h3) (And.intro h4 True.intro)))))
/-! ## 31 -/
noncomputable abbrev B31 : Code := (Try.f31.body).getD .skip
inductive R31_0 where
  | e0 (k588 : Nat) (l593 : List (List V))
@[reducible] def s31_0_0 (z586 : Int) (z587 : Int) (k588 : Nat) (l589 : List (List V)) (z590 : Int) (z591 : Int) (b592 : Bool) (l593 : List (List V)) : S := { T := U :: i64 z586 :: i64 z587 :: un 4 (V.hs 0 0 k588 :: un 10 (V.list 2 l589 :: i64 z590 :: i64 z591 :: vb b592 :: un 37 [])), σ := [Ob.cells true true 2 l593] }
def R31_0.St : R31_0 → VX × S → Prop
  | .e0 k588 l593, p => ∃ z586 : Int, ∃ z587 : Int, ∃ l589 : List (List V), ∃ z590 : Int, ∃ z591 : Int, ∃ b592 : Bool, p = (VX.exit 0, s31_0_0 z586 z587 k588 l589 z590 z591 b592 l593)
def L31_0 : Nat → Int → Int → Nat → List (List V) → Int → Int → List (List V) → Option R31_0
  | 0, _, _, _, _, _, _, _ => none
  | n + 1, z268, z269, k270, l271, z272, z273, l274 =>
    if z273 < z272 then
     if 0 ≤ z273 then
      ((l271[Int.toNat z273]?).bind W39.dec).bind fun e572 =>
      if (z268 == 0) = true then
       if (z269 == 65536) = true then
        (F47 (e572.2)).bind fun r => match r with
        | .a0 l573 =>
         if 0 + List.length l573 ≤ List.length l573 then
          if 0 + k270 ≤ List.length l274 ∧ (k270 + 1) * 32 ≤ 140737488355328 ∧ k270 + 1 ≤ 140737488355328 then
           L31_0 n (z268) (z269) (k270 + 1) (l271) (z272) (w64 (z273 + 1)) (List.take k270 l274 ++ [[vb e572.c0, V.list 2 (List.take (List.length l573) l573)]])
          else
           none -- none
         else
          none -- none
       else
        (F23 (e572.c0) (e572.2)).bind fun r => match r with
        | .a0 z574 =>
         (F63 (z574) (z268)).bind fun r => match r with
         | .a0 z575 =>
          (F63 (z574) (z269)).bind fun r => match r with
          | .a0 z576 =>
           (F24 (e572.c0) (e572.2) (z575) (z576)).bind fun r => match r with
           | .a0 b577 k578 l579 =>
            if (↑k578 : Int) ≥ 2 then
             if 0 + k578 ≤ List.length l579 then
              if 0 + k270 ≤ List.length l274 ∧ (k270 + 1) * 32 ≤ 140737488355328 ∧ k270 + 1 ≤ 140737488355328 then
               L31_0 n (z268) (z269) (k270 + 1) (l271) (z272) (w64 (z273 + 1)) (List.take k270 l274 ++ [[vb b577, V.list 2 (List.take k578 l579)]])
              else
               none -- none
             else
              none -- none
            else
             L31_0 n (z268) (z269) (k270) (l271) (z272) (w64 (z273 + 1)) (l274)
      else
       (F23 (e572.c0) (e572.2)).bind fun r => match r with
       | .a0 z580 =>
        (F63 (z580) (z268)).bind fun r => match r with
        | .a0 z581 =>
         (F63 (z580) (z269)).bind fun r => match r with
         | .a0 z582 =>
          (F24 (e572.c0) (e572.2) (z581) (z582)).bind fun r => match r with
          | .a0 b583 k584 l585 =>
           if (↑k584 : Int) ≥ 2 then
            if 0 + k584 ≤ List.length l585 then
             if 0 + k270 ≤ List.length l274 ∧ (k270 + 1) * 32 ≤ 140737488355328 ∧ k270 + 1 ≤ 140737488355328 then
              L31_0 n (z268) (z269) (k270 + 1) (l271) (z272) (w64 (z273 + 1)) (List.take k270 l274 ++ [[vb b583, V.list 2 (List.take k584 l585)]])
             else
              none -- none
            else
             none -- none
           else
            L31_0 n (z268) (z269) (k270) (l271) (z272) (w64 (z273 + 1)) (l274)
     else
      none -- none
    else
     some (R31_0.e0 (k270) (l274))
theorem L31_0_ok (m : Nat) : ∀ (n : Nat) (z268 : Int) (z269 : Int) (k270 : Nat) (l271 : List (List V)) (z272 : Int) (z273 : Int) (l274 : List (List V)) (r : R31_0), L31_0 n z268 z269 k270 l271 z272 z273 l274 = some r → ∃ st, loopFrom Try.prog X (genO X (call Try.prog X O0 18446744073709551616 (m + 6))) 31 (0) 18446744073709551616 B31 0 n ({ T := U :: i64 z268 :: i64 z269 :: un 4 (V.hs 0 0 k270 :: un 10 (V.list 2 l271 :: i64 z272 :: i64 z273 :: un 38 [])), σ := [Ob.cells true true 2 l274] }) = some st ∧ r.St st
  | 0, _, _, _, _, _, _, _, r, h => by cases h
  | n + 1, z268, z269, k270, l271, z272, z273, l274, r, h => by
    rw [L31_0] at h
    rcases ite_eq h with ⟨h0, h⟩ | ⟨h0, h⟩
    · skip
      rcases ite_eq h with ⟨h1, h⟩ | ⟨h1, h⟩
      · skip
        obtain ⟨e572, h2, h⟩ := Option.bind_eq_some_iff.mp h
        rcases ite_eq h with ⟨h3, h⟩ | ⟨h3, h⟩
        · skip
          rcases ite_eq h with ⟨h4, h⟩ | ⟨h4, h⟩
          · skip
            obtain ⟨r5, h5, h⟩ := Option.bind_eq_some_iff.mp h
            have h5 := F47_ok (m + 5) (e572.2) r5 h5
            cases r5 with
            | a0 l573 =>
              rcases ite_eq h with ⟨h6, h⟩ | ⟨h6, h⟩
              · skip
                rcases ite_eq h with ⟨h7, h⟩ | ⟨h7, h⟩
                · skip
                  obtain ⟨st, hs, hr⟩ := L31_0_ok m n (z268) (z269) (k270 + 1) (l271) (z272) (w64 (z273 + 1)) (List.take k270 l274 ++ [[vb e572.c0, V.list 2 (List.take (List.length l573) l573)]]) r h
                  exact ⟨st, (round_on (gs := [.t, .t, .el (W39.cells e572), .a, .t, .t, .t, .t, .a, .a, .an (V.hs 0 0 (List.length l573)) [Ob.cells true true 2 l573], .t, .a, .t, .ft [⟨0, [], []⟩, ⟨1, [1], []⟩, ⟨2, [1], []⟩, ⟨3, [1], []⟩, ⟨4, [1], []⟩, ⟨5, [2], [2]⟩, ⟨6, [], []⟩, ⟨7, [2, 3], [2, 3]⟩, ⟨8, [3, 4, 0], [0, 4]⟩, ⟨9, [], []⟩]]) (notIn []) (by kernel_rfl) (And.intro (decide_eq_true h0) (And.intro (decide_eq_true h1) (And.intro (W39.dec_ok h2) (And.intro h3 (And.intro h3 (And.intro h3 (And.intro h4 (And.intro h5 (And.intro (decide_eq_true h6) (And.intro (decide_eq_true h7) (And.intro (Eq.refl ([⟨0, [], []⟩, ⟨1, [1], []⟩, ⟨2, [1], []⟩, ⟨3, [1], []⟩, ⟨4, [1], []⟩, ⟨5, [2], [2]⟩, ⟨6, [], []⟩, ⟨7, [2, 3], [2, 3]⟩, ⟨8, [3, 4, 0], [0, 4]⟩, ⟨9, [], []⟩] : List Foot)) True.intro))))))))))) n).trans hs, hr⟩
                · skip
                  cases h
              · skip
                cases h
          · skip
            obtain ⟨r5, h5, h⟩ := Option.bind_eq_some_iff.mp h
            have h5 := F23_ok (m + 1) (e572.c0) (e572.2) r5 h5
            cases r5 with
            | a0 z574 =>
              obtain ⟨r6, h6, h⟩ := Option.bind_eq_some_iff.mp h
              have h6 := F63_ok (m + 3) (z574) (z268) r6 h6
              cases r6 with
              | a0 z575 =>
                obtain ⟨r7, h7, h⟩ := Option.bind_eq_some_iff.mp h
                have h7 := F63_ok (m + 3) (z574) (z269) r7 h7
                cases r7 with
                | a0 z576 =>
                  obtain ⟨r8, h8, h⟩ := Option.bind_eq_some_iff.mp h
                  have h8 := F24_ok (m + 0) (e572.c0) (e572.2) (z575) (z576) r8 h8
                  cases r8 with
                  | a0 b577 k578 l579 =>
                    rcases ite_eq h with ⟨h9, h⟩ | ⟨h9, h⟩
                    · skip
                      rcases ite_eq h with ⟨h10, h⟩ | ⟨h10, h⟩
                      · skip
                        rcases ite_eq h with ⟨h11, h⟩ | ⟨h11, h⟩
                        · skip
                          obtain ⟨st, hs, hr⟩ := L31_0_ok m n (z268) (z269) (k270 + 1) (l271) (z272) (w64 (z273 + 1)) (List.take k270 l274 ++ [[vb b577, V.list 2 (List.take k578 l579)]]) r h
                          exact ⟨st, (round_on (gs := [.t, .t, .el (W39.cells e572), .a, .t, .t, .t, .f, .a, .an (i64 z574) [], .a, .an (i64 z575) [], .an (i64 z576) [], .an (V.agg [vb b577, V.hs 0 0 k578]) [Ob.cells true true 2 l579], .a, .ft [⟨0, [1], []⟩, ⟨1, [], []⟩, ⟨2, [], []⟩, ⟨3, [], []⟩, ⟨4, [], []⟩, ⟨5, [], []⟩, ⟨6, [], []⟩, ⟨7, [2], [2]⟩, ⟨8, [3], [3]⟩, ⟨9, [3], [3]⟩], .a, .t, .a, .t, .a, .t]) (notIn []) (by kernel_rfl) (And.intro (decide_eq_true h0) (And.intro (decide_eq_true h1) (And.intro (W39.dec_ok h2) (And.intro h3 (And.intro h3 (And.intro h3 (And.intro (Bool.eq_false_iff.mpr h4) (And.intro h5 (And.intro h6 (And.intro h7 (And.intro h8 (And.intro (Eq.refl ([⟨0, [1], []⟩, ⟨1, [], []⟩, ⟨2, [], []⟩, ⟨3, [], []⟩, ⟨4, [], []⟩, ⟨5, [], []⟩, ⟨6, [], []⟩, ⟨7, [2], [2]⟩, ⟨8, [3], [3]⟩, ⟨9, [3], [3]⟩] : List Foot)) (And.intro (decide_eq_true h9) (And.intro (decide_eq_true h10) (And.intro (decide_eq_true h11) True.intro))))))))))))))) n).trans hs, hr⟩
                        · skip
                          cases h
                      · skip
                        cases h
                    · skip
                      obtain ⟨st, hs, hr⟩ := L31_0_ok m n (z268) (z269) (k270) (l271) (z272) (w64 (z273 + 1)) (l274) r h
                      exact ⟨st, (round_on (gs := [.t, .t, .el (W39.cells e572), .a, .t, .t, .t, .f, .a, .an (i64 z574) [], .a, .an (i64 z575) [], .an (i64 z576) [], .an (V.agg [vb b577, V.hs 0 0 k578]) [Ob.cells true true 2 l579], .a, .ft [⟨0, [1], []⟩, ⟨1, [], []⟩, ⟨2, [], []⟩, ⟨3, [], []⟩, ⟨4, [], []⟩, ⟨5, [], []⟩, ⟨6, [], []⟩, ⟨7, [2], [2]⟩, ⟨8, [3], [3]⟩, ⟨9, [3], [3]⟩], .a, .f]) (notIn []) (by kernel_rfl) (And.intro (decide_eq_true h0) (And.intro (decide_eq_true h1) (And.intro (W39.dec_ok h2) (And.intro h3 (And.intro h3 (And.intro h3 (And.intro (Bool.eq_false_iff.mpr h4) (And.intro h5 (And.intro h6 (And.intro h7 (And.intro h8 (And.intro (Eq.refl ([⟨0, [1], []⟩, ⟨1, [], []⟩, ⟨2, [], []⟩, ⟨3, [], []⟩, ⟨4, [], []⟩, ⟨5, [], []⟩, ⟨6, [], []⟩, ⟨7, [2], [2]⟩, ⟨8, [3], [3]⟩, ⟨9, [3], [3]⟩] : List Foot)) (And.intro (decide_eq_false h9) True.intro))))))))))))) n).trans hs, hr⟩
        · skip
          obtain ⟨r4, h4, h⟩ := Option.bind_eq_some_iff.mp h
          have h4 := F23_ok (m + 1) (e572.c0) (e572.2) r4 h4
          cases r4 with
          | a0 z580 =>
            obtain ⟨r5, h5, h⟩ := Option.bind_eq_some_iff.mp h
            have h5 := F63_ok (m + 3) (z580) (z268) r5 h5
            cases r5 with
            | a0 z581 =>
              obtain ⟨r6, h6, h⟩ := Option.bind_eq_some_iff.mp h
              have h6 := F63_ok (m + 3) (z580) (z269) r6 h6
              cases r6 with
              | a0 z582 =>
                obtain ⟨r7, h7, h⟩ := Option.bind_eq_some_iff.mp h
                have h7 := F24_ok (m + 0) (e572.c0) (e572.2) (z581) (z582) r7 h7
                cases r7 with
                | a0 b583 k584 l585 =>
                  rcases ite_eq h with ⟨h8, h⟩ | ⟨h8, h⟩
                  · skip
                    rcases ite_eq h with ⟨h9, h⟩ | ⟨h9, h⟩
                    · skip
                      rcases ite_eq h with ⟨h10, h⟩ | ⟨h10, h⟩
                      · skip
                        obtain ⟨st, hs, hr⟩ := L31_0_ok m n (z268) (z269) (k270 + 1) (l271) (z272) (w64 (z273 + 1)) (List.take k270 l274 ++ [[vb b583, V.list 2 (List.take k584 l585)]]) r h
                        exact ⟨st, (round_on (gs := [.t, .t, .el (W39.cells e572), .a, .f, .f, .f, .a, .a, .an (i64 z580) [], .a, .an (i64 z581) [], .an (i64 z582) [], .an (V.agg [vb b583, V.hs 0 0 k584]) [Ob.cells true true 2 l585], .a, .ft [⟨0, [1], []⟩, ⟨1, [], []⟩, ⟨2, [], []⟩, ⟨3, [], []⟩, ⟨4, [], []⟩, ⟨5, [], []⟩, ⟨6, [], []⟩, ⟨7, [2], [2]⟩, ⟨8, [3], [3]⟩, ⟨9, [3], [3]⟩], .a, .t, .a, .t, .a, .t]) (notIn []) (by kernel_rfl) (And.intro (decide_eq_true h0) (And.intro (decide_eq_true h1) (And.intro (W39.dec_ok h2) (And.intro (Bool.eq_false_iff.mpr h3) (And.intro (Bool.eq_false_iff.mpr h3) (And.intro (Bool.eq_false_iff.mpr h3) (And.intro h4 (And.intro h5 (And.intro h6 (And.intro h7 (And.intro (Eq.refl ([⟨0, [1], []⟩, ⟨1, [], []⟩, ⟨2, [], []⟩, ⟨3, [], []⟩, ⟨4, [], []⟩, ⟨5, [], []⟩, ⟨6, [], []⟩, ⟨7, [2], [2]⟩, ⟨8, [3], [3]⟩, ⟨9, [3], [3]⟩] : List Foot)) (And.intro (decide_eq_true h8) (And.intro (decide_eq_true h9) (And.intro (decide_eq_true h10) True.intro)))))))))))))) n).trans hs, hr⟩
                      · skip
                        cases h
                    · skip
                      cases h
                  · skip
                    obtain ⟨st, hs, hr⟩ := L31_0_ok m n (z268) (z269) (k270) (l271) (z272) (w64 (z273 + 1)) (l274) r h
                    exact ⟨st, (round_on (gs := [.t, .t, .el (W39.cells e572), .a, .f, .f, .f, .a, .a, .an (i64 z580) [], .a, .an (i64 z581) [], .an (i64 z582) [], .an (V.agg [vb b583, V.hs 0 0 k584]) [Ob.cells true true 2 l585], .a, .ft [⟨0, [1], []⟩, ⟨1, [], []⟩, ⟨2, [], []⟩, ⟨3, [], []⟩, ⟨4, [], []⟩, ⟨5, [], []⟩, ⟨6, [], []⟩, ⟨7, [2], [2]⟩, ⟨8, [3], [3]⟩, ⟨9, [3], [3]⟩], .a, .f]) (notIn []) (by kernel_rfl) (And.intro (decide_eq_true h0) (And.intro (decide_eq_true h1) (And.intro (W39.dec_ok h2) (And.intro (Bool.eq_false_iff.mpr h3) (And.intro (Bool.eq_false_iff.mpr h3) (And.intro (Bool.eq_false_iff.mpr h3) (And.intro h4 (And.intro h5 (And.intro h6 (And.intro h7 (And.intro (Eq.refl ([⟨0, [1], []⟩, ⟨1, [], []⟩, ⟨2, [], []⟩, ⟨3, [], []⟩, ⟨4, [], []⟩, ⟨5, [], []⟩, ⟨6, [], []⟩, ⟨7, [2], [2]⟩, ⟨8, [3], [3]⟩, ⟨9, [3], [3]⟩] : List Foot)) (And.intro (decide_eq_false h8) True.intro)))))))))))) n).trans hs, hr⟩
      · skip
        cases h
    · skip
      cases h
      exact ⟨_, round_out (gs := [.f]) (notIn []) (by kernel_rfl) rfl (And.intro (decide_eq_false h0) True.intro) n, z268, z269, l271, z272, z273, decide (z273 < z272), rfl⟩
inductive A31 where
  | a0 (k602 : Nat) (l603 : List (List V))
@[reducible] def A31.out : A31 → V × Store
  | .a0 k602 l603 => (V.hs 0 0 k602, [Ob.cells true true 2 l603])
def F31 (l242 : List (List V)) (z243 : Int) (z244 : Int) : Option A31 :=
  (F62 (z243) (z244)).bind fun r => match r with
  | .a0 z570 z571 =>
   (L31_0 18446744073709551616 (z570) (z571) (0) (l242) ((↑(List.length l242) : Int)) (0) ([])).bind fun r => match r with
   | .e0 k596 l601 =>
    some (A31.a0 (k596) (l601))
theorem F31_ok (m : Nat) (l242 : List (List V)) (z243 : Int) (z244 : Int) (r : A31) (h : F31 l242 z243 z244 = some r) : call Try.prog X O0 18446744073709551616 (m + 7) 31 ([V.list 2 l242, i64 z243, i64 z244]) ([]) = some r.out := by
  unfold F31 at h
  obtain ⟨r0, h0, h⟩ := Option.bind_eq_some_iff.mp h
  have h0 := F62_ok (m + 4) (z243) (z244) r0 h0
  cases r0 with
  | a0 z570 z571 =>
    obtain ⟨r1, h1, h⟩ := Option.bind_eq_some_iff.mp h
    obtain ⟨st1, h1, hr1⟩ := L31_0_ok m 18446744073709551616 (z570) (z571) (0) (l242) ((↑(List.length l242) : Int)) (0) ([]) r1 h1
    have h1 : loopRun Try.prog X (genO X (call Try.prog X O0 18446744073709551616 (m + 6))) 31 (0) 18446744073709551616 B31 0 ({ T := V.list 2 l242 :: i64 z570 :: i64 z571 :: U :: U :: U :: V.nilS :: V.nilS :: un 4 (V.tup [i64 z570, i64 z571] :: i64 z243 :: i64 z244 :: V.tup [i64 z570, i64 z571] :: i64 z570 :: i64 z571 :: V.list 2 l242 :: i64 (↑(List.length l242) : Int) :: i64 0 :: un 38 []), σ := [Ob.vir, Ob.vir, Ob.vir] }) = some st1 := by
      rw [loopRun_from, show pre X 31 (0) 0 ({ T := V.list 2 l242 :: i64 z570 :: i64 z571 :: U :: U :: U :: V.nilS :: V.nilS :: un 4 (V.tup [i64 z570, i64 z571] :: i64 z243 :: i64 z244 :: V.tup [i64 z570, i64 z571] :: i64 z570 :: i64 z571 :: V.list 2 l242 :: i64 (↑(List.length l242) : Int) :: i64 0 :: un 38 []), σ := [Ob.vir, Ob.vir, Ob.vir] }) = { T := U :: i64 z570 :: i64 z571 :: un 4 (V.hs 0 0 0 :: un 10 (V.list 2 l242 :: i64 (↑(List.length l242) : Int) :: i64 0 :: un 38 [])), σ := [Ob.cells true true 2 []] } by kernel_rfl]
      exact h1
    cases r1 with
    | e0 k596 l601 =>
      obtain ⟨z594, z595, l597, z598, z599, b600, rfl⟩ := hr1
      cases h
      exact call_pathL (gs := [.an (V.tup [i64 z570, i64 z571]) [], .lp (VX.exit 0) (s31_0_0 z594 z595 k596 l597 z598 z599 b600 l601)]) (notIn []) rfl rfl (by kernel_rfl) (And.intro h0 (And.intro h1 True.intro))
/-! ## 27 -/
noncomputable abbrev B27 : Code := (Try.f27.body).getD .skip
inductive R27_0 where
  | e0
  | e1
@[reducible] def s27_0_0 (l667 : List (List V)) (l668 : List (List V)) (z669 : Int) (z670 : Int) (b671 : Bool) (z672 : Int) (z673 : Int) (z674 : Int) (z675 : Int) (b676 : Bool) : S := { T := V.list 2 l667 :: V.list 2 l668 :: U :: U :: vb false :: i64 z669 :: un 5 [i64 z669, V.list 2 l667, i64 z670, vb b671, U, U, V.list 2 l667, i64 z669, V.pp [i64 z672, i64 z673], V.agg [i64 z672, i64 z673], V.list 2 l668, i64 z669, V.pp [i64 z674, i64 z675], V.agg [i64 z674, i64 z675], vb b676], σ := [] }
@[reducible] def s27_0_1 (l677 : List (List V)) (l678 : List (List V)) (z679 : Int) (z680 : Int) (b681 : Bool) : S := { T := V.list 2 l677 :: V.list 2 l678 :: U :: U :: U :: i64 z679 :: un 5 (i64 z679 :: V.list 2 l677 :: i64 z680 :: vb b681 :: un 11 []), σ := [] }
def R27_0.St : R27_0 → VX × S → Prop
  | .e0, p => ∃ l667 : List (List V), ∃ l668 : List (List V), ∃ z669 : Int, ∃ z670 : Int, ∃ b671 : Bool, ∃ z672 : Int, ∃ z673 : Int, ∃ z674 : Int, ∃ z675 : Int, ∃ b676 : Bool, p = (VX.ret, s27_0_0 l667 l668 z669 z670 b671 z672 z673 z674 z675 b676)
  | .e1, p => ∃ l677 : List (List V), ∃ l678 : List (List V), ∃ z679 : Int, ∃ z680 : Int, ∃ b681 : Bool, p = (VX.exit 0, s27_0_1 l677 l678 z679 z680 b681)
def L27_0 : Nat → List (List V) → List (List V) → Int → Option R27_0
  | 0, _, _, _ => none
  | n + 1, l644, l645, z646 =>
    if z646 < (↑(List.length l644) : Int) then
     if 0 ≤ z646 then
      ((l644[Int.toNat z646]?).bind W34.dec).bind fun e665 =>
      ((l645[Int.toNat z646]?).bind W34.dec).bind fun e666 =>
      if (!(e665.c0 == e666.c0 && (e665.c1 == e666.c1 && true))) = true then
       some (R27_0.e0)
      else
       L27_0 n (l644) (l645) (w64 (z646 + 1))
     else
      none -- none
    else
     some (R27_0.e1)
theorem L27_0_ok (m : Nat) : ∀ (n : Nat) (l644 : List (List V)) (l645 : List (List V)) (z646 : Int) (r : R27_0), L27_0 n l644 l645 z646 = some r → ∃ st, loopFrom Try.prog X (genO X (call Try.prog X O0 18446744073709551616 (m + 0))) 27 (0) 18446744073709551616 B27 0 n ({ T := V.list 2 l644 :: V.list 2 l645 :: U :: U :: U :: i64 z646 :: un 20 [], σ := [] }) = some st ∧ r.St st
  | 0, _, _, _, r, h => by cases h
  | n + 1, l644, l645, z646, r, h => by
    rw [L27_0] at h
    rcases ite_eq h with ⟨h0, h⟩ | ⟨h0, h⟩
    · skip
      rcases ite_eq h with ⟨h1, h⟩ | ⟨h1, h⟩
      · skip
        obtain ⟨e665, h2, h⟩ := Option.bind_eq_some_iff.mp h
        obtain ⟨e666, h3, h⟩ := Option.bind_eq_some_iff.mp h
        rcases ite_eq h with ⟨h4, h⟩ | ⟨h4, h⟩
        · skip
          cases h
          exact ⟨_, round_out (gs := [.t, .t, .el (W34.cells e665), .t, .el (W34.cells e666), .ft [⟨0, [], []⟩, ⟨1, [], []⟩, ⟨2, [], []⟩, ⟨3, [], []⟩, ⟨4, [], []⟩, ⟨5, [], []⟩, ⟨6, [], []⟩, ⟨7, [], []⟩, ⟨8, [], []⟩], .t]) (notIn []) (by kernel_rfl) rfl (And.intro (decide_eq_true h0) (And.intro (decide_eq_true h1) (And.intro (W34.dec_ok h2) (And.intro (decide_eq_true h1) (And.intro (W34.dec_ok h3) (And.intro (Eq.refl ([⟨0, [], []⟩, ⟨1, [], []⟩, ⟨2, [], []⟩, ⟨3, [], []⟩, ⟨4, [], []⟩, ⟨5, [], []⟩, ⟨6, [], []⟩, ⟨7, [], []⟩, ⟨8, [], []⟩] : List Foot)) (And.intro h4 True.intro))))))) n, l644, l645, z646, (↑(List.length l644) : Int), decide (z646 < (↑(List.length l644) : Int)), e665.c0, e665.c1, e666.c0, e666.c1, !(e665.c0 == e666.c0 && (e665.c1 == e666.c1 && true)), rfl⟩
        · skip
          obtain ⟨st, hs, hr⟩ := L27_0_ok m n (l644) (l645) (w64 (z646 + 1)) r h
          exact ⟨st, (round_on (gs := [.t, .t, .el (W34.cells e665), .t, .el (W34.cells e666), .ft [⟨0, [], []⟩, ⟨1, [], []⟩, ⟨2, [], []⟩, ⟨3, [], []⟩, ⟨4, [], []⟩, ⟨5, [], []⟩, ⟨6, [], []⟩, ⟨7, [], []⟩, ⟨8, [], []⟩], .f]) (notIn []) (by kernel_rfl) (And.intro (decide_eq_true h0) (And.intro (decide_eq_true h1) (And.intro (W34.dec_ok h2) (And.intro (decide_eq_true h1) (And.intro (W34.dec_ok h3) (And.intro (Eq.refl ([⟨0, [], []⟩, ⟨1, [], []⟩, ⟨2, [], []⟩, ⟨3, [], []⟩, ⟨4, [], []⟩, ⟨5, [], []⟩, ⟨6, [], []⟩, ⟨7, [], []⟩, ⟨8, [], []⟩] : List Foot)) (And.intro (Bool.eq_false_iff.mpr h4) True.intro))))))) n).trans hs, hr⟩
      · skip
        cases h
    · skip
      cases h
      exact ⟨_, round_out (gs := [.f]) (notIn []) (by kernel_rfl) rfl (And.intro (decide_eq_false h0) True.intro) n, l644, l645, z646, (↑(List.length l644) : Int), decide (z646 < (↑(List.length l644) : Int)), rfl⟩
inductive A27 where
  | a0 (b664 : Bool)
@[reducible] def A27.out : A27 → V × Store
  | .a0 b664 => (vb b664, [])
def F27 (l627 : List (List V)) (l628 : List (List V)) : Option A27 :=
  if ((↑(List.length l627) : Int) != (↑(List.length l628) : Int)) = true then
   some (A27.a0 (false))
  else
   (L27_0 18446744073709551616 (l627) (l628) (0)).bind fun r => match r with
   | .e0 =>
    some (A27.a0 (false))
   | .e1 =>
    some (A27.a0 (true))
theorem F27_ok (m : Nat) (l627 : List (List V)) (l628 : List (List V)) (r : A27) (h : F27 l627 l628 = some r) : call Try.prog X O0 18446744073709551616 (m + 1) 27 ([V.list 2 l627, V.list 2 l628]) ([]) = some r.out := by
  unfold F27 at h
  rcases ite_eq h with ⟨h0, h⟩ | ⟨h0, h⟩
  · skip
    cases h
    exact call_pathL (gs := [.t]) (notIn []) rfl rfl (by kernel_rfl) (And.intro h0 True.intro)
  · skip
    obtain ⟨r1, h1, h⟩ := Option.bind_eq_some_iff.mp h
    obtain ⟨st1, h1, hr1⟩ := L27_0_ok m 18446744073709551616 (l627) (l628) (0) r1 h1
    have h1 : loopRun Try.prog X (genO X (call Try.prog X O0 18446744073709551616 (m + 0))) 27 (0) 18446744073709551616 B27 0 ({ T := V.list 2 l627 :: V.list 2 l628 :: U :: U :: vb false :: i64 0 :: V.list 2 l627 :: i64 (↑(List.length l627) : Int) :: V.list 2 l628 :: i64 (↑(List.length l628) : Int) :: vb ((↑(List.length l627) : Int) != (↑(List.length l628) : Int)) :: un 15 [], σ := [] }) = some st1 := by
      rw [loopRun_from, show pre X 27 (0) 0 ({ T := V.list 2 l627 :: V.list 2 l628 :: U :: U :: vb false :: i64 0 :: V.list 2 l627 :: i64 (↑(List.length l627) : Int) :: V.list 2 l628 :: i64 (↑(List.length l628) : Int) :: vb ((↑(List.length l627) : Int) != (↑(List.length l628) : Int)) :: un 15 [], σ := [] }) = { T := V.list 2 l627 :: V.list 2 l628 :: U :: U :: U :: i64 0 :: un 20 [], σ := [] } by kernel_rfl]
      exact h1
    cases r1 with
    | e0 =>
      obtain ⟨l682, l683, z684, z685, b686, z687, z688, z689, z690, b691, rfl⟩ := hr1
      cases h
      exact call_pathL (gs := [.f, .lp (VX.ret) (s27_0_0 l682 l683 z684 z685 b686 z687 z688 z689 z690 b691)]) (notIn []) rfl rfl (by kernel_rfl) (And.intro (Bool.eq_false_iff.mpr h0) (And.intro h1 True.intro))
    | e1 =>
      obtain ⟨l692, l693, z694, z695, b696, rfl⟩ := hr1
      cases h
      exact call_pathL (gs := [.f, .lp (VX.exit 0) (s27_0_1 l692 l693 z694 z695 b696)]) (notIn []) rfl rfl (by kernel_rfl) (And.intro (Bool.eq_false_iff.mpr h0) (And.intro h1 True.intro))
/-! ## 32 -/
noncomputable abbrev B32 : Code := (Try.f32.body).getD .skip
inductive R32_0 where
  | e0
  | e1
  | e2
@[reducible] def s32_0_0 (l743 : List (List V)) (l744 : List (List V)) (z745 : Int) (z746 : Int) (b747 : Bool) (b748 : Bool) (l749 : List (List V)) (b750 : Bool) (l751 : List (List V)) (b752 : Bool) : S := { T := V.list 2 l743 :: V.list 2 l744 :: U :: U :: vb false :: i64 z745 :: un 5 [i64 z745, V.list 2 l743, i64 z746, vb b747, U, U, V.list 2 l743, i64 z745, V.pp [vb b748, V.list 2 l749], V.pp [vb b748, V.list 2 l749], vb b748, V.list 2 l744, i64 z745, V.pp [vb b750, V.list 2 l751], V.pp [vb b750, V.list 2 l751], vb b750, vb b752, vb b752, E, E, E, E, E, E, E, E, E, E, E, E, vb true], σ := [] }
@[reducible] def s32_0_1 (l754 : List (List V)) (l755 : List (List V)) (z756 : Int) (z757 : Int) (b758 : Bool) (b759 : Bool) (l760 : List (List V)) (b761 : Bool) (l762 : List (List V)) (b763 : Bool) (b764 : Bool) (b765 : Bool) : S := { T := V.list 2 l754 :: V.list 2 l755 :: U :: U :: vb false :: i64 z756 :: un 5 [i64 z756, V.list 2 l754, i64 z757, vb b758, U, U, V.list 2 l754, i64 z756, V.pp [vb b759, V.list 2 l760], V.pp [vb b759, V.list 2 l760], vb b759, V.list 2 l755, i64 z756, V.pp [vb b761, V.list 2 l762], V.pp [vb b761, V.list 2 l762], vb b761, vb b763, vb b763, V.list 2 l754, i64 z756, V.pp [vb b759, V.list 2 l760], V.pp [V.list 2 l760], V.list 2 l760, V.list 2 l755, i64 z756, V.pp [vb b761, V.list 2 l762], V.pp [V.list 2 l762], V.list 2 l762, vb b764, vb b765, vb b765], σ := [] }
@[reducible] def s32_0_2 (l766 : List (List V)) (l767 : List (List V)) (z768 : Int) (z769 : Int) (b770 : Bool) : S := { T := V.list 2 l766 :: V.list 2 l767 :: U :: U :: U :: i64 z768 :: un 5 (i64 z768 :: V.list 2 l766 :: i64 z769 :: vb b770 :: un 27 []), σ := [] }
def R32_0.St : R32_0 → VX × S → Prop
  | .e0, p => ∃ l743 : List (List V), ∃ l744 : List (List V), ∃ z745 : Int, ∃ z746 : Int, ∃ b747 : Bool, ∃ b748 : Bool, ∃ l749 : List (List V), ∃ b750 : Bool, ∃ l751 : List (List V), ∃ b752 : Bool, p = (VX.ret, s32_0_0 l743 l744 z745 z746 b747 b748 l749 b750 l751 b752)
  | .e1, p => ∃ l754 : List (List V), ∃ l755 : List (List V), ∃ z756 : Int, ∃ z757 : Int, ∃ b758 : Bool, ∃ b759 : Bool, ∃ l760 : List (List V), ∃ b761 : Bool, ∃ l762 : List (List V), ∃ b763 : Bool, ∃ b764 : Bool, ∃ b765 : Bool, p = (VX.ret, s32_0_1 l754 l755 z756 z757 b758 b759 l760 b761 l762 b763 b764 b765)
  | .e2, p => ∃ l766 : List (List V), ∃ l767 : List (List V), ∃ z768 : Int, ∃ z769 : Int, ∃ b770 : Bool, p = (VX.exit 0, s32_0_2 l766 l767 z768 z769 b770)
def L32_0 : Nat → List (List V) → List (List V) → Int → Option R32_0
  | 0, _, _, _ => none
  | n + 1, l709, l710, z711 =>
    if z711 < (↑(List.length l709) : Int) then
     if 0 ≤ z711 then
      ((l709[Int.toNat z711]?).bind W39.dec).bind fun e741 =>
      ((l710[Int.toNat z711]?).bind W39.dec).bind fun e742 =>
      if (!e741.c0 == e742.c0) = true then
       some (R32_0.e0)
      else
       (F27 (e741.2) (e742.2)).bind fun r => match r with
       | .a0 b753 =>
        if (!b753) = true then
         some (R32_0.e1)
        else
         L32_0 n (l709) (l710) (w64 (z711 + 1))
     else
      none -- none
    else
     some (R32_0.e2)
theorem L32_0_ok (m : Nat) : ∀ (n : Nat) (l709 : List (List V)) (l710 : List (List V)) (z711 : Int) (r : R32_0), L32_0 n l709 l710 z711 = some r → ∃ st, loopFrom Try.prog X (genO X (call Try.prog X O0 18446744073709551616 (m + 1))) 32 (0) 18446744073709551616 B32 0 n ({ T := V.list 2 l709 :: V.list 2 l710 :: U :: U :: U :: i64 z711 :: un 36 [], σ := [] }) = some st ∧ r.St st
  | 0, _, _, _, r, h => by cases h
  | n + 1, l709, l710, z711, r, h => by
    rw [L32_0] at h
    rcases ite_eq h with ⟨h0, h⟩ | ⟨h0, h⟩
    · skip
      rcases ite_eq h with ⟨h1, h⟩ | ⟨h1, h⟩
      · skip
        obtain ⟨e741, h2, h⟩ := Option.bind_eq_some_iff.mp h
        obtain ⟨e742, h3, h⟩ := Option.bind_eq_some_iff.mp h
        rcases ite_eq h with ⟨h4, h⟩ | ⟨h4, h⟩
        · skip
          cases h
          exact ⟨_, round_out (gs := [.t, .t, .el (W39.cells e741), .t, .el (W39.cells e742), .t, .t, .t, .t, .t, .t, .t, .t, .t, .t, .t, .t, .t, .ft [⟨0, [], []⟩, ⟨1, [], []⟩, ⟨2, [], []⟩, ⟨3, [], []⟩, ⟨4, [], []⟩, ⟨5, [], []⟩, ⟨6, [], []⟩, ⟨7, [], []⟩, ⟨8, [], []⟩, ⟨9, [], []⟩, ⟨10, [], []⟩, ⟨11, [], []⟩, ⟨12, [], []⟩, ⟨13, [], []⟩, ⟨14, [], []⟩, ⟨15, [], []⟩, ⟨16, [], []⟩, ⟨17, [], []⟩, ⟨18, [], []⟩, ⟨19, [], []⟩, ⟨20, [], []⟩, ⟨21, [], []⟩, ⟨22, [], []⟩, ⟨23, [], []⟩, ⟨24, [], []⟩], .a]) (notIn []) (by kernel_rfl) rfl (And.intro (decide_eq_true h0) (And.intro (decide_eq_true h1) (And.intro (W39.dec_ok h2) (And.intro (decide_eq_true h1) (And.intro (W39.dec_ok h3) (And.intro h4 (And.intro h4 (And.intro h4 (And.intro h4 (And.intro h4 (And.intro h4 (And.intro h4 (And.intro h4 (And.intro h4 (And.intro h4 (And.intro h4 (And.intro h4 (And.intro h4 (And.intro (Eq.refl ([⟨0, [], []⟩, ⟨1, [], []⟩, ⟨2, [], []⟩, ⟨3, [], []⟩, ⟨4, [], []⟩, ⟨5, [], []⟩, ⟨6, [], []⟩, ⟨7, [], []⟩, ⟨8, [], []⟩, ⟨9, [], []⟩, ⟨10, [], []⟩, ⟨11, [], []⟩, ⟨12, [], []⟩, ⟨13, [], []⟩, ⟨14, [], []⟩, ⟨15, [], []⟩, ⟨16, [], []⟩, ⟨17, [], []⟩, ⟨18, [], []⟩, ⟨19, [], []⟩, ⟨20, [], []⟩, ⟨21, [], []⟩, ⟨22, [], []⟩, ⟨23, [], []⟩, ⟨24, [], []⟩] : List Foot)) True.intro))))))))))))))))))) n, l709, l710, z711, (↑(List.length l709) : Int), decide (z711 < (↑(List.length l709) : Int)), e741.c0, e741.2, e742.c0, e742.2, !e741.c0 == e742.c0, rfl⟩
        · skip
          obtain ⟨r5, h5, h⟩ := Option.bind_eq_some_iff.mp h
          have h5 := F27_ok (m + 0) (e741.2) (e742.2) r5 h5
          cases r5 with
          | a0 b753 =>
            rcases ite_eq h with ⟨h6, h⟩ | ⟨h6, h⟩
            · skip
              cases h
              exact ⟨_, round_out (gs := [.t, .t, .el (W39.cells e741), .t, .el (W39.cells e742), .f, .f, .f, .t, .el (W39.cells e741), .f, .f, .f, .f, .f, .t, .el (W39.cells e742), .f, .f, .f, .an (vb b753) [], .f, .f, .ft [⟨0, [], []⟩, ⟨1, [], []⟩, ⟨2, [], []⟩, ⟨3, [], []⟩, ⟨4, [], []⟩, ⟨5, [], []⟩, ⟨6, [], []⟩, ⟨7, [], []⟩, ⟨8, [], []⟩, ⟨9, [], []⟩, ⟨10, [], []⟩, ⟨11, [], []⟩, ⟨12, [], []⟩, ⟨13, [], []⟩, ⟨14, [], []⟩, ⟨15, [], []⟩, ⟨16, [], []⟩, ⟨17, [], []⟩, ⟨18, [], []⟩, ⟨19, [], []⟩, ⟨20, [], []⟩, ⟨21, [], []⟩, ⟨22, [], []⟩, ⟨23, [], []⟩, ⟨24, [], []⟩], .t]) (notIn []) (by kernel_rfl) rfl (And.intro (decide_eq_true h0) (And.intro (decide_eq_true h1) (And.intro (W39.dec_ok h2) (And.intro (decide_eq_true h1) (And.intro (W39.dec_ok h3) (And.intro (Bool.eq_false_iff.mpr h4) (And.intro (Bool.eq_false_iff.mpr h4) (And.intro (Bool.eq_false_iff.mpr h4) (And.intro (decide_eq_true h1) (And.intro (W39.dec_ok h2) (And.intro (Bool.eq_false_iff.mpr h4) (And.intro (Bool.eq_false_iff.mpr h4) (And.intro (Bool.eq_false_iff.mpr h4) (And.intro (Bool.eq_false_iff.mpr h4) (And.intro (Bool.eq_false_iff.mpr h4) (And.intro (decide_eq_true h1) (And.intro (W39.dec_ok h3) (And.intro (Bool.eq_false_iff.mpr h4) (And.intro (Bool.eq_false_iff.mpr h4) (And.intro (Bool.eq_false_iff.mpr h4) (And.intro h5 (And.intro (Bool.eq_false_iff.mpr h4) (And.intro (Bool.eq_false_iff.mpr h4) (And.intro (Eq.refl ([⟨0, [], []⟩, ⟨1, [], []⟩, ⟨2, [], []⟩, ⟨3, [], []⟩, ⟨4, [], []⟩, ⟨5, [], []⟩, ⟨6, [], []⟩, ⟨7, [], []⟩, ⟨8, [], []⟩, ⟨9, [], []⟩, ⟨10, [], []⟩, ⟨11, [], []⟩, ⟨12, [], []⟩, ⟨13, [], []⟩, ⟨14, [], []⟩, ⟨15, [], []⟩, ⟨16, [], []⟩, ⟨17, [], []⟩, ⟨18, [], []⟩, ⟨19, [], []⟩, ⟨20, [], []⟩, ⟨21, [], []⟩, ⟨22, [], []⟩, ⟨23, [], []⟩, ⟨24, [], []⟩] : List Foot)) (And.intro h6 True.intro))))))))))))))))))))))))) n, l709, l710, z711, (↑(List.length l709) : Int), decide (z711 < (↑(List.length l709) : Int)), e741.c0, e741.2, e742.c0, e742.2, !e741.c0 == e742.c0, b753, !b753, rfl⟩
            · skip
              obtain ⟨st, hs, hr⟩ := L32_0_ok m n (l709) (l710) (w64 (z711 + 1)) r h
              exact ⟨st, (round_on (gs := [.t, .t, .el (W39.cells e741), .t, .el (W39.cells e742), .f, .f, .f, .t, .el (W39.cells e741), .f, .f, .f, .f, .f, .t, .el (W39.cells e742), .f, .f, .f, .an (vb b753) [], .f, .f, .ft [⟨0, [], []⟩, ⟨1, [], []⟩, ⟨2, [], []⟩, ⟨3, [], []⟩, ⟨4, [], []⟩, ⟨5, [], []⟩, ⟨6, [], []⟩, ⟨7, [], []⟩, ⟨8, [], []⟩, ⟨9, [], []⟩, ⟨10, [], []⟩, ⟨11, [], []⟩, ⟨12, [], []⟩, ⟨13, [], []⟩, ⟨14, [], []⟩, ⟨15, [], []⟩, ⟨16, [], []⟩, ⟨17, [], []⟩, ⟨18, [], []⟩, ⟨19, [], []⟩, ⟨20, [], []⟩, ⟨21, [], []⟩, ⟨22, [], []⟩, ⟨23, [], []⟩, ⟨24, [], []⟩], .f]) (notIn []) (by kernel_rfl) (And.intro (decide_eq_true h0) (And.intro (decide_eq_true h1) (And.intro (W39.dec_ok h2) (And.intro (decide_eq_true h1) (And.intro (W39.dec_ok h3) (And.intro (Bool.eq_false_iff.mpr h4) (And.intro (Bool.eq_false_iff.mpr h4) (And.intro (Bool.eq_false_iff.mpr h4) (And.intro (decide_eq_true h1) (And.intro (W39.dec_ok h2) (And.intro (Bool.eq_false_iff.mpr h4) (And.intro (Bool.eq_false_iff.mpr h4) (And.intro (Bool.eq_false_iff.mpr h4) (And.intro (Bool.eq_false_iff.mpr h4) (And.intro (Bool.eq_false_iff.mpr h4) (And.intro (decide_eq_true h1) (And.intro (W39.dec_ok h3) (And.intro (Bool.eq_false_iff.mpr h4) (And.intro (Bool.eq_false_iff.mpr h4) (And.intro (Bool.eq_false_iff.mpr h4) (And.intro h5 (And.intro (Bool.eq_false_iff.mpr h4) (And.intro (Bool.eq_false_iff.mpr h4) (And.intro (Eq.refl ([⟨0, [], []⟩, ⟨1, [], []⟩, ⟨2, [], []⟩, ⟨3, [], []⟩, ⟨4, [], []⟩, ⟨5, [], []⟩, ⟨6, [], []⟩, ⟨7, [], []⟩, ⟨8, [], []⟩, ⟨9, [], []⟩, ⟨10, [], []⟩, ⟨11, [], []⟩, ⟨12, [], []⟩, ⟨13, [], []⟩, ⟨14, [], []⟩, ⟨15, [], []⟩, ⟨16, [], []⟩, ⟨17, [], []⟩, ⟨18, [], []⟩, ⟨19, [], []⟩, ⟨20, [], []⟩, ⟨21, [], []⟩, ⟨22, [], []⟩, ⟨23, [], []⟩, ⟨24, [], []⟩] : List Foot)) (And.intro (Bool.eq_false_iff.mpr h6) True.intro))))))))))))))))))))))))) n).trans hs, hr⟩
      · skip
        cases h
    · skip
      cases h
      exact ⟨_, round_out (gs := [.f]) (notIn []) (by kernel_rfl) rfl (And.intro (decide_eq_false h0) True.intro) n, l709, l710, z711, (↑(List.length l709) : Int), decide (z711 < (↑(List.length l709) : Int)), rfl⟩
inductive A32 where
  | a0 (b740 : Bool)
@[reducible] def A32.out : A32 → V × Store
  | .a0 b740 => (vb b740, [])
def F32 (l610 : List (List V)) (l611 : List (List V)) : Option A32 :=
  if ((↑(List.length l610) : Int) != (↑(List.length l611) : Int)) = true then
   some (A32.a0 (false))
  else
   (L32_0 18446744073709551616 (l610) (l611) (0)).bind fun r => match r with
   | .e0 =>
    some (A32.a0 (false))
   | .e1 =>
    some (A32.a0 (false))
   | .e2 =>
    some (A32.a0 (true))
theorem F32_ok (m : Nat) (l610 : List (List V)) (l611 : List (List V)) (r : A32) (h : F32 l610 l611 = some r) : call Try.prog X O0 18446744073709551616 (m + 2) 32 ([V.list 2 l610, V.list 2 l611]) ([]) = some r.out := by
  unfold F32 at h
  rcases ite_eq h with ⟨h0, h⟩ | ⟨h0, h⟩
  · skip
    cases h
    exact call_pathL (gs := [.t]) (notIn []) rfl rfl (by kernel_rfl) (And.intro h0 True.intro)
  · skip
    obtain ⟨r1, h1, h⟩ := Option.bind_eq_some_iff.mp h
    obtain ⟨st1, h1, hr1⟩ := L32_0_ok m 18446744073709551616 (l610) (l611) (0) r1 h1
    have h1 : loopRun Try.prog X (genO X (call Try.prog X O0 18446744073709551616 (m + 1))) 32 (0) 18446744073709551616 B32 0 ({ T := V.list 2 l610 :: V.list 2 l611 :: U :: U :: vb false :: i64 0 :: V.list 2 l610 :: i64 (↑(List.length l610) : Int) :: V.list 2 l611 :: i64 (↑(List.length l611) : Int) :: vb ((↑(List.length l610) : Int) != (↑(List.length l611) : Int)) :: un 31 [], σ := [] }) = some st1 := by
      rw [loopRun_from, show pre X 32 (0) 0 ({ T := V.list 2 l610 :: V.list 2 l611 :: U :: U :: vb false :: i64 0 :: V.list 2 l610 :: i64 (↑(List.length l610) : Int) :: V.list 2 l611 :: i64 (↑(List.length l611) : Int) :: vb ((↑(List.length l610) : Int) != (↑(List.length l611) : Int)) :: un 31 [], σ := [] }) = { T := V.list 2 l610 :: V.list 2 l611 :: U :: U :: U :: i64 0 :: un 36 [], σ := [] } by kernel_rfl]
      exact h1
    cases r1 with
    | e0 =>
      obtain ⟨l771, l772, z773, z774, b775, b776, l777, b778, l779, b780, rfl⟩ := hr1
      cases h
      exact call_pathL (gs := [.f, .lp (VX.ret) (s32_0_0 l771 l772 z773 z774 b775 b776 l777 b778 l779 b780)]) (notIn []) rfl rfl (by kernel_rfl) (And.intro (Bool.eq_false_iff.mpr h0) (And.intro h1 True.intro))
    | e1 =>
      obtain ⟨l781, l782, z783, z784, b785, b786, l787, b788, l789, b790, b791, b792, rfl⟩ := hr1
      cases h
      exact call_pathL (gs := [.f, .lp (VX.ret) (s32_0_1 l781 l782 z783 z784 b785 b786 l787 b788 l789 b790 b791 b792)]) (notIn []) rfl rfl (by kernel_rfl) (And.intro (Bool.eq_false_iff.mpr h0) (And.intro h1 True.intro))
    | e2 =>
      obtain ⟨l793, l794, z795, z796, b797, rfl⟩ := hr1
      cases h
      exact call_pathL (gs := [.f, .lp (VX.exit 0) (s32_0_2 l793 l794 z795 z796 b797)]) (notIn []) rfl rfl (by kernel_rfl) (And.intro (Bool.eq_false_iff.mpr h0) (And.intro h1 True.intro))
/-! ## 30 -/
inductive A30 where
  | a0 (b803 : Bool)
@[reducible] def A30.out : A30 → V × Store
  | .a0 b803 => (vb b803, [])
def F30 : Option A30 :=
  (F31 ([[vb false, V.list 2 [[i64 0, i64 0], [i64 655360, i64 0]]]]) (32768) (0)).bind fun r => match r with
  | .a0 k604 l605 =>
   (F62 (9) (-1)).bind fun r => match r with
   | .a0 z606 z607 =>
    (F31 ([[vb false, V.list 2 [[i64 0, i64 0], [i64 655360, i64 0]]]]) (0) (65536)).bind fun r => match r with
    | .a0 k608 l609 =>
     if 0 + k608 ≤ List.length l609 then
      (F32 (List.take k608 l609) ([[vb false, V.list 2 [[i64 0, i64 0], [i64 655360, i64 0]]]])).bind fun r => match r with
      | .a0 b798 =>
       if (b798) = true then
        if ((↑k604 : Int) == 1) = true then
         if (0 : Int) ≤ (0 : Int) ∧ (0 : Int) < (↑k604 : Int) then
          ((l605[(0 : Nat)]?).bind W39.dec).bind fun e799 =>
          if ((↑(List.length e799.2) : Int) == 2) = true then
           ((e799.2[(1 : Nat)]?).bind W34.dec).bind fun e800 =>
           if (e800.c0 == 327680) = true then
            if (z606 == 0) = true then
             if (z607 == 9) = true then
              (F31 ([[vb false, V.list 2 [[i64 0, i64 0], [i64 655360, i64 0]]]]) (5) (5)).bind fun r => match r with
              | .a0 k801 l802 =>
               some (A30.a0 ((↑k801 : Int) == 0))
             else
              some (A30.a0 (false))
            else
             some (A30.a0 (false))
           else
            some (A30.a0 (false))
          else
           some (A30.a0 (false))
         else
          none -- none
        else
         some (A30.a0 (false))
       else
        some (A30.a0 (false))
     else
      none -- none
theorem F30_ok (m : Nat) (r : A30) (h : F30 = some r) : call Try.prog X O0 18446744073709551616 (m + 8) 30 ([]) ([]) = some r.out := by
  unfold F30 at h
  obtain ⟨r0, h0, h⟩ := Option.bind_eq_some_iff.mp h
  have h0 := F31_ok (m + 0) ([[vb false, V.list 2 [[i64 0, i64 0], [i64 655360, i64 0]]]]) (32768) (0) r0 h0
  cases r0 with
  | a0 k604 l605 =>
    obtain ⟨r1, h1, h⟩ := Option.bind_eq_some_iff.mp h
    have h1 := F62_ok (m + 5) (9) (-1) r1 h1
    cases r1 with
    | a0 z606 z607 =>
      obtain ⟨r2, h2, h⟩ := Option.bind_eq_some_iff.mp h
      have h2 := F31_ok (m + 0) ([[vb false, V.list 2 [[i64 0, i64 0], [i64 655360, i64 0]]]]) (0) (65536) r2 h2
      cases r2 with
      | a0 k608 l609 =>
        rcases ite_eq h with ⟨h3, h⟩ | ⟨h3, h⟩
        · skip
          obtain ⟨r4, h4, h⟩ := Option.bind_eq_some_iff.mp h
          have h4 := F32_ok (m + 5) (List.take k608 l609) ([[vb false, V.list 2 [[i64 0, i64 0], [i64 655360, i64 0]]]]) r4 h4
          cases r4 with
          | a0 b798 =>
            rcases ite_eq h with ⟨h5, h⟩ | ⟨h5, h⟩
            · skip
              rcases ite_eq h with ⟨h6, h⟩ | ⟨h6, h⟩
              · skip
                rcases ite_eq h with ⟨h7, h⟩ | ⟨h7, h⟩
                · skip
                  obtain ⟨e799, h8, h⟩ := Option.bind_eq_some_iff.mp h
                  rcases ite_eq h with ⟨h9, h⟩ | ⟨h9, h⟩
                  · skip
                    obtain ⟨e800, h10, h⟩ := Option.bind_eq_some_iff.mp h
                    rcases ite_eq h with ⟨h11, h⟩ | ⟨h11, h⟩
                    · skip
                      rcases ite_eq h with ⟨h12, h⟩ | ⟨h12, h⟩
                      · skip
                        rcases ite_eq h with ⟨h13, h⟩ | ⟨h13, h⟩
                        · skip
                          obtain ⟨r14, h14, h⟩ := Option.bind_eq_some_iff.mp h
                          have h14 := F31_ok (m + 0) ([[vb false, V.list 2 [[i64 0, i64 0], [i64 655360, i64 0]]]]) (5) (5) r14 h14
                          cases r14 with
                          | a0 k801 l802 =>
                            cases h
                            exact call_pathL (gs := [.a, .a, .an (V.hs 0 0 k604) [Ob.cells true true 2 l605], .an (V.tup [i64 z606, i64 z607]) [], .a, .an (V.hs 0 0 k608) [Ob.cells true true 2 l609], .t, .a, .an (vb b798) [], .t, .t, .t, .t, .t, .t, .t, .t, .t, .el (W39.cells e799), .t, .t, .t, .t, .t, .t, .t, .t, .el (W39.cells e799), .t, .a, .el (W34.cells e800), .t, .t, .t, .t, .t, .t, .t, .t, .t, .t, .t, .t, .a, .an (V.hs 0 0 k801) [Ob.cells true true 2 l802], .t, .t, .t]) (notIn []) rfl rfl (by kernel_rfl) (And.intro h0 (And.intro h1 (And.intro h2 (And.intro (decide_eq_true h3) (And.intro h4 (And.intro h5 (And.intro h5 (And.intro h5 (And.intro h5 (And.intro h6 (And.intro h6 (And.intro (decide_eq_true h7) (And.intro h6 (And.intro h6 (And.intro (W39.dec_ok h8) (And.intro h6 (And.intro h6 (And.intro h6 (And.intro h9 (And.intro h9 (And.intro (decide_eq_true h7) (And.intro h9 (And.intro h9 (And.intro (W39.dec_ok h8) (And.intro h9 (And.intro (W34.dec_ok h10) (And.intro h9 (And.intro h9 (And.intro h9 (And.intro h9 (And.intro h11 (And.intro h11 (And.intro h11 (And.intro h12 (And.intro h12 (And.intro h12 (And.intro h13 (And.intro h13 (And.intro h14 (And.intro h13 (And.intro h13 (And.intro h13 True.intro))))))))))))))))))))))))))))))))))))))))))
                        · skip
                          cases h
                          exact call_pathL (gs := [.a, .a, .an (V.hs 0 0 k604) [Ob.cells true true 2 l605], .an (V.tup [i64 z606, i64 z607]) [], .a, .an (V.hs 0 0 k608) [Ob.cells true true 2 l609], .t, .a, .an (vb b798) [], .t, .t, .t, .t, .t, .t, .t, .t, .t, .el (W39.cells e799), .t, .t, .t, .t, .t, .t, .t, .t, .el (W39.cells e799), .t, .a, .el (W34.cells e800), .t, .t, .t, .t, .t, .t, .t, .t, .t, .t, .f, .f, .f, .f, .f]) (notIn []) rfl rfl (by kernel_rfl) (And.intro h0 (And.intro h1 (And.intro h2 (And.intro (decide_eq_true h3) (And.intro h4 (And.intro h5 (And.intro h5 (And.intro h5 (And.intro h5 (And.intro h6 (And.intro h6 (And.intro (decide_eq_true h7) (And.intro h6 (And.intro h6 (And.intro (W39.dec_ok h8) (And.intro h6 (And.intro h6 (And.intro h6 (And.intro h9 (And.intro h9 (And.intro (decide_eq_true h7) (And.intro h9 (And.intro h9 (And.intro (W39.dec_ok h8) (And.intro h9 (And.intro (W34.dec_ok h10) (And.intro h9 (And.intro h9 (And.intro h9 (And.intro h9 (And.intro h11 (And.intro h11 (And.intro h11 (And.intro h12 (And.intro h12 (And.intro h12 (And.intro (Bool.eq_false_iff.mpr h13) (And.intro (Bool.eq_false_iff.mpr h13) (And.intro (Bool.eq_false_iff.mpr h13) (And.intro (Bool.eq_false_iff.mpr h13) (And.intro (Bool.eq_false_iff.mpr h13) True.intro)))))))))))))))))))))))))))))))))))))))))
                      · skip
                        cases h
                        exact call_pathL (gs := [.a, .a, .an (V.hs 0 0 k604) [Ob.cells true true 2 l605], .an (V.tup [i64 z606, i64 z607]) [], .a, .an (V.hs 0 0 k608) [Ob.cells true true 2 l609], .t, .a, .an (vb b798) [], .t, .t, .t, .t, .t, .t, .t, .t, .t, .el (W39.cells e799), .t, .t, .t, .t, .t, .t, .t, .t, .el (W39.cells e799), .t, .a, .el (W34.cells e800), .t, .t, .t, .t, .t, .t, .t, .f, .f, .f, .a, .a, .a, .a, .a]) (notIn []) rfl rfl (by kernel_rfl) (And.intro h0 (And.intro h1 (And.intro h2 (And.intro (decide_eq_true h3) (And.intro h4 (And.intro h5 (And.intro h5 (And.intro h5 (And.intro h5 (And.intro h6 (And.intro h6 (And.intro (decide_eq_true h7) (And.intro h6 (And.intro h6 (And.intro (W39.dec_ok h8) (And.intro h6 (And.intro h6 (And.intro h6 (And.intro h9 (And.intro h9 (And.intro (decide_eq_true h7) (And.intro h9 (And.intro h9 (And.intro (W39.dec_ok h8) (And.intro h9 (And.intro (W34.dec_ok h10) (And.intro h9 (And.intro h9 (And.intro h9 (And.intro h9 (And.intro h11 (And.intro h11 (And.intro h11 (And.intro (Bool.eq_false_iff.mpr h12) (And.intro (Bool.eq_false_iff.mpr h12) (And.intro (Bool.eq_false_iff.mpr h12) True.intro))))))))))))))))))))))))))))))))))))
                    · skip
                      cases h
                      exact call_pathL (gs := [.a, .a, .an (V.hs 0 0 k604) [Ob.cells true true 2 l605], .an (V.tup [i64 z606, i64 z607]) [], .a, .an (V.hs 0 0 k608) [Ob.cells true true 2 l609], .t, .a, .an (vb b798) [], .t, .t, .t, .t, .t, .t, .t, .t, .t, .el (W39.cells e799), .t, .t, .t, .t, .t, .t, .t, .t, .el (W39.cells e799), .t, .a, .el (W34.cells e800), .t, .t, .t, .t, .f, .f, .f, .a, .a, .a, .a, .a, .a, .a, .a]) (notIn []) rfl rfl (by kernel_rfl) (And.intro h0 (And.intro h1 (And.intro h2 (And.intro (decide_eq_true h3) (And.intro h4 (And.intro h5 (And.intro h5 (And.intro h5 (And.intro h5 (And.intro h6 (And.intro h6 (And.intro (decide_eq_true h7) (And.intro h6 (And.intro h6 (And.intro (W39.dec_ok h8) (And.intro h6 (And.intro h6 (And.intro h6 (And.intro h9 (And.intro h9 (And.intro (decide_eq_true h7) (And.intro h9 (And.intro h9 (And.intro (W39.dec_ok h8) (And.intro h9 (And.intro (W34.dec_ok h10) (And.intro h9 (And.intro h9 (And.intro h9 (And.intro h9 (And.intro (Bool.eq_false_iff.mpr h11) (And.intro (Bool.eq_false_iff.mpr h11) (And.intro (Bool.eq_false_iff.mpr h11) True.intro)))))))))))))))))))))))))))))))))
                  · skip
                    cases h
                    exact call_pathL (gs := [.a, .a, .an (V.hs 0 0 k604) [Ob.cells true true 2 l605], .an (V.tup [i64 z606, i64 z607]) [], .a, .an (V.hs 0 0 k608) [Ob.cells true true 2 l609], .t, .a, .an (vb b798) [], .t, .t, .t, .t, .t, .t, .t, .t, .t, .el (W39.cells e799), .t, .t, .t, .f, .f, .f, .f, .f, .f, .f, .f, .f, .a, .a, .a, .a, .a, .a, .a, .a, .a, .a, .a]) (notIn []) rfl rfl (by kernel_rfl) (And.intro h0 (And.intro h1 (And.intro h2 (And.intro (decide_eq_true h3) (And.intro h4 (And.intro h5 (And.intro h5 (And.intro h5 (And.intro h5 (And.intro h6 (And.intro h6 (And.intro (decide_eq_true h7) (And.intro h6 (And.intro h6 (And.intro (W39.dec_ok h8) (And.intro h6 (And.intro h6 (And.intro h6 (And.intro (Bool.eq_false_iff.mpr h9) (And.intro (Bool.eq_false_iff.mpr h9) (And.intro (Bool.eq_false_iff.mpr h9) (And.intro (Bool.eq_false_iff.mpr h9) (And.intro (Bool.eq_false_iff.mpr h9) (And.intro (Bool.eq_false_iff.mpr h9) (And.intro (Bool.eq_false_iff.mpr h9) (And.intro (Bool.eq_false_iff.mpr h9) (And.intro (Bool.eq_false_iff.mpr h9) True.intro)))))))))))))))))))))))))))
                · skip
                  cases h
              · skip
                cases h
                exact call_pathL (gs := [.a, .a, .an (V.hs 0 0 k604) [Ob.cells true true 2 l605], .an (V.tup [i64 z606, i64 z607]) [], .a, .an (V.hs 0 0 k608) [Ob.cells true true 2 l609], .t, .a, .an (vb b798) [], .t, .t, .t, .t, .f, .f, .f, .f, .f, .f, .f, .a, .a, .a, .a, .a, .a, .a, .a, .a, .a, .a, .a, .a, .a, .a, .a, .a, .a, .a, .a]) (notIn []) rfl rfl (by kernel_rfl) (And.intro h0 (And.intro h1 (And.intro h2 (And.intro (decide_eq_true h3) (And.intro h4 (And.intro h5 (And.intro h5 (And.intro h5 (And.intro h5 (And.intro (Bool.eq_false_iff.mpr h6) (And.intro (Bool.eq_false_iff.mpr h6) (And.intro (Bool.eq_false_iff.mpr h6) (And.intro (Bool.eq_false_iff.mpr h6) (And.intro (Bool.eq_false_iff.mpr h6) (And.intro (Bool.eq_false_iff.mpr h6) (And.intro (Bool.eq_false_iff.mpr h6) True.intro))))))))))))))))
            · skip
              cases h
              exact call_pathL (gs := [.a, .a, .an (V.hs 0 0 k604) [Ob.cells true true 2 l605], .an (V.tup [i64 z606, i64 z607]) [], .a, .an (V.hs 0 0 k608) [Ob.cells true true 2 l609], .t, .a, .an (vb b798) [], .f, .f, .f, .f, .a, .a, .a, .a, .a, .a, .a, .a, .a, .a, .a, .a, .a, .a, .a, .a, .a, .a, .a, .a, .a, .a, .a, .a, .a, .a, .a]) (notIn []) rfl rfl (by kernel_rfl) (And.intro h0 (And.intro h1 (And.intro h2 (And.intro (decide_eq_true h3) (And.intro h4 (And.intro (Bool.eq_false_iff.mpr h5) (And.intro (Bool.eq_false_iff.mpr h5) (And.intro (Bool.eq_false_iff.mpr h5) (And.intro (Bool.eq_false_iff.mpr h5) True.intro)))))))))
        · skip
          cases h
end Go.Proofs.Ythohhdcngdmbeaa.H
