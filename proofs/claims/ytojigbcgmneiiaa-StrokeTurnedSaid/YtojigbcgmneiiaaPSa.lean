/- What the functions compute, and that they do so over the machine of plain values (printed by this session's program wip/vm/Walk.lean). No condition beyond those stated. -/
import Derived.Test.YtojigbcgmneiiaaWk
import Derived.Test.YtojigbcgmneiiaaRowsR3
set_option linter.unusedVariables false
set_option linter.unusedSimpArgs false
namespace Go.Proofs.Ytojigbcgmneiiaa.H
open Go Go.VM
set_option maxRecDepth 100000
/-! ## 50 -/
inductive A50 where
  | a0 (z18 : Int)
@[reducible] def A50.out : A50 → V × Store
  | .a0 z18 => (i64 z18, [])
def F50 (z14 : Int) (z15 : Int) (z16 : Int) : Option A50 :=
  if z14 ≥ z15 then
   if z14 ≤ z16 then
    some (A50.a0 (z14))
   else
    if w64 (w64 (z16 - z15) + 1) = 0 then
     none -- none
    else
     if Int.tmod z14 (w64 (w64 (z16 - z15) + 1)) < 0 then
      some (A50.a0 (w64 (z15 + w64 (w64 (w64 (Int.tmod z14 (w64 (w64 (z16 - z15) + 1)) + z16) - z15) + 1))))
     else
      some (A50.a0 (w64 (z15 + Int.tmod z14 (w64 (w64 (z16 - z15) + 1)))))
  else
   if w64 (w64 (z16 - z15) + 1) = 0 then
    none -- none
   else
    if Int.tmod z14 (w64 (w64 (z16 - z15) + 1)) < 0 then
     some (A50.a0 (w64 (z15 + w64 (w64 (w64 (Int.tmod z14 (w64 (w64 (z16 - z15) + 1)) + z16) - z15) + 1))))
    else
     some (A50.a0 (w64 (z15 + Int.tmod z14 (w64 (w64 (z16 - z15) + 1)))))
theorem F50_ok (m : Nat) (z14 : Int) (z15 : Int) (z16 : Int) (r : A50) (h : F50 z14 z15 z16 = some r) : call Try.prog X O0 18446744073709551616 (m + 1) 50 ([i64 z14, i64 z15, i64 z16]) ([]) = some r.out := by
  unfold F50 at h
  rcases ite_eq h with ⟨h0, h⟩ | ⟨h0, h⟩
  · skip
    rcases ite_eq h with ⟨h1, h⟩ | ⟨h1, h⟩
    · skip
      cases h
      exact call_pathL (gs := [.t, .t, .t, .t, .t]) (notIn []) rfl rfl (by kernel_rfl) (And.intro (decide_eq_true h0) (And.intro (decide_eq_true h0) (And.intro (decide_eq_true h0) (And.intro (decide_eq_true h0) (And.intro (decide_eq_true h1) True.intro)))))
    · skip
      rcases ite_eq h with ⟨h2, h⟩ | ⟨h2, h⟩
      · skip
        cases h
      · skip
        rcases ite_eq h with ⟨h3, h⟩ | ⟨h3, h⟩
        · skip
          cases h
          exact call_pathL (gs := [.t, .t, .t, .t, .f, .f, .t]) (notIn []) rfl rfl (by kernel_rfl) (And.intro (decide_eq_true h0) (And.intro (decide_eq_true h0) (And.intro (decide_eq_true h0) (And.intro (decide_eq_true h0) (And.intro (decide_eq_false h1) (And.intro (decide_eq_false h2) (And.intro (decide_eq_true h3) True.intro)))))))
        · skip
          cases h
          exact call_pathL (gs := [.t, .t, .t, .t, .f, .f, .f]) (notIn []) rfl rfl (by kernel_rfl) (And.intro (decide_eq_true h0) (And.intro (decide_eq_true h0) (And.intro (decide_eq_true h0) (And.intro (decide_eq_true h0) (And.intro (decide_eq_false h1) (And.intro (decide_eq_false h2) (And.intro (decide_eq_false h3) True.intro)))))))
  · skip
    rcases ite_eq h with ⟨h1, h⟩ | ⟨h1, h⟩
    · skip
      cases h
    · skip
      rcases ite_eq h with ⟨h2, h⟩ | ⟨h2, h⟩
      · skip
        cases h
        exact call_pathL (gs := [.f, .f, .f, .f, .a, .f, .t]) (notIn []) rfl rfl (by kernel_rfl) (And.intro (decide_eq_false h0) (And.intro (decide_eq_false h0) (And.intro (decide_eq_false h0) (And.intro (decide_eq_false h0) (And.intro (decide_eq_false h1) (And.intro (decide_eq_true h2) True.intro))))))
      · skip
        cases h
        exact call_pathL (gs := [.f, .f, .f, .f, .a, .f, .f]) (notIn []) rfl rfl (by kernel_rfl) (And.intro (decide_eq_false h0) (And.intro (decide_eq_false h0) (And.intro (decide_eq_false h0) (And.intro (decide_eq_false h0) (And.intro (decide_eq_false h1) (And.intro (decide_eq_false h2) True.intro))))))
/-! ## 28 -/
inductive A28 where
  | a0 (z10 : Int) (l11 : List (List V)) (z12 : Int)
@[reducible] def A28.out : A28 → V × Store
  | .a0 z10 l11 z12 => (i64 z10, [Ob.cells true false 2 [[V.list 1 l11, i64 z12]]])
def F28 (z6 : Int) (l7 : List (List V)) (z8 : Int) : Option A28 :=
  if z8 ≥ (↑(List.length l7) : Int) then
   some (A28.a0 (0) (l7) (z8))
  else
   if 0 ≤ w64 (w64 (z8 + 1) - 1) then
    ((l7[Int.toNat (w64 (w64 (z8 + (1 : Int)) - (1 : Int)))]?).bind W3.dec).bind fun e13 =>
    (F50 (e13.c0) (0) (1073741824)).bind fun r => match r with
    | .a0 z19 =>
     if z6 = 0 then
      none -- none
     else
      some (A28.a0 (Int.tmod z19 z6) (l7) (w64 (z8 + 1)))
   else
    none -- none
theorem F28_ok (m : Nat) (z6 : Int) (l7 : List (List V)) (z8 : Int) (r : A28) (h : F28 z6 l7 z8 = some r) : call Try.prog X O0 18446744073709551616 (m + 2) 28 ([V.ptr 0 0 0, i64 z6]) ([Ob.cells true false 2 [[V.list 1 l7, i64 z8]]]) = some r.out := by
  unfold F28 at h
  rcases ite_eq h with ⟨h0, h⟩ | ⟨h0, h⟩
  · skip
    cases h
    exact call_pathL (gs := [.a, .a, .ft [⟨0, [], []⟩, ⟨1, [0], []⟩, ⟨2, [0], []⟩, ⟨3, [0], []⟩, ⟨4, [], []⟩, ⟨5, [0], []⟩, ⟨6, [0], []⟩, ⟨7, [0], []⟩, ⟨8, [], []⟩, ⟨9, [], []⟩], .t]) (notIn []) rfl rfl (by kernel_rfl) (And.intro (Eq.refl ([⟨0, [], []⟩, ⟨1, [0], []⟩, ⟨2, [0], []⟩, ⟨3, [0], []⟩, ⟨4, [], []⟩, ⟨5, [0], []⟩, ⟨6, [0], []⟩, ⟨7, [0], []⟩, ⟨8, [], []⟩, ⟨9, [], []⟩] : List Foot)) (And.intro (decide_eq_true h0) True.intro))
  · skip
    rcases ite_eq h with ⟨h1, h⟩ | ⟨h1, h⟩
    · skip
      obtain ⟨e13, h2, h⟩ := Option.bind_eq_some_iff.mp h
      obtain ⟨r3, h3, h⟩ := Option.bind_eq_some_iff.mp h
      have h3 := F50_ok (m + 0) (e13.c0) (0) (1073741824) r3 h3
      cases r3 with
      | a0 z19 =>
        rcases ite_eq h with ⟨h4, h⟩ | ⟨h4, h⟩
        · skip
          cases h
        · skip
          cases h
          exact call_pathL (gs := [.a, .a, .ft [⟨0, [], []⟩, ⟨1, [0], []⟩, ⟨2, [0], []⟩, ⟨3, [0], []⟩, ⟨4, [], []⟩, ⟨5, [0], []⟩, ⟨6, [0], []⟩, ⟨7, [0], []⟩, ⟨8, [], []⟩, ⟨9, [], []⟩], .f, .a, .a, .a, .a, .t, .el (W3.cells e13), .an (i64 z19) [], .f, .ft [⟨0, [], []⟩, ⟨1, [0], []⟩, ⟨2, [0], []⟩, ⟨3, [0], []⟩, ⟨4, [], []⟩, ⟨5, [0], []⟩, ⟨6, [0], []⟩, ⟨7, [0], []⟩, ⟨8, [], []⟩, ⟨9, [], []⟩, ⟨10, [], []⟩, ⟨11, [], []⟩, ⟨12, [], []⟩, ⟨13, [], []⟩, ⟨14, [], []⟩]]) (notIn []) rfl rfl (by kernel_rfl) (And.intro (Eq.refl ([⟨0, [], []⟩, ⟨1, [0], []⟩, ⟨2, [0], []⟩, ⟨3, [0], []⟩, ⟨4, [], []⟩, ⟨5, [0], []⟩, ⟨6, [0], []⟩, ⟨7, [0], []⟩, ⟨8, [], []⟩, ⟨9, [], []⟩] : List Foot)) (And.intro (decide_eq_false h0) (And.intro (decide_eq_true h1) (And.intro (W3.dec_ok h2) (And.intro h3 (And.intro (decide_eq_false h4) (And.intro (Eq.refl ([⟨0, [], []⟩, ⟨1, [0], []⟩, ⟨2, [0], []⟩, ⟨3, [0], []⟩, ⟨4, [], []⟩, ⟨5, [0], []⟩, ⟨6, [0], []⟩, ⟨7, [0], []⟩, ⟨8, [], []⟩, ⟨9, [], []⟩, ⟨10, [], []⟩, ⟨11, [], []⟩, ⟨12, [], []⟩, ⟨13, [], []⟩, ⟨14, [], []⟩] : List Foot)) True.intro)))))))
    · skip
      cases h
/-! ## 29 -/
inductive A29 where
  | a0 (z41 : Int) (l42 : List (List V)) (z43 : Int)
@[reducible] def A29.out : A29 → V × Store
  | .a0 z41 l42 z43 => (i64 z41, [Ob.cells true false 2 [[V.list 1 l42, i64 z43]]])
def F29 (z30 : Int) (z31 : Int) (l32 : List (List V)) (z33 : Int) : Option A29 :=
  (F28 (w64 (w64 (z31 - z30) + 1)) (l32) (z33)).bind fun r => match r with
  | .a0 z35 l36 z37 =>
   (F28 (4) (l36) (z37)).bind fun r => match r with
   | .a0 z38 l39 z40 =>
    if (z38 == 0) = true then
     some (A29.a0 (w64 (w64 (w64 (z30 + z35) * 65536) + 32768)) (l39) (z40))
    else
     if (z38 == 1) = true then
      (F28 (65536) (l39) (z40)).bind fun r => match r with
      | .a0 z44 l45 z46 =>
       some (A29.a0 (w64 (w64 (w64 (z30 + z35) * 65536) + z44)) (l45) (z46))
     else
      some (A29.a0 (w64 (w64 (z30 + z35) * 65536)) (l39) (z40))
theorem F29_ok (m : Nat) (z30 : Int) (z31 : Int) (l32 : List (List V)) (z33 : Int) (r : A29) (h : F29 z30 z31 l32 z33 = some r) : call Try.prog X O0 18446744073709551616 (m + 3) 29 ([V.ptr 0 0 0, i64 z30, i64 z31]) ([Ob.cells true false 2 [[V.list 1 l32, i64 z33]]]) = some r.out := by
  unfold F29 at h
  obtain ⟨r0, h0, h⟩ := Option.bind_eq_some_iff.mp h
  have h0 := F28_ok (m + 0) (w64 (w64 (z31 - z30) + 1)) (l32) (z33) r0 h0
  cases r0 with
  | a0 z35 l36 z37 =>
    obtain ⟨r1, h1, h⟩ := Option.bind_eq_some_iff.mp h
    have h1 := F28_ok (m + 0) (4) (l36) (z37) r1 h1
    cases r1 with
    | a0 z38 l39 z40 =>
      rcases ite_eq h with ⟨h2, h⟩ | ⟨h2, h⟩
      · skip
        cases h
        exact call_pathL (gs := [.an (i64 z35) [Ob.cells true false 2 [[V.list 1 l36, i64 z37]]], .an (i64 z38) [Ob.cells true false 2 [[V.list 1 l39, i64 z40]]], .t]) (notIn []) rfl rfl (by kernel_rfl) (And.intro h0 (And.intro h1 (And.intro h2 True.intro)))
      · skip
        rcases ite_eq h with ⟨h3, h⟩ | ⟨h3, h⟩
        · skip
          obtain ⟨r4, h4, h⟩ := Option.bind_eq_some_iff.mp h
          have h4 := F28_ok (m + 0) (65536) (l39) (z40) r4 h4
          cases r4 with
          | a0 z44 l45 z46 =>
            cases h
            exact call_pathL (gs := [.an (i64 z35) [Ob.cells true false 2 [[V.list 1 l36, i64 z37]]], .an (i64 z38) [Ob.cells true false 2 [[V.list 1 l39, i64 z40]]], .f, .t, .an (i64 z44) [Ob.cells true false 2 [[V.list 1 l45, i64 z46]]]]) (notIn []) rfl rfl (by kernel_rfl) (And.intro h0 (And.intro h1 (And.intro (Bool.eq_false_iff.mpr h2) (And.intro h3 (And.intro h4 True.intro)))))
        · skip
          cases h
          exact call_pathL (gs := [.an (i64 z35) [Ob.cells true false 2 [[V.list 1 l36, i64 z37]]], .an (i64 z38) [Ob.cells true false 2 [[V.list 1 l39, i64 z40]]], .f, .f]) (notIn []) rfl rfl (by kernel_rfl) (And.intro h0 (And.intro h1 (And.intro (Bool.eq_false_iff.mpr h2) (And.intro (Bool.eq_false_iff.mpr h3) True.intro))))
/-! ## 15 -/
noncomputable abbrev B15 : Code := (Try.f15.body).getD .skip
inductive R15_0 where
  | e0 (l94 : List (List V)) (z95 : Int) (b96 : Bool) (k97 : Nat) (l98 : List (List V))
@[reducible] def s15_0_0 (z92 : Int) (b93 : Bool) (l94 : List (List V)) (z95 : Int) (b96 : Bool) (k97 : Nat) (l98 : List (List V)) : S := { T := V.ptr 0 0 0 :: U :: V.ptr 1 0 0 :: V.ptr 2 0 0 :: i64 z92 :: un 7 (i64 z92 :: vb b93 :: un 23 []), σ := [Ob.cells true false 2 [[V.list 1 l94, i64 z95]], Ob.cells true false 2 [[vb false, V.hs 3 0 0]], Ob.cells true false 2 [[vb b96, V.hs 4 0 k97]], Ob.cells true true 2 [], Ob.cells true true 2 l98] }
def R15_0.St : R15_0 → VX × S → Prop
  | .e0 l94 z95 b96 k97 l98, p => ∃ z92 : Int, ∃ b93 : Bool, p = (VX.exit 0, s15_0_0 z92 b93 l94 z95 b96 k97 l98)
def L15_0 : Nat → Int → List (List V) → Int → Bool → Nat → List (List V) → Option R15_0
  | 0, _, _, _, _, _, _ => none
  | n + 1, z56, l57, z58, b59, k60, l61 =>
    if z56 > 0 then
     (F29 (-5) (20) (l57) (z58)).bind fun r => match r with
     | .a0 z83 l84 z85 =>
      (F29 (-5) (20) (l84) (z85)).bind fun r => match r with
      | .a0 z86 l87 z88 =>
       if 0 + k60 ≤ List.length l61 ∧ (k60 + 1) * 16 ≤ 140737488355328 ∧ k60 + 1 ≤ 140737488355328 then
        (F28 (6) (l87) (z88)).bind fun r => match r with
        | .a0 z89 l90 z91 =>
         if (z89 == 0) = true then
          if 0 + (k60 + 1) ≤ List.length (List.take k60 l61 ++ [[i64 z83, i64 z86]]) ∧ (k60 + 1 + 1) * 16 ≤ 140737488355328 ∧ k60 + 1 + 1 ≤ 140737488355328 then
           L15_0 n (w64 (z56 - 1)) (l90) (z91) (b59) (k60 + 1 + 1) (List.take (k60 + 1) (List.take k60 l61 ++ [[i64 z83, i64 z86]]) ++ [[i64 z83, i64 z86]])
          else
           none -- none
         else
          L15_0 n (w64 (z56 - 1)) (l90) (z91) (b59) (k60 + 1) (List.take k60 l61 ++ [[i64 z83, i64 z86]])
       else
        none -- none
    else
     some (R15_0.e0 (l57) (z58) (b59) (k60) (l61))
theorem L15_0_ok (m : Nat) : ∀ (n : Nat) (z56 : Int) (l57 : List (List V)) (z58 : Int) (b59 : Bool) (k60 : Nat) (l61 : List (List V)) (r : R15_0), L15_0 n z56 l57 z58 b59 k60 l61 = some r → ∃ st, loopFrom Try.prog X (genO X (call Try.prog X O0 18446744073709551616 (m + 3))) 15 (1) 18446744073709551616 B15 0 n ({ T := V.ptr 0 0 0 :: U :: V.ptr 1 0 0 :: V.ptr 2 0 0 :: i64 z56 :: un 32 [], σ := [Ob.cells true false 2 [[V.list 1 l57, i64 z58]], Ob.cells true false 2 [[vb false, V.hs 3 0 0]], Ob.cells true false 2 [[vb b59, V.hs 4 0 k60]], Ob.cells true true 2 [], Ob.cells true true 2 l61] }) = some st ∧ r.St st
  | 0, _, _, _, _, _, _, r, h => by cases h
  | n + 1, z56, l57, z58, b59, k60, l61, r, h => by
    rw [L15_0] at h
    rcases ite_eq h with ⟨h0, h⟩ | ⟨h0, h⟩
    · skip
      obtain ⟨r1, h1, h⟩ := Option.bind_eq_some_iff.mp h
      have h1 := F29_ok (m + 0) (-5) (20) (l57) (z58) r1 h1
      cases r1 with
      | a0 z83 l84 z85 =>
        obtain ⟨r2, h2, h⟩ := Option.bind_eq_some_iff.mp h
        have h2 := F29_ok (m + 0) (-5) (20) (l84) (z85) r2 h2
        cases r2 with
        | a0 z86 l87 z88 =>
          rcases ite_eq h with ⟨h3, h⟩ | ⟨h3, h⟩
          · skip
            obtain ⟨r4, h4, h⟩ := Option.bind_eq_some_iff.mp h
            have h4 := F28_ok (m + 1) (6) (l87) (z88) r4 h4
            cases r4 with
            | a0 z89 l90 z91 =>
              rcases ite_eq h with ⟨h5, h⟩ | ⟨h5, h⟩
              · skip
                rcases ite_eq h with ⟨h6, h⟩ | ⟨h6, h⟩
                · skip
                  obtain ⟨st, hs, hr⟩ := L15_0_ok m n (w64 (z56 - 1)) (l90) (z91) (b59) (k60 + 1 + 1) (List.take (k60 + 1) (List.take k60 l61 ++ [[i64 z83, i64 z86]]) ++ [[i64 z83, i64 z86]]) r h
                  exact ⟨st, (round_on (gs := [.t, .an (i64 z83) [Ob.cells true false 2 [[V.list 1 l84, i64 z85]]], .an (i64 z86) [Ob.cells true false 2 [[V.list 1 l87, i64 z88]]], .a, .a, .a, .a, .t, .a, .an (i64 z89) [Ob.cells true false 2 [[V.list 1 l90, i64 z91]]], .t, .a, .a, .a, .t, .a]) (notIn []) (by kernel_rfl) (And.intro (decide_eq_true h0) (And.intro h1 (And.intro h2 (And.intro (decide_eq_true h3) (And.intro h4 (And.intro h5 (And.intro (decide_eq_true h6) True.intro))))))) n).trans hs, hr⟩
                · skip
                  cases h
              · skip
                obtain ⟨st, hs, hr⟩ := L15_0_ok m n (w64 (z56 - 1)) (l90) (z91) (b59) (k60 + 1) (List.take k60 l61 ++ [[i64 z83, i64 z86]]) r h
                exact ⟨st, (round_on (gs := [.t, .an (i64 z83) [Ob.cells true false 2 [[V.list 1 l84, i64 z85]]], .an (i64 z86) [Ob.cells true false 2 [[V.list 1 l87, i64 z88]]], .a, .a, .a, .a, .t, .a, .an (i64 z89) [Ob.cells true false 2 [[V.list 1 l90, i64 z91]]], .f]) (notIn []) (by kernel_rfl) (And.intro (decide_eq_true h0) (And.intro h1 (And.intro h2 (And.intro (decide_eq_true h3) (And.intro h4 (And.intro (Bool.eq_false_iff.mpr h5) True.intro)))))) n).trans hs, hr⟩
          · skip
            cases h
    · skip
      cases h
      exact ⟨_, round_out (gs := [.f]) (notIn []) (by kernel_rfl) rfl (And.intro (decide_eq_false h0) True.intro) n, z56, decide (z56 > 0), rfl⟩
inductive A15 where
  | a0 (b106 : Bool) (k107 : Nat) (l108 : List (List V)) (z109 : Int) (l110 : List (List V))
@[reducible] def A15.out : A15 → V × Store
  | .a0 b106 k107 l108 z109 l110 => (V.agg [vb b106, V.hs 1 0 k107], [Ob.cells true false 2 [[V.list 1 l108, i64 z109]], Ob.cells true true 2 l110])
def F15 (l3 : List (List V)) (z4 : Int) : Option A15 :=
  (F28 (2) (l3) (z4)).bind fun r => match r with
  | .a0 z77 l78 z79 =>
   (F28 (7) (l78) (z79)).bind fun r => match r with
   | .a0 z80 l81 z82 =>
    (L15_0 18446744073709551616 (z80) (l81) (z82) (z77 == 0) (0) ([])).bind fun r => match r with
    | .e0 l101 z102 b103 k104 l105 =>
     some (A15.a0 (b103) (k104) (l101) (z102) (l105))
theorem F15_ok (m : Nat) (l3 : List (List V)) (z4 : Int) (r : A15) (h : F15 l3 z4 = some r) : call Try.prog X O0 18446744073709551616 (m + 4) 15 ([V.ptr 0 0 0]) ([Ob.cells true false 2 [[V.list 1 l3, i64 z4]]]) = some r.out := by
  unfold F15 at h
  obtain ⟨r0, h0, h⟩ := Option.bind_eq_some_iff.mp h
  have h0 := F28_ok (m + 1) (2) (l3) (z4) r0 h0
  cases r0 with
  | a0 z77 l78 z79 =>
    obtain ⟨r1, h1, h⟩ := Option.bind_eq_some_iff.mp h
    have h1 := F28_ok (m + 1) (7) (l78) (z79) r1 h1
    cases r1 with
    | a0 z80 l81 z82 =>
      obtain ⟨r2, h2, h⟩ := Option.bind_eq_some_iff.mp h
      obtain ⟨st2, h2, hr2⟩ := L15_0_ok m 18446744073709551616 (z80) (l81) (z82) (z77 == 0) (0) ([]) r2 h2
      have h2 : loopRun Try.prog X (genO X (call Try.prog X O0 18446744073709551616 (m + 3))) 15 (1) 18446744073709551616 B15 0 ({ T := V.ptr 0 0 0 :: U :: V.ptr 1 0 0 :: V.ptr 2 0 0 :: i64 z80 :: U :: V.ptr 0 0 0 :: i64 z77 :: vb (z77 == 0) :: V.agg [vb (z77 == 0), V.nilS] :: V.ptr 0 0 0 :: i64 z80 :: un 25 [], σ := [Ob.cells true false 2 [[V.list 1 l81, i64 z82]], Ob.cells true false 2 [[vb false, V.nilS]], Ob.cells true false 2 [[vb (z77 == 0), V.nilS]]] }) = some st2 := by
        rw [loopRun_from, show pre X 15 (1) 0 ({ T := V.ptr 0 0 0 :: U :: V.ptr 1 0 0 :: V.ptr 2 0 0 :: i64 z80 :: U :: V.ptr 0 0 0 :: i64 z77 :: vb (z77 == 0) :: V.agg [vb (z77 == 0), V.nilS] :: V.ptr 0 0 0 :: i64 z80 :: un 25 [], σ := [Ob.cells true false 2 [[V.list 1 l81, i64 z82]], Ob.cells true false 2 [[vb false, V.nilS]], Ob.cells true false 2 [[vb (z77 == 0), V.nilS]]] }) = { T := V.ptr 0 0 0 :: U :: V.ptr 1 0 0 :: V.ptr 2 0 0 :: i64 z80 :: un 32 [], σ := [Ob.cells true false 2 [[V.list 1 l81, i64 z82]], Ob.cells true false 2 [[vb false, V.hs 3 0 0]], Ob.cells true false 2 [[vb (z77 == 0), V.hs 4 0 0]], Ob.cells true true 2 [], Ob.cells true true 2 []] } by kernel_rfl]
        exact h2
      cases r2 with
      | e0 l101 z102 b103 k104 l105 =>
        obtain ⟨z99, b100, rfl⟩ := hr2
        cases h
        exact call_pathL (gs := [.an (i64 z77) [Ob.cells true false 2 [[V.list 1 l78, i64 z79]]], .a, .an (i64 z80) [Ob.cells true false 2 [[V.list 1 l81, i64 z82]]], .lp (VX.exit 0) (s15_0_0 z99 b100 l101 z102 b103 k104 l105), .a, .a]) (notIn []) rfl rfl (by kernel_rfl) (And.intro h0 (And.intro h1 (And.intro h2 True.intro)))
/-! ## 37 -/
def F37 (z121 : Int) (z122 : Int) (z123 : Int) : Int :=
  if z121 < z122 then
   z122
  else
   if z121 > z123 then
    z123
   else
    z121
theorem F37_ok (m : Nat) (z121 : Int) (z122 : Int) (z123 : Int) (z126 : Int) (h : F37 z121 z122 z123 = z126) : call Try.prog X O0 18446744073709551616 (m + 1) 37 ([i64 z121, i64 z122, i64 z123]) ([]) = some (i64 z126, []) := by
  unfold F37 at h
  rcases ite_eq h with ⟨h0, h⟩ | ⟨h0, h⟩
  · skip
    subst h
    exact call_pathL (gs := [.t]) (notIn []) rfl rfl (by kernel_rfl) (And.intro (decide_eq_true h0) True.intro)
  · skip
    rcases ite_eq h with ⟨h1, h⟩ | ⟨h1, h⟩
    · skip
      subst h
      exact call_pathL (gs := [.f, .t]) (notIn []) rfl rfl (by kernel_rfl) (And.intro (decide_eq_false h0) (And.intro (decide_eq_true h1) True.intro))
    · skip
      subst h
      exact call_pathL (gs := [.f, .f]) (notIn []) rfl rfl (by kernel_rfl) (And.intro (decide_eq_false h0) (And.intro (decide_eq_false h1) True.intro))
/-! ## 53 -/
def F53 (b133 : Bool) (l134 : List (List V)) : Int :=
  if (b133) = true then
   if (↑(List.length l134) : Int) ≥ 2 then
    (↑(List.length l134) : Int)
   else
    if w64 ((↑(List.length l134) : Int) - 1) > 0 then w64 ((↑(List.length l134) : Int) - 1) else 0
  else
   if w64 ((↑(List.length l134) : Int) - 1) > 0 then w64 ((↑(List.length l134) : Int) - 1) else 0
theorem F53_ok (m : Nat) (b133 : Bool) (l134 : List (List V)) (z137 : Int) (h : F53 b133 l134 = z137) : call Try.prog X O0 18446744073709551616 (m + 1) 53 ([V.agg [vb b133, V.list 2 l134]]) ([]) = some (i64 z137, []) := by
  unfold F53 at h
  rcases ite_eq h with ⟨h0, h⟩ | ⟨h0, h⟩
  · skip
    rcases ite_eq h with ⟨h1, h⟩ | ⟨h1, h⟩
    · skip
      subst h
      exact call_pathL (gs := [.a, .a, .t, .t, .t, .t]) (notIn []) rfl rfl (by kernel_rfl) (And.intro h0 (And.intro h0 (And.intro h0 (And.intro (decide_eq_true h1) True.intro))))
    · skip
      subst h
      exact call_pathL (gs := [.a, .a, .t, .t, .t, .f]) (notIn []) rfl rfl (by kernel_rfl) (And.intro h0 (And.intro h0 (And.intro h0 (And.intro (decide_eq_false h1) True.intro))))
  · skip
    subst h
    exact call_pathL (gs := [.a, .a, .f, .f, .f, .a]) (notIn []) rfl rfl (by kernel_rfl) (And.intro (Bool.eq_false_iff.mpr h0) (And.intro (Bool.eq_false_iff.mpr h0) (And.intro (Bool.eq_false_iff.mpr h0) True.intro)))
/-! ## 65 -/
def F65 (z150 : Int) : Int :=
  bnd (F37 (z150) (-536870912) (536870912)) fun z152 =>
  z152
theorem F65_ok (m : Nat) (z150 : Int) (z154 : Int) (h : F65 z150 = z154) : call Try.prog X O0 18446744073709551616 (m + 2) 65 ([i64 z150]) ([]) = some (i64 z154, []) := by
  unfold F65 at h
  obtain ⟨z152, h0, h⟩ := bnd_eq h
  subst h
  exact call_pathL (gs := [.an (i64 z152) []]) (notIn []) rfl rfl (by kernel_rfl) (And.intro (F37_ok (m + 0) (z150) (-536870912) (536870912) z152 h0) True.intro)
/-! ## 75 -/
inductive A75 where
  | a0 (z157 : Int) (z158 : Int)
@[reducible] def A75.out : A75 → V × Store
  | .a0 z157 z158 => (V.agg [i64 z157, i64 z158], [])
def F75 (z147 : Int) (z148 : Int) : Option A75 :=
  bnd (F65 (z147)) fun z155 =>
  bnd (F65 (z148)) fun z156 =>
  some (A75.a0 (z155) (z156))
theorem F75_ok (m : Nat) (z147 : Int) (z148 : Int) (r : A75) (h : F75 z147 z148 = some r) : call Try.prog X O0 18446744073709551616 (m + 3) 75 ([V.agg [i64 z147, i64 z148]]) ([]) = some r.out := by
  unfold F75 at h
  obtain ⟨z155, h0, h⟩ := bnd_eq h
  obtain ⟨z156, h1, h⟩ := bnd_eq h
  cases h
  exact call_pathL (gs := [.a, .an (i64 z155) [], .a, .an (i64 z156) [], .a, .ft [⟨0, [0], []⟩, ⟨1, [0], []⟩, ⟨2, [], []⟩, ⟨3, [0], []⟩, ⟨4, [0], []⟩, ⟨5, [], []⟩, ⟨6, [], []⟩, ⟨7, [1], [1]⟩]]) (notIn []) rfl rfl (by kernel_rfl) (And.intro (F65_ok (m + 0) (z147) z155 h0) (And.intro (F65_ok (m + 0) (z148) z156 h1) (And.intro (Eq.refl ([⟨0, [0], []⟩, ⟨1, [0], []⟩, ⟨2, [], []⟩, ⟨3, [0], []⟩, ⟨4, [0], []⟩, ⟨5, [], []⟩, ⟨6, [], []⟩, ⟨7, [1], [1]⟩] : List Foot)) True.intro)))
/-! ## 86 -/
noncomputable abbrev B86 : Code := (Try.f86.body).getD .skip
inductive R86_0 where
  | e0 (z176 : Int)
@[reducible] def s86_0_0 (z175 : Int) (z176 : Int) (z177 : Int) (b178 : Bool) : S := { T := V.int IntKind.u64 z175 :: U :: U :: V.int IntKind.u64 z176 :: V.int IntKind.u64 z177 :: U :: V.int IntKind.u64 z177 :: vb b178 :: un 13 [], σ := [] }
def R86_0.St : R86_0 → VX × S → Prop
  | .e0 z176, p => ∃ z175 : Int, ∃ z177 : Int, ∃ b178 : Bool, p = (VX.exit 0, s86_0_0 z175 z176 z177 b178)
def L86_0 : Nat → Int → Int → Int → Option R86_0
  | 0, _, _, _ => none
  | n + 1, z172, z173, z174 =>
    if z174 > 0 then
     if IntKind.wrap IntKind.u64 (IntKind.wrap IntKind.u64 (↑(BitVec.toNat (BitVec.ofInt (IntKind.bits IntKind.u64) z173 ||| BitVec.ofInt (IntKind.bits IntKind.u64) z174)) : Int) * IntKind.wrap IntKind.u64 (↑(BitVec.toNat (BitVec.ofInt (IntKind.bits IntKind.u64) z173 ||| BitVec.ofInt (IntKind.bits IntKind.u64) z174)) : Int)) ≤ z172 then
      L86_0 n (z172) (IntKind.wrap IntKind.u64 (↑(BitVec.toNat (BitVec.ofInt (IntKind.bits IntKind.u64) z173 ||| BitVec.ofInt (IntKind.bits IntKind.u64) z174)) : Int)) (Int.fdiv z174 2)
     else
      L86_0 n (z172) (z173) (Int.fdiv z174 2)
    else
     some (R86_0.e0 (z173))
theorem L86_0_ok (m : Nat) : ∀ (n : Nat) (z172 : Int) (z173 : Int) (z174 : Int) (r : R86_0), L86_0 n z172 z173 z174 = some r → ∃ st, loopFrom Try.prog X (genO X (call Try.prog X O0 18446744073709551616 (m + 0))) 86 (0) 18446744073709551616 B86 0 n ({ T := V.int IntKind.u64 z172 :: U :: U :: V.int IntKind.u64 z173 :: V.int IntKind.u64 z174 :: un 16 [], σ := [] }) = some st ∧ r.St st
  | 0, _, _, _, r, h => by cases h
  | n + 1, z172, z173, z174, r, h => by
    rw [L86_0] at h
    rcases ite_eq h with ⟨h0, h⟩ | ⟨h0, h⟩
    · skip
      rcases ite_eq h with ⟨h1, h⟩ | ⟨h1, h⟩
      · skip
        obtain ⟨st, hs, hr⟩ := L86_0_ok m n (z172) (IntKind.wrap IntKind.u64 (↑(BitVec.toNat (BitVec.ofInt (IntKind.bits IntKind.u64) z173 ||| BitVec.ofInt (IntKind.bits IntKind.u64) z174)) : Int)) (Int.fdiv z174 2) r h
        exact ⟨st, (round_on (gs := [.t, .t, .a]) (notIn []) (by kernel_rfl) (And.intro (decide_eq_true h0) (And.intro (decide_eq_true h1) True.intro)) n).trans hs, hr⟩
      · skip
        obtain ⟨st, hs, hr⟩ := L86_0_ok m n (z172) (z173) (Int.fdiv z174 2) r h
        exact ⟨st, (round_on (gs := [.t, .f, .a]) (notIn []) (by kernel_rfl) (And.intro (decide_eq_true h0) (And.intro (decide_eq_false h1) True.intro)) n).trans hs, hr⟩
    · skip
      cases h
      exact ⟨_, round_out (gs := [.f]) (notIn []) (by kernel_rfl) rfl (And.intro (decide_eq_false h0) True.intro) n, z172, z174, decide (z174 > 0), rfl⟩
inductive A86 where
  | a0 (z183 : Int)
@[reducible] def A86.out : A86 → V × Store
  | .a0 z183 => (i64 z183, [])
def F86 (z169 : Int) : Option A86 :=
  (L86_0 18446744073709551616 (z169) (0) (2147483648)).bind fun r => match r with
  | .e0 z180 =>
   some (A86.a0 (w64 z180))
theorem F86_ok (m : Nat) (z169 : Int) (r : A86) (h : F86 z169 = some r) : call Try.prog X O0 18446744073709551616 (m + 1) 86 ([V.int IntKind.u64 z169]) ([]) = some r.out := by
  unfold F86 at h
  obtain ⟨r0, h0, h⟩ := Option.bind_eq_some_iff.mp h
  obtain ⟨st0, h0, hr0⟩ := L86_0_ok m 18446744073709551616 (z169) (0) (2147483648) r0 h0
  have h0 : loopRun Try.prog X (genO X (call Try.prog X O0 18446744073709551616 (m + 0))) 86 (0) 18446744073709551616 B86 0 ({ T := V.int IntKind.u64 z169 :: U :: i64 0 :: V.int IntKind.u64 0 :: V.int IntKind.u64 2147483648 :: un 16 [], σ := [] }) = some st0 := by
    rw [loopRun_from, show pre X 86 (0) 0 ({ T := V.int IntKind.u64 z169 :: U :: i64 0 :: V.int IntKind.u64 0 :: V.int IntKind.u64 2147483648 :: un 16 [], σ := [] }) = { T := V.int IntKind.u64 z169 :: U :: U :: V.int IntKind.u64 0 :: V.int IntKind.u64 2147483648 :: un 16 [], σ := [] } by kernel_rfl]
    exact h0
  cases r0 with
  | e0 z180 =>
    obtain ⟨z179, z181, b182, rfl⟩ := hr0
    cases h
    exact call_pathL (gs := [.lp (VX.exit 0) (s86_0_0 z179 z180 z181 b182)]) (notIn []) rfl rfl (by kernel_rfl) (And.intro h0 True.intro)
/-! ## 56 -/
def F56 (z185 : Int) : Int :=
  bnd (F37 (z185) (-1099511627776) (1099511627776)) fun z187 =>
  z187
theorem F56_ok (m : Nat) (z185 : Int) (z189 : Int) (h : F56 z185 = z189) : call Try.prog X O0 18446744073709551616 (m + 2) 56 ([i64 z185]) ([]) = some (i64 z189, []) := by
  unfold F56 at h
  obtain ⟨z187, h0, h⟩ := bnd_eq h
  subst h
  exact call_pathL (gs := [.an (i64 z187) []]) (notIn []) rfl rfl (by kernel_rfl) (And.intro (F37_ok (m + 0) (z185) (-1099511627776) (1099511627776) z187 h0) True.intro)
/-! ## 76 -/
inductive A76 where
  | a0 (z191 : Int)
@[reducible] def A76.out : A76 → V × Store
  | .a0 z191 => (i64 z191, [])
def F76 (z164 : Int) (z165 : Int) : Option A76 :=
  bnd (F37 (z164) (-1073741824) (1073741824)) fun z167 =>
  bnd (F37 (z165) (-1073741824) (1073741824)) fun z168 =>
  (F86 (IntKind.wrap IntKind.u64 (w64 (w64 (z167 * z167) + w64 (z168 * z168))))).bind fun r => match r with
  | .a0 z184 =>
   bnd (F56 (z184)) fun z190 =>
   some (A76.a0 (z190))
theorem F76_ok (m : Nat) (z164 : Int) (z165 : Int) (r : A76) (h : F76 z164 z165 = some r) : call Try.prog X O0 18446744073709551616 (m + 3) 76 ([i64 z164, i64 z165]) ([]) = some r.out := by
  unfold F76 at h
  obtain ⟨z167, h0, h⟩ := bnd_eq h
  obtain ⟨z168, h1, h⟩ := bnd_eq h
  obtain ⟨r2, h2, h⟩ := Option.bind_eq_some_iff.mp h
  have h2 := F86_ok (m + 1) (IntKind.wrap IntKind.u64 (w64 (w64 (z167 * z167) + w64 (z168 * z168)))) r2 h2
  cases r2 with
  | a0 z184 =>
    obtain ⟨z190, h3, h⟩ := bnd_eq h
    cases h
    exact call_pathL (gs := [.an (i64 z167) [], .an (i64 z168) [], .an (i64 z184) [], .an (i64 z190) []]) (notIn []) rfl rfl (by kernel_rfl) (And.intro (F37_ok (m + 1) (z164) (-1073741824) (1073741824) z167 h0) (And.intro (F37_ok (m + 1) (z165) (-1073741824) (1073741824) z168 h1) (And.intro h2 (And.intro (F56_ok (m + 0) (z184) z190 h3) True.intro))))
/-! ## 54 -/
inductive A54 where
  | a0 (z193 : Int) (z194 : Int) (z195 : Int) (z196 : Int) (z197 : Int)
@[reducible] def A54.out : A54 → V × Store
  | .a0 z193 z194 z195 z196 z197 => (V.tup [V.agg [i64 z193, i64 z194], V.agg [i64 z195, i64 z196], i64 z197], [])
def F54 (b142 : Bool) (l143 : List (List V)) (z144 : Int) : Option A54 :=
  if 0 ≤ z144 then
   ((l143[Int.toNat z144]?).bind W43.dec).bind fun e146 =>
   (F75 (e146.c0) (e146.c1)).bind fun r => match r with
   | .a0 z159 z160 =>
    if (↑(List.length l143) : Int) = 0 then
     none -- none
    else
     if 0 ≤ Int.tmod (w64 (z144 + 1)) (↑(List.length l143) : Int) then
      ((l143[Int.toNat (Int.tmod (w64 (z144 + (1 : Int))) (↑(List.length l143) : Int))]?).bind W43.dec).bind fun e161 =>
      (F75 (e161.c0) (e161.c1)).bind fun r => match r with
      | .a0 z162 z163 =>
       (F76 (w64 (z162 - z159)) (w64 (z163 - z160))).bind fun r => match r with
       | .a0 z192 =>
        some (A54.a0 (z159) (z160) (z162) (z163) (z192))
     else
      none -- none
  else
   none -- none
theorem F54_ok (m : Nat) (b142 : Bool) (l143 : List (List V)) (z144 : Int) (r : A54) (h : F54 b142 l143 z144 = some r) : call Try.prog X O0 18446744073709551616 (m + 4) 54 ([V.agg [vb b142, V.list 2 l143], i64 z144]) ([]) = some r.out := by
  unfold F54 at h
  rcases ite_eq h with ⟨h0, h⟩ | ⟨h0, h⟩
  · skip
    obtain ⟨e146, h1, h⟩ := Option.bind_eq_some_iff.mp h
    obtain ⟨r2, h2, h⟩ := Option.bind_eq_some_iff.mp h
    have h2 := F75_ok (m + 0) (e146.c0) (e146.c1) r2 h2
    cases r2 with
    | a0 z159 z160 =>
      rcases ite_eq h with ⟨h3, h⟩ | ⟨h3, h⟩
      · skip
        cases h
      · skip
        rcases ite_eq h with ⟨h4, h⟩ | ⟨h4, h⟩
        · skip
          obtain ⟨e161, h5, h⟩ := Option.bind_eq_some_iff.mp h
          obtain ⟨r6, h6, h⟩ := Option.bind_eq_some_iff.mp h
          have h6 := F75_ok (m + 0) (e161.c0) (e161.c1) r6 h6
          cases r6 with
          | a0 z162 z163 =>
            obtain ⟨r7, h7, h⟩ := Option.bind_eq_some_iff.mp h
            have h7 := F76_ok (m + 0) (w64 (z162 - z159)) (w64 (z163 - z160)) r7 h7
            cases r7 with
            | a0 z192 =>
              cases h
              exact call_pathL (gs := [.a, .t, .el (W43.cells e146), .an (V.agg [i64 z159, i64 z160]) [], .a, .a, .f, .t, .el (W43.cells e161), .an (V.agg [i64 z162, i64 z163]) [], .a, .a, .ft [⟨0, [0], []⟩, ⟨1, [0], []⟩, ⟨2, [], []⟩, ⟨3, [], []⟩, ⟨4, [], []⟩, ⟨5, [], []⟩, ⟨6, [0], []⟩, ⟨7, [0], []⟩, ⟨8, [], []⟩, ⟨9, [], []⟩, ⟨10, [0], []⟩, ⟨11, [0], []⟩, ⟨12, [], []⟩, ⟨13, [], []⟩, ⟨14, [], []⟩, ⟨15, [], []⟩, ⟨16, [], []⟩, ⟨17, [3], [3]⟩, ⟨18, [4], [4]⟩, ⟨19, [3], [3]⟩, ⟨20, [4], [4]⟩], .a, .a, .a, .a, .a, .a, .an (i64 z192) [], .a, .a, .ft [⟨0, [3], []⟩, ⟨1, [4], []⟩, ⟨2, [4], []⟩, ⟨3, [4], []⟩, ⟨4, [3], []⟩, ⟨5, [3], []⟩, ⟨6, [], []⟩, ⟨7, [4], []⟩, ⟨8, [4], []⟩, ⟨9, [3], []⟩, ⟨10, [3], []⟩, ⟨11, [], []⟩, ⟨12, [], []⟩, ⟨13, [1], [1]⟩, ⟨14, [2], [2]⟩, ⟨15, [], []⟩]]) (notIn []) rfl rfl (by kernel_rfl) (And.intro (decide_eq_true h0) (And.intro (W43.dec_ok h1) (And.intro h2 (And.intro (decide_eq_false h3) (And.intro (decide_eq_true h4) (And.intro (W43.dec_ok h5) (And.intro h6 (And.intro (Eq.refl ([⟨0, [0], []⟩, ⟨1, [0], []⟩, ⟨2, [], []⟩, ⟨3, [], []⟩, ⟨4, [], []⟩, ⟨5, [], []⟩, ⟨6, [0], []⟩, ⟨7, [0], []⟩, ⟨8, [], []⟩, ⟨9, [], []⟩, ⟨10, [0], []⟩, ⟨11, [0], []⟩, ⟨12, [], []⟩, ⟨13, [], []⟩, ⟨14, [], []⟩, ⟨15, [], []⟩, ⟨16, [], []⟩, ⟨17, [3], [3]⟩, ⟨18, [4], [4]⟩, ⟨19, [3], [3]⟩, ⟨20, [4], [4]⟩] : List Foot)) (And.intro h7 (And.intro (Eq.refl ([⟨0, [3], []⟩, ⟨1, [4], []⟩, ⟨2, [4], []⟩, ⟨3, [4], []⟩, ⟨4, [3], []⟩, ⟨5, [3], []⟩, ⟨6, [], []⟩, ⟨7, [4], []⟩, ⟨8, [4], []⟩, ⟨9, [3], []⟩, ⟨10, [3], []⟩, ⟨11, [], []⟩, ⟨12, [], []⟩, ⟨13, [1], [1]⟩, ⟨14, [2], [2]⟩, ⟨15, [], []⟩] : List Foot)) True.intro))))))))))
        · skip
          cases h
  · skip
    cases h
/-! ## 60 -/
inductive A60 where
  | a0 (z208 : Int)
@[reducible] def A60.out : A60 → V × Store
  | .a0 z208 => (i64 z208, [])
def F60 (z203 : Int) (z204 : Int) : Option A60 :=
  bnd (F56 (z203)) fun z206 =>
  bnd (F56 (z204)) fun z207 =>
  if (z207 == 0) = true then
   some (A60.a0 (0))
  else
   if z207 = 0 then
    none -- none
   else
    if (Int.tmod (w64 (z206 * 65536)) z207 != 0) = true then
     if (!decide (w64 (z206 * 65536) < 0) == decide (z207 < 0)) = true then
      bnd (F56 (w64 (w64 (Int.tdiv (w64 (z206 * 65536)) z207) - 1))) fun z209 =>
      some (A60.a0 (z209))
     else
      bnd (F56 (w64 (Int.tdiv (w64 (z206 * 65536)) z207))) fun z210 =>
      some (A60.a0 (z210))
    else
     bnd (F56 (w64 (Int.tdiv (w64 (z206 * 65536)) z207))) fun z211 =>
     some (A60.a0 (z211))
theorem F60_ok (m : Nat) (z203 : Int) (z204 : Int) (r : A60) (h : F60 z203 z204 = some r) : call Try.prog X O0 18446744073709551616 (m + 3) 60 ([i64 z203, i64 z204]) ([]) = some r.out := by
  unfold F60 at h
  obtain ⟨z206, h0, h⟩ := bnd_eq h
  obtain ⟨z207, h1, h⟩ := bnd_eq h
  rcases ite_eq h with ⟨h2, h⟩ | ⟨h2, h⟩
  · skip
    cases h
    exact call_pathL (gs := [.an (i64 z206) [], .a, .an (i64 z207) [], .t]) (notIn []) rfl rfl (by kernel_rfl) (And.intro (F56_ok (m + 0) (z203) z206 h0) (And.intro (F56_ok (m + 0) (z204) z207 h1) (And.intro h2 True.intro)))
  · skip
    rcases ite_eq h with ⟨h3, h⟩ | ⟨h3, h⟩
    · skip
      cases h
    · skip
      rcases ite_eq h with ⟨h4, h⟩ | ⟨h4, h⟩
      · skip
        rcases ite_eq h with ⟨h5, h⟩ | ⟨h5, h⟩
        · skip
          obtain ⟨z209, h6, h⟩ := bnd_eq h
          cases h
          exact call_pathL (gs := [.an (i64 z206) [], .a, .an (i64 z207) [], .f, .f, .f, .t, .t, .t, .t, .t, .t, .t, .an (i64 z209) []]) (notIn []) rfl rfl (by kernel_rfl) (And.intro (F56_ok (m + 0) (z203) z206 h0) (And.intro (F56_ok (m + 0) (z204) z207 h1) (And.intro (Bool.eq_false_iff.mpr h2) (And.intro (decide_eq_false h3) (And.intro (decide_eq_false h3) (And.intro h4 (And.intro h4 (And.intro h4 (And.intro h4 (And.intro h4 (And.intro h4 (And.intro h5 (And.intro (F56_ok (m + 0) (w64 (w64 (Int.tdiv (w64 (z206 * 65536)) z207) - 1)) z209 h6) True.intro)))))))))))))
        · skip
          obtain ⟨z210, h6, h⟩ := bnd_eq h
          cases h
          exact call_pathL (gs := [.an (i64 z206) [], .a, .an (i64 z207) [], .f, .f, .f, .t, .t, .t, .t, .t, .t, .f, .an (i64 z210) []]) (notIn []) rfl rfl (by kernel_rfl) (And.intro (F56_ok (m + 0) (z203) z206 h0) (And.intro (F56_ok (m + 0) (z204) z207 h1) (And.intro (Bool.eq_false_iff.mpr h2) (And.intro (decide_eq_false h3) (And.intro (decide_eq_false h3) (And.intro h4 (And.intro h4 (And.intro h4 (And.intro h4 (And.intro h4 (And.intro h4 (And.intro (Bool.eq_false_iff.mpr h5) (And.intro (F56_ok (m + 0) (w64 (Int.tdiv (w64 (z206 * 65536)) z207)) z210 h6) True.intro)))))))))))))
      · skip
        obtain ⟨z211, h5, h⟩ := bnd_eq h
        cases h
        exact call_pathL (gs := [.an (i64 z206) [], .a, .an (i64 z207) [], .f, .f, .f, .f, .f, .f, .f, .f, .f, .a, .an (i64 z211) []]) (notIn []) rfl rfl (by kernel_rfl) (And.intro (F56_ok (m + 0) (z203) z206 h0) (And.intro (F56_ok (m + 0) (z204) z207 h1) (And.intro (Bool.eq_false_iff.mpr h2) (And.intro (decide_eq_false h3) (And.intro (decide_eq_false h3) (And.intro (Bool.eq_false_iff.mpr h4) (And.intro (Bool.eq_false_iff.mpr h4) (And.intro (Bool.eq_false_iff.mpr h4) (And.intro (Bool.eq_false_iff.mpr h4) (And.intro (Bool.eq_false_iff.mpr h4) (And.intro (Bool.eq_false_iff.mpr h4) (And.intro (F56_ok (m + 0) (w64 (Int.tdiv (w64 (z206 * 65536)) z207)) z211 h5) True.intro))))))))))))
/-! ## 38 -/
noncomputable abbrev B38 : Code := (Try.f38.body).getD .skip
inductive R38_0 where
  | e0 (k238 : Nat) (l244 : List (List V))
@[reducible] def s38_0_0 (k238 : Nat) (z239 : Int) (z240 : Int) (b241 : Bool) (b242 : Bool) (l243 : List (List V)) (l244 : List (List V)) : S := { T := U :: V.ptr 0 0 0 :: U :: V.hs 1 0 k238 :: un 5 (i64 z239 :: i64 z240 :: vb b241 :: un 32 []), σ := [Ob.cells true false 2 [[vb b242, V.list 2 l243]], Ob.cells true true 6 l244] }
def R38_0.St : R38_0 → VX × S → Prop
  | .e0 k238 l244, p => ∃ z239 : Int, ∃ z240 : Int, ∃ b241 : Bool, ∃ b242 : Bool, ∃ l243 : List (List V), p = (VX.exit 0, s38_0_0 k238 z239 z240 b241 b242 l243 l244)
def L38_0 : Nat → Nat → Int → Int → Bool → List (List V) → List (List V) → Option R38_0
  | 0, _, _, _, _, _, _ => none
  | n + 1, k214, z215, z216, b217, l218, l219 =>
    if z216 < z215 then
     (F54 (b217) (l218) (z216)).bind fun r => match r with
     | .a0 z231 z232 z233 z234 z235 =>
      if z235 > 0 then
       (F60 (w64 (z233 - z231)) (z235)).bind fun r => match r with
       | .a0 z236 =>
        (F60 (w64 (z234 - z232)) (z235)).bind fun r => match r with
        | .a0 z237 =>
         if 0 + k214 ≤ List.length l219 ∧ (k214 + 1) * 48 ≤ 140737488355328 ∧ k214 + 1 ≤ 140737488355328 then
          L38_0 n (k214 + 1) (z215) (w64 (z216 + 1)) (b217) (l218) (List.take k214 l219 ++ [[i64 z231, i64 z232, i64 z233, i64 z234, i64 z236, i64 z237]])
         else
          none -- none
      else
       L38_0 n (k214) (z215) (w64 (z216 + 1)) (b217) (l218) (l219)
    else
     some (R38_0.e0 (k214) (l219))
theorem L38_0_ok (m : Nat) : ∀ (n : Nat) (k214 : Nat) (z215 : Int) (z216 : Int) (b217 : Bool) (l218 : List (List V)) (l219 : List (List V)) (r : R38_0), L38_0 n k214 z215 z216 b217 l218 l219 = some r → ∃ st, loopFrom Try.prog X (genO X (call Try.prog X O0 18446744073709551616 (m + 4))) 38 (0) 18446744073709551616 B38 0 n ({ T := U :: V.ptr 0 0 0 :: U :: V.hs 1 0 k214 :: un 5 (i64 z215 :: i64 z216 :: un 33 []), σ := [Ob.cells true false 2 [[vb b217, V.list 2 l218]], Ob.cells true true 6 l219] }) = some st ∧ r.St st
  | 0, _, _, _, _, _, _, r, h => by cases h
  | n + 1, k214, z215, z216, b217, l218, l219, r, h => by
    rw [L38_0] at h
    rcases ite_eq h with ⟨h0, h⟩ | ⟨h0, h⟩
    · skip
      obtain ⟨r1, h1, h⟩ := Option.bind_eq_some_iff.mp h
      have h1 := F54_ok (m + 0) (b217) (l218) (z216) r1 h1
      cases r1 with
      | a0 z231 z232 z233 z234 z235 =>
        rcases ite_eq h with ⟨h2, h⟩ | ⟨h2, h⟩
        · skip
          obtain ⟨r3, h3, h⟩ := Option.bind_eq_some_iff.mp h
          have h3 := F60_ok (m + 1) (w64 (z233 - z231)) (z235) r3 h3
          cases r3 with
          | a0 z236 =>
            obtain ⟨r4, h4, h⟩ := Option.bind_eq_some_iff.mp h
            have h4 := F60_ok (m + 1) (w64 (z234 - z232)) (z235) r4 h4
            cases r4 with
            | a0 z237 =>
              rcases ite_eq h with ⟨h5, h⟩ | ⟨h5, h⟩
              · skip
                obtain ⟨st, hs, hr⟩ := L38_0_ok m n (k214 + 1) (z215) (w64 (z216 + 1)) (b217) (l218) (List.take k214 l219 ++ [[i64 z231, i64 z232, i64 z233, i64 z234, i64 z236, i64 z237]]) r h
                exact ⟨st, (round_on (gs := [.t, .a, .an (V.tup [V.agg [i64 z231, i64 z232], V.agg [i64 z233, i64 z234], i64 z235]) [], .a, .a, .t, .a, .a, .a, .a, .an (i64 z236) [], .a, .a, .an (i64 z237) [], .a, .t, .ft [⟨0, [], []⟩, ⟨1, [5], []⟩, ⟨2, [6], []⟩, ⟨3, [6], []⟩, ⟨4, [6], []⟩, ⟨5, [5], []⟩, ⟨6, [5], []⟩, ⟨7, [], []⟩, ⟨8, [], []⟩, ⟨9, [], []⟩, ⟨10, [6], []⟩, ⟨11, [6], []⟩, ⟨12, [5], []⟩, ⟨13, [5], []⟩, ⟨14, [], []⟩, ⟨15, [], []⟩, ⟨16, [], []⟩, ⟨17, [], []⟩, ⟨18, [7], [7]⟩, ⟨19, [7, 8, 1], [1, 8]⟩, ⟨20, [], []⟩]]) (notIn []) (by kernel_rfl) (And.intro (decide_eq_true h0) (And.intro h1 (And.intro (decide_eq_true h2) (And.intro h3 (And.intro h4 (And.intro (decide_eq_true h5) (And.intro (Eq.refl ([⟨0, [], []⟩, ⟨1, [5], []⟩, ⟨2, [6], []⟩, ⟨3, [6], []⟩, ⟨4, [6], []⟩, ⟨5, [5], []⟩, ⟨6, [5], []⟩, ⟨7, [], []⟩, ⟨8, [], []⟩, ⟨9, [], []⟩, ⟨10, [6], []⟩, ⟨11, [6], []⟩, ⟨12, [5], []⟩, ⟨13, [5], []⟩, ⟨14, [], []⟩, ⟨15, [], []⟩, ⟨16, [], []⟩, ⟨17, [], []⟩, ⟨18, [7], [7]⟩, ⟨19, [7, 8, 1], [1, 8]⟩, ⟨20, [], []⟩] : List Foot)) True.intro))))))) n).trans hs, hr⟩
              · skip
                cases h
        · skip
          obtain ⟨st, hs, hr⟩ := L38_0_ok m n (k214) (z215) (w64 (z216 + 1)) (b217) (l218) (l219) r h
          exact ⟨st, (round_on (gs := [.t, .a, .an (V.tup [V.agg [i64 z231, i64 z232], V.agg [i64 z233, i64 z234], i64 z235]) [], .a, .a, .f]) (notIn []) (by kernel_rfl) (And.intro (decide_eq_true h0) (And.intro h1 (And.intro (decide_eq_false h2) True.intro))) n).trans hs, hr⟩
    · skip
      cases h
      exact ⟨_, round_out (gs := [.f]) (notIn []) (by kernel_rfl) rfl (And.intro (decide_eq_false h0) True.intro) n, z215, z216, decide (z216 < z215), b217, l218, rfl⟩
inductive A38 where
  | a0 (k252 : Nat) (l253 : List (List V))
@[reducible] def A38.out : A38 → V × Store
  | .a0 k252 l253 => (V.hs 0 0 k252, [Ob.cells true true 6 l253])
def F38 (b130 : Bool) (l131 : List (List V)) : Option A38 :=
  bnd (F53 (b130) (l131)) fun z230 =>
  (L38_0 18446744073709551616 (0) (z230) (0) (b130) (l131) ([])).bind fun r => match r with
  | .e0 k245 l251 =>
   some (A38.a0 (k245) (l251))
theorem F38_ok (m : Nat) (b130 : Bool) (l131 : List (List V)) (r : A38) (h : F38 b130 l131 = some r) : call Try.prog X O0 18446744073709551616 (m + 5) 38 ([V.agg [vb b130, V.list 2 l131]]) ([]) = some r.out := by
  unfold F38 at h
  obtain ⟨z230, h0, h⟩ := bnd_eq h
  obtain ⟨r1, h1, h⟩ := Option.bind_eq_some_iff.mp h
  obtain ⟨st1, h1, hr1⟩ := L38_0_ok m 18446744073709551616 (0) (z230) (0) (b130) (l131) ([]) r1 h1
  have h1 : loopRun Try.prog X (genO X (call Try.prog X O0 18446744073709551616 (m + 4))) 38 (0) 18446744073709551616 B38 0 ({ T := V.agg [vb b130, V.list 2 l131] :: V.ptr 0 0 0 :: V.nilS :: V.nilS :: un 4 (V.agg [vb b130, V.list 2 l131] :: i64 z230 :: i64 0 :: un 33 []), σ := [Ob.cells true false 2 [[vb b130, V.list 2 l131]]] }) = some st1 := by
    rw [loopRun_from, show pre X 38 (0) 0 ({ T := V.agg [vb b130, V.list 2 l131] :: V.ptr 0 0 0 :: V.nilS :: V.nilS :: un 4 (V.agg [vb b130, V.list 2 l131] :: i64 z230 :: i64 0 :: un 33 []), σ := [Ob.cells true false 2 [[vb b130, V.list 2 l131]]] }) = { T := U :: V.ptr 0 0 0 :: U :: V.hs 1 0 0 :: un 5 (i64 z230 :: i64 0 :: un 33 []), σ := [Ob.cells true false 2 [[vb b130, V.list 2 l131]], Ob.cells true true 6 []] } by kernel_rfl]
    exact h1
  cases r1 with
  | e0 k245 l251 =>
    obtain ⟨z246, z247, b248, b249, l250, rfl⟩ := hr1
    cases h
    exact call_pathL (gs := [.a, .an (i64 z230) [], .lp (VX.exit 0) (s38_0_0 k245 z246 z247 b248 b249 l250 l251)]) (notIn []) rfl rfl (by kernel_rfl) (And.intro (F53_ok (m + 3) (b130) (l131) z230 h0) (And.intro h1 True.intro))
/-! ## 83 -/
inductive A83 where
  | a0 (z293 : Int) (z294 : Int)
@[reducible] def A83.out : A83 → V × Store
  | .a0 z293 z294 => (V.tup [V.int IntKind.u64 z293, V.int IntKind.u64 z294], [])
def F83 (z290 : Int) (z291 : Int) : Option A83 :=
  some (A83.a0 (IntKind.wrap IntKind.u64 (IntKind.wrap IntKind.u64 (IntKind.wrap IntKind.u64 (Int.fdiv z290 4294967296 * Int.fdiv z291 4294967296) + Int.fdiv (IntKind.wrap IntKind.u64 (IntKind.wrap IntKind.u64 (Int.fdiv z290 4294967296 * IntKind.wrap IntKind.u64 (↑(BitVec.toNat (BitVec.ofInt (IntKind.bits IntKind.u64) z291 &&& BitVec.ofInt (IntKind.bits IntKind.u64) 4294967295)) : Int)) + Int.fdiv (IntKind.wrap IntKind.u64 (IntKind.wrap IntKind.u64 (↑(BitVec.toNat (BitVec.ofInt (IntKind.bits IntKind.u64) z290 &&& BitVec.ofInt (IntKind.bits IntKind.u64) 4294967295)) : Int) * IntKind.wrap IntKind.u64 (↑(BitVec.toNat (BitVec.ofInt (IntKind.bits IntKind.u64) z291 &&& BitVec.ofInt (IntKind.bits IntKind.u64) 4294967295)) : Int))) 4294967296)) 4294967296) + Int.fdiv (IntKind.wrap IntKind.u64 (IntKind.wrap IntKind.u64 (↑(BitVec.toNat (BitVec.ofInt (IntKind.bits IntKind.u64) (IntKind.wrap IntKind.u64 (IntKind.wrap IntKind.u64 (Int.fdiv z290 4294967296 * IntKind.wrap IntKind.u64 (↑(BitVec.toNat (BitVec.ofInt (IntKind.bits IntKind.u64) z291 &&& BitVec.ofInt (IntKind.bits IntKind.u64) 4294967295)) : Int)) + Int.fdiv (IntKind.wrap IntKind.u64 (IntKind.wrap IntKind.u64 (↑(BitVec.toNat (BitVec.ofInt (IntKind.bits IntKind.u64) z290 &&& BitVec.ofInt (IntKind.bits IntKind.u64) 4294967295)) : Int) * IntKind.wrap IntKind.u64 (↑(BitVec.toNat (BitVec.ofInt (IntKind.bits IntKind.u64) z291 &&& BitVec.ofInt (IntKind.bits IntKind.u64) 4294967295)) : Int))) 4294967296)) &&& BitVec.ofInt (IntKind.bits IntKind.u64) 4294967295)) : Int) + IntKind.wrap IntKind.u64 (IntKind.wrap IntKind.u64 (↑(BitVec.toNat (BitVec.ofInt (IntKind.bits IntKind.u64) z290 &&& BitVec.ofInt (IntKind.bits IntKind.u64) 4294967295)) : Int) * Int.fdiv z291 4294967296))) 4294967296)) (IntKind.wrap IntKind.u64 (z290 * z291)))
theorem F83_ok (m : Nat) (z290 : Int) (z291 : Int) (r : A83) (h : F83 z290 z291 = some r) : call Try.prog X O0 18446744073709551616 (m + 1) 83 ([V.int IntKind.u64 z290, V.int IntKind.u64 z291]) ([]) = some r.out := by
  unfold F83 at h
  cases h
  exact call_pathL (gs := [.a, .a, .a, .a, .a]) (notIn []) rfl rfl (by kernel_rfl) True.intro
/-! ## 81 -/
inductive A81 where
  | a0 (z297 : Int) (z298 : Int)
@[reducible] def A81.out : A81 → V × Store
  | .a0 z297 z298 => (V.tup [V.int IntKind.u64 z297, V.int IntKind.u64 z298], [])
def F81 (z287 : Int) (z288 : Int) : Option A81 :=
  (F83 (IntKind.wrap IntKind.u64 z287) (IntKind.wrap IntKind.u64 z288)).bind fun r => match r with
  | .a0 z295 z296 =>
   if z287 < 0 then
    if z288 < 0 then
     some (A81.a0 (IntKind.wrap IntKind.u64 (IntKind.wrap IntKind.u64 (z295 - IntKind.wrap IntKind.u64 z288) - IntKind.wrap IntKind.u64 z287)) (z296))
    else
     some (A81.a0 (IntKind.wrap IntKind.u64 (z295 - IntKind.wrap IntKind.u64 z288)) (z296))
   else
    if z288 < 0 then
     some (A81.a0 (IntKind.wrap IntKind.u64 (z295 - IntKind.wrap IntKind.u64 z287)) (z296))
    else
     some (A81.a0 (z295) (z296))
theorem F81_ok (m : Nat) (z287 : Int) (z288 : Int) (r : A81) (h : F81 z287 z288 = some r) : call Try.prog X O0 18446744073709551616 (m + 2) 81 ([i64 z287, i64 z288]) ([]) = some r.out := by
  unfold F81 at h
  obtain ⟨r0, h0, h⟩ := Option.bind_eq_some_iff.mp h
  have h0 := F83_ok (m + 0) (IntKind.wrap IntKind.u64 z287) (IntKind.wrap IntKind.u64 z288) r0 h0
  cases r0 with
  | a0 z295 z296 =>
    rcases ite_eq h with ⟨h1, h⟩ | ⟨h1, h⟩
    · skip
      rcases ite_eq h with ⟨h2, h⟩ | ⟨h2, h⟩
      · skip
        cases h
        exact call_pathL (gs := [.an (V.tup [V.int IntKind.u64 z295, V.int IntKind.u64 z296]) [], .t, .t]) (notIn []) rfl rfl (by kernel_rfl) (And.intro h0 (And.intro (decide_eq_true h1) (And.intro (decide_eq_true h2) True.intro)))
      · skip
        cases h
        exact call_pathL (gs := [.an (V.tup [V.int IntKind.u64 z295, V.int IntKind.u64 z296]) [], .t, .f]) (notIn []) rfl rfl (by kernel_rfl) (And.intro h0 (And.intro (decide_eq_true h1) (And.intro (decide_eq_false h2) True.intro)))
    · skip
      rcases ite_eq h with ⟨h2, h⟩ | ⟨h2, h⟩
      · skip
        cases h
        exact call_pathL (gs := [.an (V.tup [V.int IntKind.u64 z295, V.int IntKind.u64 z296]) [], .f, .t]) (notIn []) rfl rfl (by kernel_rfl) (And.intro h0 (And.intro (decide_eq_false h1) (And.intro (decide_eq_true h2) True.intro)))
      · skip
        cases h
        exact call_pathL (gs := [.an (V.tup [V.int IntKind.u64 z295, V.int IntKind.u64 z296]) [], .f, .f]) (notIn []) rfl rfl (by kernel_rfl) (And.intro h0 (And.intro (decide_eq_false h1) (And.intro (decide_eq_false h2) True.intro)))
/-! ## 80 -/
def F80 (z301 : Int) (z302 : Int) : Int :=
  if Int.fdiv (w64 z301) 65536 < -1 then
   -9223372036854775808
  else
   if (Int.fdiv (w64 z301) 65536 == -1) = true then
    if (Int.fdiv (IntKind.wrap IntKind.u64 (↑(BitVec.toNat (BitVec.ofInt (IntKind.bits IntKind.u64) (IntKind.wrap IntKind.u64 (z301 * 2 ^ min (Int.toNat 48) (IntKind.bits IntKind.u64))) ||| BitVec.ofInt (IntKind.bits IntKind.u64) (Int.fdiv z302 (2 ^ min (Int.toNat 16) (IntKind.bits IntKind.u64))))) : Int)) 9223372036854775808 == 0) = true then
     -9223372036854775808
    else
     if Int.fdiv (w64 z301) 65536 > 0 then
      9223372036854775807
     else
      if (Int.fdiv (w64 z301) 65536 == 0) = true then
       if (Int.fdiv (IntKind.wrap IntKind.u64 (↑(BitVec.toNat (BitVec.ofInt (IntKind.bits IntKind.u64) (IntKind.wrap IntKind.u64 (z301 * 2 ^ min (Int.toNat 48) (IntKind.bits IntKind.u64))) ||| BitVec.ofInt (IntKind.bits IntKind.u64) (Int.fdiv z302 (2 ^ min (Int.toNat 16) (IntKind.bits IntKind.u64))))) : Int)) 9223372036854775808 != 0) = true then
        9223372036854775807
       else
        w64 (IntKind.wrap IntKind.u64 (↑(BitVec.toNat (BitVec.ofInt (IntKind.bits IntKind.u64) (IntKind.wrap IntKind.u64 (z301 * 2 ^ min (Int.toNat 48) (IntKind.bits IntKind.u64))) ||| BitVec.ofInt (IntKind.bits IntKind.u64) (Int.fdiv z302 (2 ^ min (Int.toNat 16) (IntKind.bits IntKind.u64))))) : Int))
      else
       w64 (IntKind.wrap IntKind.u64 (↑(BitVec.toNat (BitVec.ofInt (IntKind.bits IntKind.u64) (IntKind.wrap IntKind.u64 (z301 * 2 ^ min (Int.toNat 48) (IntKind.bits IntKind.u64))) ||| BitVec.ofInt (IntKind.bits IntKind.u64) (Int.fdiv z302 (2 ^ min (Int.toNat 16) (IntKind.bits IntKind.u64))))) : Int))
   else
    if Int.fdiv (w64 z301) 65536 > 0 then
     9223372036854775807
    else
     if (Int.fdiv (w64 z301) 65536 == 0) = true then
      if (Int.fdiv (IntKind.wrap IntKind.u64 (↑(BitVec.toNat (BitVec.ofInt (IntKind.bits IntKind.u64) (IntKind.wrap IntKind.u64 (z301 * 2 ^ min (Int.toNat 48) (IntKind.bits IntKind.u64))) ||| BitVec.ofInt (IntKind.bits IntKind.u64) (Int.fdiv z302 (2 ^ min (Int.toNat 16) (IntKind.bits IntKind.u64))))) : Int)) 9223372036854775808 != 0) = true then
       9223372036854775807
      else
       w64 (IntKind.wrap IntKind.u64 (↑(BitVec.toNat (BitVec.ofInt (IntKind.bits IntKind.u64) (IntKind.wrap IntKind.u64 (z301 * 2 ^ min (Int.toNat 48) (IntKind.bits IntKind.u64))) ||| BitVec.ofInt (IntKind.bits IntKind.u64) (Int.fdiv z302 (2 ^ min (Int.toNat 16) (IntKind.bits IntKind.u64))))) : Int))
     else
      w64 (IntKind.wrap IntKind.u64 (↑(BitVec.toNat (BitVec.ofInt (IntKind.bits IntKind.u64) (IntKind.wrap IntKind.u64 (z301 * 2 ^ min (Int.toNat 48) (IntKind.bits IntKind.u64))) ||| BitVec.ofInt (IntKind.bits IntKind.u64) (Int.fdiv z302 (2 ^ min (Int.toNat 16) (IntKind.bits IntKind.u64))))) : Int))
theorem F80_ok (m : Nat) (z301 : Int) (z302 : Int) (z305 : Int) (h : F80 z301 z302 = z305) : call Try.prog X O0 18446744073709551616 (m + 1) 80 ([V.int IntKind.u64 z301, V.int IntKind.u64 z302]) ([]) = some (i64 z305, []) := by
  unfold F80 at h
  rcases ite_eq h with ⟨h0, h⟩ | ⟨h0, h⟩
  · skip
    subst h
    exact call_pathL (gs := [.a, .a, .a, .t, .t, .t, .t, .t, .a]) (notIn []) rfl rfl (by kernel_rfl) (And.intro (decide_eq_true h0) (And.intro (decide_eq_true h0) (And.intro (decide_eq_true h0) (And.intro (decide_eq_true h0) (And.intro (decide_eq_true h0) True.intro)))))
  · skip
    rcases ite_eq h with ⟨h1, h⟩ | ⟨h1, h⟩
    · skip
      rcases ite_eq h with ⟨h2, h⟩ | ⟨h2, h⟩
      · skip
        subst h
        exact call_pathL (gs := [.a, .a, .a, .f, .f, .f, .t, .t, .a, .t, .f, .t, .f, .t]) (notIn []) rfl rfl (by kernel_rfl) (And.intro (decide_eq_false h0) (And.intro (decide_eq_false h0) (And.intro (decide_eq_false h0) (And.intro h1 (And.intro h1 (And.intro h1 (And.intro (decide_eq_false h0) (And.intro h1 (And.intro (decide_eq_false h0) (And.intro h2 True.intro))))))))))
      · skip
        rcases ite_eq h with ⟨h3, h⟩ | ⟨h3, h⟩
        · skip
          subst h
          exact call_pathL (gs := [.a, .a, .a, .f, .f, .f, .t, .t, .a, .t, .f, .t, .f, .f, .t, .t, .t, .t, .t, .a]) (notIn []) rfl rfl (by kernel_rfl) (And.intro (decide_eq_false h0) (And.intro (decide_eq_false h0) (And.intro (decide_eq_false h0) (And.intro h1 (And.intro h1 (And.intro h1 (And.intro (decide_eq_false h0) (And.intro h1 (And.intro (decide_eq_false h0) (And.intro (Bool.eq_false_iff.mpr h2) (And.intro (decide_eq_true h3) (And.intro (decide_eq_true h3) (And.intro (decide_eq_true h3) (And.intro (decide_eq_true h3) (And.intro (decide_eq_true h3) True.intro)))))))))))))))
        · skip
          rcases ite_eq h with ⟨h4, h⟩ | ⟨h4, h⟩
          · skip
            rcases ite_eq h with ⟨h5, h⟩ | ⟨h5, h⟩
            · skip
              subst h
              exact call_pathL (gs := [.a, .a, .a, .f, .f, .f, .t, .t, .a, .t, .f, .t, .f, .f, .f, .f, .f, .t, .t, .a, .t, .f, .t, .f, .t]) (notIn []) rfl rfl (by kernel_rfl) (And.intro (decide_eq_false h0) (And.intro (decide_eq_false h0) (And.intro (decide_eq_false h0) (And.intro h1 (And.intro h1 (And.intro h1 (And.intro (decide_eq_false h0) (And.intro h1 (And.intro (decide_eq_false h0) (And.intro (Bool.eq_false_iff.mpr h2) (And.intro (decide_eq_false h3) (And.intro (decide_eq_false h3) (And.intro (decide_eq_false h3) (And.intro h4 (And.intro h4 (And.intro h4 (And.intro (decide_eq_false h3) (And.intro h4 (And.intro (decide_eq_false h3) (And.intro h5 True.intro))))))))))))))))))))
            · skip
              subst h
              exact call_pathL (gs := [.a, .a, .a, .f, .f, .f, .t, .t, .a, .t, .f, .t, .f, .f, .f, .f, .f, .t, .t, .a, .t, .f, .t, .f, .f]) (notIn []) rfl rfl (by kernel_rfl) (And.intro (decide_eq_false h0) (And.intro (decide_eq_false h0) (And.intro (decide_eq_false h0) (And.intro h1 (And.intro h1 (And.intro h1 (And.intro (decide_eq_false h0) (And.intro h1 (And.intro (decide_eq_false h0) (And.intro (Bool.eq_false_iff.mpr h2) (And.intro (decide_eq_false h3) (And.intro (decide_eq_false h3) (And.intro (decide_eq_false h3) (And.intro h4 (And.intro h4 (And.intro h4 (And.intro (decide_eq_false h3) (And.intro h4 (And.intro (decide_eq_false h3) (And.intro (Bool.eq_false_iff.mpr h5) True.intro))))))))))))))))))))
          · skip
            subst h
            exact call_pathL (gs := [.a, .a, .a, .f, .f, .f, .t, .t, .a, .t, .f, .t, .f, .f, .f, .f, .f, .f, .f, .f, .f, .f, .f, .a]) (notIn []) rfl rfl (by kernel_rfl) (And.intro (decide_eq_false h0) (And.intro (decide_eq_false h0) (And.intro (decide_eq_false h0) (And.intro h1 (And.intro h1 (And.intro h1 (And.intro (decide_eq_false h0) (And.intro h1 (And.intro (decide_eq_false h0) (And.intro (Bool.eq_false_iff.mpr h2) (And.intro (decide_eq_false h3) (And.intro (decide_eq_false h3) (And.intro (decide_eq_false h3) (And.intro (Bool.eq_false_iff.mpr h4) (And.intro (Bool.eq_false_iff.mpr h4) (And.intro (Bool.eq_false_iff.mpr h4) (And.intro (decide_eq_false h3) (And.intro (Bool.eq_false_iff.mpr h4) (And.intro (decide_eq_false h3) True.intro)))))))))))))))))))
    · skip
      rcases ite_eq h with ⟨h2, h⟩ | ⟨h2, h⟩
      · skip
        subst h
        exact call_pathL (gs := [.a, .a, .a, .f, .f, .f, .f, .f, .f, .f, .f, .f, .a, .t, .t, .t, .t, .t, .a]) (notIn []) rfl rfl (by kernel_rfl) (And.intro (decide_eq_false h0) (And.intro (decide_eq_false h0) (And.intro (decide_eq_false h0) (And.intro (Bool.eq_false_iff.mpr h1) (And.intro (Bool.eq_false_iff.mpr h1) (And.intro (Bool.eq_false_iff.mpr h1) (And.intro (decide_eq_false h0) (And.intro (Bool.eq_false_iff.mpr h1) (And.intro (decide_eq_false h0) (And.intro (decide_eq_true h2) (And.intro (decide_eq_true h2) (And.intro (decide_eq_true h2) (And.intro (decide_eq_true h2) (And.intro (decide_eq_true h2) True.intro))))))))))))))
      · skip
        rcases ite_eq h with ⟨h3, h⟩ | ⟨h3, h⟩
        · skip
          rcases ite_eq h with ⟨h4, h⟩ | ⟨h4, h⟩
          · skip
            subst h
            exact call_pathL (gs := [.a, .a, .a, .f, .f, .f, .f, .f, .f, .f, .f, .f, .a, .f, .f, .f, .t, .t, .a, .t, .f, .t, .f, .t]) (notIn []) rfl rfl (by kernel_rfl) (And.intro (decide_eq_false h0) (And.intro (decide_eq_false h0) (And.intro (decide_eq_false h0) (And.intro (Bool.eq_false_iff.mpr h1) (And.intro (Bool.eq_false_iff.mpr h1) (And.intro (Bool.eq_false_iff.mpr h1) (And.intro (decide_eq_false h0) (And.intro (Bool.eq_false_iff.mpr h1) (And.intro (decide_eq_false h0) (And.intro (decide_eq_false h2) (And.intro (decide_eq_false h2) (And.intro (decide_eq_false h2) (And.intro h3 (And.intro h3 (And.intro h3 (And.intro (decide_eq_false h2) (And.intro h3 (And.intro (decide_eq_false h2) (And.intro h4 True.intro)))))))))))))))))))
          · skip
            subst h
            exact call_pathL (gs := [.a, .a, .a, .f, .f, .f, .f, .f, .f, .f, .f, .f, .a, .f, .f, .f, .t, .t, .a, .t, .f, .t, .f, .f]) (notIn []) rfl rfl (by kernel_rfl) (And.intro (decide_eq_false h0) (And.intro (decide_eq_false h0) (And.intro (decide_eq_false h0) (And.intro (Bool.eq_false_iff.mpr h1) (And.intro (Bool.eq_false_iff.mpr h1) (And.intro (Bool.eq_false_iff.mpr h1) (And.intro (decide_eq_false h0) (And.intro (Bool.eq_false_iff.mpr h1) (And.intro (decide_eq_false h0) (And.intro (decide_eq_false h2) (And.intro (decide_eq_false h2) (And.intro (decide_eq_false h2) (And.intro h3 (And.intro h3 (And.intro h3 (And.intro (decide_eq_false h2) (And.intro h3 (And.intro (decide_eq_false h2) (And.intro (Bool.eq_false_iff.mpr h4) True.intro)))))))))))))))))))
        · skip
          subst h
          exact call_pathL (gs := [.a, .a, .a, .f, .f, .f, .f, .f, .f, .f, .f, .f, .a, .f, .f, .f, .f, .f, .f, .f, .f, .f, .a]) (notIn []) rfl rfl (by kernel_rfl) (And.intro (decide_eq_false h0) (And.intro (decide_eq_false h0) (And.intro (decide_eq_false h0) (And.intro (Bool.eq_false_iff.mpr h1) (And.intro (Bool.eq_false_iff.mpr h1) (And.intro (Bool.eq_false_iff.mpr h1) (And.intro (decide_eq_false h0) (And.intro (Bool.eq_false_iff.mpr h1) (And.intro (decide_eq_false h0) (And.intro (decide_eq_false h2) (And.intro (decide_eq_false h2) (And.intro (decide_eq_false h2) (And.intro (Bool.eq_false_iff.mpr h3) (And.intro (Bool.eq_false_iff.mpr h3) (And.intro (Bool.eq_false_iff.mpr h3) (And.intro (decide_eq_false h2) (And.intro (Bool.eq_false_iff.mpr h3) (And.intro (decide_eq_false h2) True.intro))))))))))))))))))
/-! ## 62 -/
inductive A62 where
  | a0 (z308 : Int)
@[reducible] def A62.out : A62 → V × Store
  | .a0 z308 => (i64 z308, [])
def F62 (z282 : Int) (z283 : Int) : Option A62 :=
  bnd (F56 (z282)) fun z285 =>
  bnd (F56 (z283)) fun z286 =>
  (F81 (z285) (z286)).bind fun r => match r with
  | .a0 z299 z300 =>
   bnd (F80 (z299) (z300)) fun z306 =>
   bnd (F56 (z306)) fun z307 =>
   some (A62.a0 (z307))
theorem F62_ok (m : Nat) (z282 : Int) (z283 : Int) (r : A62) (h : F62 z282 z283 = some r) : call Try.prog X O0 18446744073709551616 (m + 3) 62 ([i64 z282, i64 z283]) ([]) = some r.out := by
  unfold F62 at h
  obtain ⟨z285, h0, h⟩ := bnd_eq h
  obtain ⟨z286, h1, h⟩ := bnd_eq h
  obtain ⟨r2, h2, h⟩ := Option.bind_eq_some_iff.mp h
  have h2 := F81_ok (m + 0) (z285) (z286) r2 h2
  cases r2 with
  | a0 z299 z300 =>
    obtain ⟨z306, h3, h⟩ := bnd_eq h
    obtain ⟨z307, h4, h⟩ := bnd_eq h
    cases h
    exact call_pathL (gs := [.an (i64 z285) [], .an (i64 z286) [], .an (V.tup [V.int IntKind.u64 z299, V.int IntKind.u64 z300]) [], .an (i64 z306) [], .an (i64 z307) []]) (notIn []) rfl rfl (by kernel_rfl) (And.intro (F56_ok (m + 0) (z282) z285 h0) (And.intro (F56_ok (m + 0) (z283) z286 h1) (And.intro h2 (And.intro (F80_ok (m + 1) (z299) (z300) z306 h3) (And.intro (F56_ok (m + 0) (z306) z307 h4) True.intro)))))
/-! ## 61 -/
inductive A61 where
  | a0 (z311 : Int) (z312 : Int)
@[reducible] def A61.out : A61 → V × Store
  | .a0 z311 z312 => (V.tup [i64 z311, i64 z312], [])
def F61 (z274 : Int) (z275 : Int) (z276 : Int) (z277 : Int) (z278 : Int) (z279 : Int) (z280 : Int) : Option A61 :=
  (F62 (w64 (0 - z279)) (z280)).bind fun r => match r with
  | .a0 z309 =>
   (F62 (z278) (z280)).bind fun r => match r with
   | .a0 z310 =>
    some (A61.a0 (z309) (z310))
theorem F61_ok (m : Nat) (z274 : Int) (z275 : Int) (z276 : Int) (z277 : Int) (z278 : Int) (z279 : Int) (z280 : Int) (r : A61) (h : F61 z274 z275 z276 z277 z278 z279 z280 = some r) : call Try.prog X O0 18446744073709551616 (m + 4) 61 ([V.agg [i64 z274, i64 z275, i64 z276, i64 z277, i64 z278, i64 z279], i64 z280]) ([]) = some r.out := by
  unfold F61 at h
  obtain ⟨r0, h0, h⟩ := Option.bind_eq_some_iff.mp h
  have h0 := F62_ok (m + 0) (w64 (0 - z279)) (z280) r0 h0
  cases r0 with
  | a0 z309 =>
    obtain ⟨r1, h1, h⟩ := Option.bind_eq_some_iff.mp h
    have h1 := F62_ok (m + 0) (z278) (z280) r1 h1
    cases r1 with
    | a0 z310 =>
      cases h
      exact call_pathL (gs := [.a, .an (i64 z309) [], .a, .an (i64 z310) [], .ft [⟨0, [0], []⟩, ⟨1, [0], []⟩, ⟨2, [], []⟩, ⟨3, [], []⟩, ⟨4, [], []⟩, ⟨5, [0], []⟩, ⟨6, [0], []⟩, ⟨7, [], []⟩, ⟨8, [], []⟩, ⟨9, [], []⟩, ⟨10, [], []⟩]]) (notIn []) rfl rfl (by kernel_rfl) (And.intro h0 (And.intro h1 (And.intro (Eq.refl ([⟨0, [0], []⟩, ⟨1, [0], []⟩, ⟨2, [], []⟩, ⟨3, [], []⟩, ⟨4, [], []⟩, ⟨5, [0], []⟩, ⟨6, [0], []⟩, ⟨7, [], []⟩, ⟨8, [], []⟩, ⟨9, [], []⟩, ⟨10, [], []⟩] : List Foot)) True.intro)))
/-! ## 63 -/
inductive A63 where
  | a0 (z322 : Int) (z323 : Int)
@[reducible] def A63.out : A63 → V × Store
  | .a0 z322 z323 => (V.agg [i64 z322, i64 z323], [])
def F63 (z317 : Int) (z318 : Int) (z319 : Int) (z320 : Int) : Option A63 :=
  some (A63.a0 (w64 (z317 + z319)) (w64 (z318 + z320)))
theorem F63_ok (m : Nat) (z317 : Int) (z318 : Int) (z319 : Int) (z320 : Int) (r : A63) (h : F63 z317 z318 z319 z320 = some r) : call Try.prog X O0 18446744073709551616 (m + 1) 63 ([V.agg [i64 z317, i64 z318], i64 z319, i64 z320]) ([]) = some r.out := by
  unfold F63 at h
  cases h
  exact call_pathL (gs := [.a, .a, .a]) (notIn []) rfl rfl (by kernel_rfl) True.intro
/-! ## 41 -/
inductive A41 where
  | a0 (z348 : Int) (z349 : Int)
@[reducible] def A41.out : A41 → V × Store
  | .a0 z348 z349 => (V.agg [i64 z348, i64 z349], [])
def F41 (z343 : Int) (z344 : Int) : Option A41 :=
  bnd (F65 (z343)) fun z346 =>
  bnd (F65 (z344)) fun z347 =>
  some (A41.a0 (z346) (z347))
theorem F41_ok (m : Nat) (z343 : Int) (z344 : Int) (r : A41) (h : F41 z343 z344 = some r) : call Try.prog X O0 18446744073709551616 (m + 3) 41 ([i64 z343, i64 z344]) ([]) = some r.out := by
  unfold F41 at h
  obtain ⟨z346, h0, h⟩ := bnd_eq h
  obtain ⟨z347, h1, h⟩ := bnd_eq h
  cases h
  exact call_pathL (gs := [.an (i64 z346) [], .an (i64 z347) [], .a]) (notIn []) rfl rfl (by kernel_rfl) (And.intro (F65_ok (m + 0) (z343) z346 h0) (And.intro (F65_ok (m + 0) (z344) z347 h1) True.intro))
/-! ## 31 -/
inductive A31 where
  | a0 (l366 : List (List V))
@[reducible] def A31.out : A31 → V × Store
  | .a0 l366 => (V.hs 0 0 (List.length l366), [Ob.cells true true 2 l366])
def F31 (l366 : List (List V)) : Option A31 :=
  if List.length l366 * 16 ≤ 140737488355328 ∧ List.length l366 ≤ 140737488355328 then
   some (A31.a0 (l366))
  else
   none
theorem F31_ok (m : Nat) (l366 : List (List V)) (r : A31) (h : F31 l366 = some r) : call Try.prog X O0 18446744073709551616 (m + 1) 31 ([V.list 2 l366]) ([]) = some r.out := by
  unfold F31 at h
  rcases ite_eq h with ⟨h0, h⟩ | ⟨h0, h⟩
  · skip
    cases h
    exact call_oracle (cloneO_eq rfl l366 h0)
  · skip
    cases h
/-! ## 17 -/
noncomputable abbrev B17 : Code := (Try.f17.body).getD .skip
inductive R17_0 where
  | e0 (z396 : Int)
@[reducible] def s17_0_0 (l395 : List (List V)) (z396 : Int) (z397 : Int) (z398 : Int) (b399 : Bool) : S := { T := V.list 2 l395 :: U :: U :: i64 z396 :: U :: U :: U :: V.list 2 l395 :: i64 z397 :: i64 z398 :: vb b399 :: un 36 [], σ := [] }
def R17_0.St : R17_0 → VX × S → Prop
  | .e0 z396, p => ∃ l395 : List (List V), ∃ z397 : Int, ∃ z398 : Int, ∃ b399 : Bool, p = (VX.exit 0, s17_0_0 l395 z396 z397 z398 b399)
def L17_0 : Nat → List (List V) → Int → Int → Int → Option R17_0
  | 0, _, _, _, _ => none
  | n + 1, l378, z379, z380, z381 =>
    if z381 < z380 then
     if 0 ≤ z381 then
      ((l378[Int.toNat z381]?).bind W43.dec).bind fun e389 =>
      if (↑(List.length l378) : Int) = 0 then
       none -- none
      else
       if 0 ≤ Int.tmod (w64 (z381 + 1)) (↑(List.length l378) : Int) then
        ((l378[Int.toNat (Int.tmod (w64 (z381 + (1 : Int))) (↑(List.length l378) : Int))]?).bind W43.dec).bind fun e390 =>
        (F41 (e389.c0) (e389.c1)).bind fun r => match r with
        | .a0 z391 z392 =>
         (F41 (e390.c0) (e390.c1)).bind fun r => match r with
         | .a0 z393 z394 =>
          L17_0 n (l378) (w64 (z379 + w64 (w64 (z391 * z394) - w64 (z393 * z392)))) (z380) (w64 (z381 + 1))
       else
        none -- none
     else
      none -- none
    else
     some (R17_0.e0 (z379))
theorem L17_0_ok (m : Nat) : ∀ (n : Nat) (l378 : List (List V)) (z379 : Int) (z380 : Int) (z381 : Int) (r : R17_0), L17_0 n l378 z379 z380 z381 = some r → ∃ st, loopFrom Try.prog X (genO X (call Try.prog X O0 18446744073709551616 (m + 3))) 17 (0) 18446744073709551616 B17 0 n ({ T := V.list 2 l378 :: U :: U :: i64 z379 :: U :: U :: U :: V.list 2 l378 :: i64 z380 :: i64 z381 :: un 37 [], σ := [] }) = some st ∧ r.St st
  | 0, _, _, _, _, r, h => by cases h
  | n + 1, l378, z379, z380, z381, r, h => by
    rw [L17_0] at h
    rcases ite_eq h with ⟨h0, h⟩ | ⟨h0, h⟩
    · skip
      rcases ite_eq h with ⟨h1, h⟩ | ⟨h1, h⟩
      · skip
        obtain ⟨e389, h2, h⟩ := Option.bind_eq_some_iff.mp h
        rcases ite_eq h with ⟨h3, h⟩ | ⟨h3, h⟩
        · skip
          cases h
        · skip
          rcases ite_eq h with ⟨h4, h⟩ | ⟨h4, h⟩
          · skip
            obtain ⟨e390, h5, h⟩ := Option.bind_eq_some_iff.mp h
            obtain ⟨r6, h6, h⟩ := Option.bind_eq_some_iff.mp h
            have h6 := F41_ok (m + 0) (e389.c0) (e389.c1) r6 h6
            cases r6 with
            | a0 z391 z392 =>
              obtain ⟨r7, h7, h⟩ := Option.bind_eq_some_iff.mp h
              have h7 := F41_ok (m + 0) (e390.c0) (e390.c1) r7 h7
              cases r7 with
              | a0 z393 z394 =>
                obtain ⟨st, hs, hr⟩ := L17_0_ok m n (l378) (w64 (z379 + w64 (w64 (z391 * z394) - w64 (z393 * z392)))) (z380) (w64 (z381 + 1)) r h
                exact ⟨st, (round_on (gs := [.t, .t, .el (W43.cells e389), .a, .f, .t, .el (W43.cells e390), .a, .a, .a, .an (V.agg [i64 z391, i64 z392]) [], .a, .a, .an (V.agg [i64 z393, i64 z394]) [], .a, .a, .ft [⟨0, [0], []⟩, ⟨1, [0], []⟩, ⟨2, [0], []⟩, ⟨3, [0], []⟩, ⟨4, [], []⟩, ⟨5, [1], []⟩, ⟨6, [1], []⟩, ⟨7, [1], []⟩, ⟨8, [1], []⟩, ⟨9, [], []⟩, ⟨10, [0], [0]⟩, ⟨11, [1], [1]⟩], .a, .a, .a, .a]) (notIn []) (by kernel_rfl) (And.intro (decide_eq_true h0) (And.intro (decide_eq_true h1) (And.intro (W43.dec_ok h2) (And.intro (decide_eq_false h3) (And.intro (decide_eq_true h4) (And.intro (W43.dec_ok h5) (And.intro h6 (And.intro h7 (And.intro (Eq.refl ([⟨0, [0], []⟩, ⟨1, [0], []⟩, ⟨2, [0], []⟩, ⟨3, [0], []⟩, ⟨4, [], []⟩, ⟨5, [1], []⟩, ⟨6, [1], []⟩, ⟨7, [1], []⟩, ⟨8, [1], []⟩, ⟨9, [], []⟩, ⟨10, [0], [0]⟩, ⟨11, [1], [1]⟩] : List Foot)) True.intro))))))))) n).trans hs, hr⟩
          · skip
            cases h
      · skip
        cases h
    · skip
      cases h
      exact ⟨_, round_out (gs := [.f]) (notIn []) (by kernel_rfl) rfl (And.intro (decide_eq_false h0) True.intro) n, l378, z380, z381, decide (z381 < z380), rfl⟩
inductive A17 where
  | a0 (z405 : Int)
@[reducible] def A17.out : A17 → V × Store
  | .a0 z405 => (i64 z405, [])
def F17 (l368 : List (List V)) : Option A17 :=
  (L17_0 18446744073709551616 (l368) (0) ((↑(List.length l368) : Int)) (0)).bind fun r => match r with
  | .e0 z401 =>
   some (A17.a0 (z401))
theorem F17_ok (m : Nat) (l368 : List (List V)) (r : A17) (h : F17 l368 = some r) : call Try.prog X O0 18446744073709551616 (m + 4) 17 ([V.list 2 l368]) ([]) = some r.out := by
  unfold F17 at h
  obtain ⟨r0, h0, h⟩ := Option.bind_eq_some_iff.mp h
  obtain ⟨st0, h0, hr0⟩ := L17_0_ok m 18446744073709551616 (l368) (0) ((↑(List.length l368) : Int)) (0) r0 h0
  have h0 : loopRun Try.prog X (genO X (call Try.prog X O0 18446744073709551616 (m + 3))) 17 (0) 18446744073709551616 B17 0 ({ T := V.list 2 l368 :: U :: i64 0 :: i64 0 :: U :: U :: U :: V.list 2 l368 :: i64 (↑(List.length l368) : Int) :: i64 0 :: un 37 [], σ := [] }) = some st0 := by
    rw [loopRun_from, show pre X 17 (0) 0 ({ T := V.list 2 l368 :: U :: i64 0 :: i64 0 :: U :: U :: U :: V.list 2 l368 :: i64 (↑(List.length l368) : Int) :: i64 0 :: un 37 [], σ := [] }) = { T := V.list 2 l368 :: U :: U :: i64 0 :: U :: U :: U :: V.list 2 l368 :: i64 (↑(List.length l368) : Int) :: i64 0 :: un 37 [], σ := [] } by kernel_rfl]
    exact h0
  cases r0 with
  | e0 z401 =>
    obtain ⟨l400, z402, z403, b404, rfl⟩ := hr0
    cases h
    exact call_pathL (gs := [.lp (VX.exit 0) (s17_0_0 l400 z401 z402 z403 b404)]) (notIn []) rfl rfl (by kernel_rfl) (And.intro h0 True.intro)
/-! ## 42 -/
noncomputable abbrev B42 : Code := (Try.f42.body).getD .skip
inductive R42_0 where
  | e0 (l436 : List (List V))
@[reducible] def s42_0_0 (k432 : Nat) (z433 : Int) (z434 : Int) (b435 : Bool) (l436 : List (List V)) : S := { T := V.hs 0 0 k432 :: U :: i64 z433 :: i64 z434 :: U :: U :: U :: i64 z433 :: i64 z434 :: vb b435 :: un 18 [], σ := [Ob.cells true true 2 l436] }
def R42_0.St : R42_0 → VX × S → Prop
  | .e0 l436, p => ∃ k432 : Nat, ∃ z433 : Int, ∃ z434 : Int, ∃ b435 : Bool, p = (VX.exit 0, s42_0_0 k432 z433 z434 b435 l436)
def L42_0 : Nat → Nat → Int → Int → List (List V) → Option R42_0
  | 0, _, _, _, _ => none
  | n + 1, k416, z417, z418, l419 =>
    if z417 < z418 then
     if 0 ≤ z418 ∧ z418 < (↑k416 : Int) then
      ((l419[(0 : Nat) + Int.toNat z418]?).bind W43.dec).bind fun e429 =>
      if 0 ≤ z417 ∧ z417 < (↑k416 : Int) then
       ((l419[(0 : Nat) + Int.toNat z417]?).bind W43.dec).bind fun e430 =>
       (((List.set l419 ((0 : Nat) + Int.toNat z417) [i64 e429.c0, i64 e429.c1])[(0 : Nat) + Int.toNat z418]?).bind W43.dec).bind fun e431 =>
       L42_0 n (k416) (w64 (z417 + 1)) (w64 (z418 - 1)) (List.set (List.set l419 (0 + Int.toNat z417) [i64 e429.c0, i64 e429.c1]) (0 + Int.toNat z418) [i64 e430.c0, i64 e430.c1])
      else
       none -- none
     else
      none -- none
    else
     some (R42_0.e0 (l419))
theorem L42_0_ok (m : Nat) : ∀ (n : Nat) (k416 : Nat) (z417 : Int) (z418 : Int) (l419 : List (List V)) (r : R42_0), L42_0 n k416 z417 z418 l419 = some r → ∃ st, loopFrom Try.prog X (genO X (call Try.prog X O0 18446744073709551616 (m + 0))) 42 (1) 18446744073709551616 B42 0 n ({ T := V.hs 0 0 k416 :: U :: i64 z417 :: i64 z418 :: un 24 [], σ := [Ob.cells true true 2 l419] }) = some st ∧ r.St st
  | 0, _, _, _, _, r, h => by cases h
  | n + 1, k416, z417, z418, l419, r, h => by
    rw [L42_0] at h
    rcases ite_eq h with ⟨h0, h⟩ | ⟨h0, h⟩
    · skip
      rcases ite_eq h with ⟨h1, h⟩ | ⟨h1, h⟩
      · skip
        obtain ⟨e429, h2, h⟩ := Option.bind_eq_some_iff.mp h
        rcases ite_eq h with ⟨h3, h⟩ | ⟨h3, h⟩
        · skip
          obtain ⟨e430, h4, h⟩ := Option.bind_eq_some_iff.mp h
          obtain ⟨e431, h5, h⟩ := Option.bind_eq_some_iff.mp h
          obtain ⟨st, hs, hr⟩ := L42_0_ok m n (k416) (w64 (z417 + 1)) (w64 (z418 - 1)) (List.set (List.set l419 (0 + Int.toNat z417) [i64 e429.c0, i64 e429.c1]) (0 + Int.toNat z418) [i64 e430.c0, i64 e430.c1]) r h
          exact ⟨st, (round_on (gs := [.t, .t, .el (W43.cells e429), .t, .el (W43.cells e430), .t, .el (W43.cells e430), .t, .el (W43.cells e431), .ft [⟨0, [], []⟩, ⟨1, [], []⟩, ⟨2, [], []⟩, ⟨3, [], []⟩, ⟨4, [], []⟩, ⟨5, [], []⟩, ⟨6, [0], []⟩, ⟨7, [0], []⟩, ⟨8, [], []⟩, ⟨9, [], []⟩, ⟨10, [0], []⟩, ⟨11, [0], []⟩, ⟨12, [0], []⟩, ⟨13, [0], [0]⟩, ⟨14, [0], []⟩, ⟨15, [0], [0]⟩]]) (notIn []) (by kernel_rfl) (And.intro (decide_eq_true h0) (And.intro (decide_eq_true h1) (And.intro (W43.dec_ok h2) (And.intro (decide_eq_true h3) (And.intro (W43.dec_ok h4) (And.intro (decide_eq_true h3) (And.intro (W43.dec_ok h4) (And.intro (decide_eq_true h1) (And.intro (W43.dec_ok h5) (And.intro (Eq.refl ([⟨0, [], []⟩, ⟨1, [], []⟩, ⟨2, [], []⟩, ⟨3, [], []⟩, ⟨4, [], []⟩, ⟨5, [], []⟩, ⟨6, [0], []⟩, ⟨7, [0], []⟩, ⟨8, [], []⟩, ⟨9, [], []⟩, ⟨10, [0], []⟩, ⟨11, [0], []⟩, ⟨12, [0], []⟩, ⟨13, [0], [0]⟩, ⟨14, [0], []⟩, ⟨15, [0], [0]⟩] : List Foot)) True.intro)))))))))) n).trans hs, hr⟩
        · skip
          cases h
      · skip
        cases h
    · skip
      cases h
      exact ⟨_, round_out (gs := [.f]) (notIn []) (by kernel_rfl) rfl (And.intro (decide_eq_false h0) True.intro) n, k416, z417, z418, decide (z417 < z418), rfl⟩
inductive A42 where
  | a0 (l442 : List (List V))
@[reducible] def A42.out : A42 → V × Store
  | .a0 l442 => (E, [Ob.cells true true 2 l442])
def F42 (k407 : Nat) (l408 : List (List V)) : Option A42 :=
  (L42_0 18446744073709551616 (k407) (0) (w64 ((↑k407 : Int) - 1)) (l408)).bind fun r => match r with
  | .e0 l441 =>
   some (A42.a0 (l441))
theorem F42_ok (m : Nat) (k407 : Nat) (l408 : List (List V)) (r : A42) (h : F42 k407 l408 = some r) : call Try.prog X O0 18446744073709551616 (m + 1) 42 ([V.hs 0 0 k407]) ([Ob.cells true true 2 l408]) = some r.out := by
  unfold F42 at h
  obtain ⟨r0, h0, h⟩ := Option.bind_eq_some_iff.mp h
  obtain ⟨st0, h0, hr0⟩ := L42_0_ok m 18446744073709551616 (k407) (0) (w64 ((↑k407 : Int) - 1)) (l408) r0 h0
  have h0 : loopRun Try.prog X (genO X (call Try.prog X O0 18446744073709551616 (m + 0))) 42 (1) 18446744073709551616 B42 0 ({ T := V.hs 0 0 k407 :: U :: i64 0 :: i64 (w64 ((↑k407 : Int) - 1)) :: V.hs 0 0 k407 :: i64 (↑k407 : Int) :: i64 (w64 ((↑k407 : Int) - 1)) :: un 21 [], σ := [Ob.cells true true 2 l408] }) = some st0 := by
    rw [loopRun_from, show pre X 42 (1) 0 ({ T := V.hs 0 0 k407 :: U :: i64 0 :: i64 (w64 ((↑k407 : Int) - 1)) :: V.hs 0 0 k407 :: i64 (↑k407 : Int) :: i64 (w64 ((↑k407 : Int) - 1)) :: un 21 [], σ := [Ob.cells true true 2 l408] }) = { T := V.hs 0 0 k407 :: U :: i64 0 :: i64 (w64 ((↑k407 : Int) - 1)) :: un 24 [], σ := [Ob.cells true true 2 l408] } by kernel_rfl]
    exact h0
  cases r0 with
  | e0 l441 =>
    obtain ⟨k437, z438, z439, b440, rfl⟩ := hr0
    cases h
    exact call_pathL (gs := [.lp (VX.exit 0) (s42_0_0 k437 z438 z439 b440 l441)]) (notIn []) rfl rfl (by kernel_rfl) (And.intro h0 True.intro)
/-! ## 18 -/
inductive A18 where
  | a0 (k444 : Nat) (l445 : List (List V))
@[reducible] def A18.out : A18 → V × Store
  | .a0 k444 l445 => (V.hs 0 0 k444, [Ob.cells true true 2 l445])
def F18 (l364 : List (List V)) : Option A18 :=
  (F31 (l364)).bind fun r => match r with
  | .a0 l367 =>
   (F17 (l364)).bind fun r => match r with
   | .a0 z406 =>
    if z406 < 0 then
     (F42 (List.length l367) (l367)).bind fun r => match r with
     | .a0 l443 =>
      some (A18.a0 (List.length l367) (l443))
    else
     some (A18.a0 (List.length l367) (l367))
theorem F18_ok (m : Nat) (l364 : List (List V)) (r : A18) (h : F18 l364 = some r) : call Try.prog X O0 18446744073709551616 (m + 5) 18 ([V.list 2 l364]) ([]) = some r.out := by
  unfold F18 at h
  obtain ⟨r0, h0, h⟩ := Option.bind_eq_some_iff.mp h
  have h0 := F31_ok (m + 3) (l364) r0 h0
  cases r0 with
  | a0 l367 =>
    obtain ⟨r1, h1, h⟩ := Option.bind_eq_some_iff.mp h
    have h1 := F17_ok (m + 0) (l364) r1 h1
    cases r1 with
    | a0 z406 =>
      rcases ite_eq h with ⟨h2, h⟩ | ⟨h2, h⟩
      · skip
        obtain ⟨r3, h3, h⟩ := Option.bind_eq_some_iff.mp h
        have h3 := F42_ok (m + 3) (List.length l367) (l367) r3 h3
        cases r3 with
        | a0 l443 =>
          cases h
          exact call_pathL (gs := [.an (V.hs 0 0 (List.length l367)) [Ob.cells true true 2 l367], .an (i64 z406) [], .t, .an (E) [Ob.cells true true 2 l443]]) (notIn []) rfl rfl (by kernel_rfl) (And.intro h0 (And.intro h1 (And.intro (decide_eq_true h2) (And.intro h3 True.intro))))
      · skip
        cases h
        exact call_pathL (gs := [.an (V.hs 0 0 (List.length l367)) [Ob.cells true true 2 l367], .an (i64 z406) [], .f]) (notIn []) rfl rfl (by kernel_rfl) (And.intro h0 (And.intro h1 (And.intro (decide_eq_false h2) True.intro)))
/-! ## 64 -/
noncomputable abbrev B64 : Code := (Try.f64.body).getD .skip
inductive R64_0 where
  | e0 (k455 : Nat) (l459 : List (List V))
@[reducible] def s64_0_0 (k455 : Nat) (z456 : Int) (z457 : Int) (b458 : Bool) (l459 : List (List V)) : S := { T := V.hs 0 0 k455 :: U :: V.ptr 1 0 0 :: U :: U :: i64 z456 :: i64 z457 :: vb b458 :: un 19 [], σ := [Ob.cells true true 2 l459, Ob.cells true false 2 [[vb false, V.hs 2 0 0]], Ob.cells true true 2 []] }
def R64_0.St : R64_0 → VX × S → Prop
  | .e0 k455 l459, p => ∃ z456 : Int, ∃ z457 : Int, ∃ b458 : Bool, p = (VX.exit 0, s64_0_0 k455 z456 z457 b458 l459)
def L64_0 : Nat → Nat → Int → Int → List (List V) → Option R64_0
  | 0, _, _, _, _ => none
  | n + 1, k352, z353, z354, l355 =>
    if z354 < z353 then
     if 0 ≤ z354 ∧ z354 < (↑k352 : Int) then
      ((l355[(0 : Nat) + Int.toNat z354]?).bind W43.dec).bind fun e452 =>
      (F41 (e452.c0) (e452.c1)).bind fun r => match r with
      | .a0 z453 z454 =>
       L64_0 n (k352) (z353) (w64 (z354 + 1)) (List.set l355 (0 + Int.toNat z354) [i64 z453, i64 z454])
     else
      none -- none
    else
     some (R64_0.e0 (k352) (l355))
theorem L64_0_ok (m : Nat) : ∀ (n : Nat) (k352 : Nat) (z353 : Int) (z354 : Int) (l355 : List (List V)) (r : R64_0), L64_0 n k352 z353 z354 l355 = some r → ∃ st, loopFrom Try.prog X (genO X (call Try.prog X O0 18446744073709551616 (m + 5))) 64 (1) 18446744073709551616 B64 0 n ({ T := V.hs 0 0 k352 :: U :: V.ptr 1 0 0 :: U :: U :: i64 z353 :: i64 z354 :: un 20 [], σ := [Ob.cells true true 2 l355, Ob.cells true false 2 [[vb false, V.hs 2 0 0]], Ob.cells true true 2 []] }) = some st ∧ r.St st
  | 0, _, _, _, _, r, h => by cases h
  | n + 1, k352, z353, z354, l355, r, h => by
    rw [L64_0] at h
    rcases ite_eq h with ⟨h0, h⟩ | ⟨h0, h⟩
    · skip
      rcases ite_eq h with ⟨h1, h⟩ | ⟨h1, h⟩
      · skip
        obtain ⟨e452, h2, h⟩ := Option.bind_eq_some_iff.mp h
        obtain ⟨r3, h3, h⟩ := Option.bind_eq_some_iff.mp h
        have h3 := F41_ok (m + 2) (e452.c0) (e452.c1) r3 h3
        cases r3 with
        | a0 z453 z454 =>
          obtain ⟨st, hs, hr⟩ := L64_0_ok m n (k352) (z353) (w64 (z354 + 1)) (List.set l355 (0 + Int.toNat z354) [i64 z453, i64 z454]) r h
          exact ⟨st, (round_on (gs := [.t, .t, .el (W43.cells e452), .t, .el (W43.cells e452), .an (V.agg [i64 z453, i64 z454]) [], .t, .el (W43.cells e452), .ft [⟨0, [], []⟩, ⟨1, [], []⟩, ⟨2, [], []⟩, ⟨3, [], []⟩, ⟨4, [0], []⟩, ⟨5, [0], []⟩, ⟨6, [0], []⟩, ⟨7, [], []⟩, ⟨8, [], []⟩, ⟨9, [0], []⟩, ⟨10, [0], []⟩, ⟨11, [0], []⟩, ⟨12, [], []⟩, ⟨13, [0], []⟩, ⟨14, [0], [0]⟩]]) (notIn []) (by kernel_rfl) (And.intro (decide_eq_true h0) (And.intro (decide_eq_true h1) (And.intro (W43.dec_ok h2) (And.intro (decide_eq_true h1) (And.intro (W43.dec_ok h2) (And.intro h3 (And.intro (decide_eq_true h1) (And.intro (W43.dec_ok h2) (And.intro (Eq.refl ([⟨0, [], []⟩, ⟨1, [], []⟩, ⟨2, [], []⟩, ⟨3, [], []⟩, ⟨4, [0], []⟩, ⟨5, [0], []⟩, ⟨6, [0], []⟩, ⟨7, [], []⟩, ⟨8, [], []⟩, ⟨9, [0], []⟩, ⟨10, [0], []⟩, ⟨11, [0], []⟩, ⟨12, [], []⟩, ⟨13, [0], []⟩, ⟨14, [0], [0]⟩] : List Foot)) True.intro))))))))) n).trans hs, hr⟩
      · skip
        cases h
    · skip
      cases h
      exact ⟨_, round_out (gs := [.f]) (notIn []) (by kernel_rfl) rfl (And.intro (decide_eq_false h0) True.intro) n, z353, z354, decide (z354 < z353), rfl⟩
inductive A64 where
  | a0 (b467 : Bool) (k468 : Nat) (l469 : List (List V)) (l470 : List (List V))
@[reducible] def A64.out : A64 → V × Store
  | .a0 b467 k468 l469 l470 => (V.agg [vb b467, V.hs 1 0 k468], [Ob.cells false true 2 l469, Ob.cells true true 2 l470])
def F64 (k336 : Nat) (l337 : List (List V)) : Option A64 :=
  (L64_0 18446744073709551616 (k336) ((↑k336 : Int)) (0) (l337)).bind fun r => match r with
  | .e0 k460 l464 =>
   if 0 + k460 ≤ List.length l464 then
    (F18 (List.take k460 l464)).bind fun r => match r with
    | .a0 k465 l466 =>
     some (A64.a0 (true) (k465) (l464) (l466))
   else
    none -- none
theorem F64_ok (m : Nat) (k336 : Nat) (l337 : List (List V)) (r : A64) (h : F64 k336 l337 = some r) : call Try.prog X O0 18446744073709551616 (m + 6) 64 ([V.hs 0 0 k336]) ([Ob.cells true true 2 l337]) = some r.out := by
  unfold F64 at h
  obtain ⟨r0, h0, h⟩ := Option.bind_eq_some_iff.mp h
  obtain ⟨st0, h0, hr0⟩ := L64_0_ok m 18446744073709551616 (k336) ((↑k336 : Int)) (0) (l337) r0 h0
  have h0 : loopRun Try.prog X (genO X (call Try.prog X O0 18446744073709551616 (m + 5))) 64 (1) 18446744073709551616 B64 0 ({ T := V.hs 0 0 k336 :: U :: V.ptr 1 0 0 :: U :: V.hs 0 0 k336 :: i64 (↑k336 : Int) :: i64 0 :: un 20 [], σ := [Ob.cells true true 2 l337, Ob.cells true false 2 [[vb false, V.nilS]]] }) = some st0 := by
    rw [loopRun_from, show pre X 64 (1) 0 ({ T := V.hs 0 0 k336 :: U :: V.ptr 1 0 0 :: U :: V.hs 0 0 k336 :: i64 (↑k336 : Int) :: i64 0 :: un 20 [], σ := [Ob.cells true true 2 l337, Ob.cells true false 2 [[vb false, V.nilS]]] }) = { T := V.hs 0 0 k336 :: U :: V.ptr 1 0 0 :: U :: U :: i64 (↑k336 : Int) :: i64 0 :: un 20 [], σ := [Ob.cells true true 2 l337, Ob.cells true false 2 [[vb false, V.hs 2 0 0]], Ob.cells true true 2 []] } by kernel_rfl]
    exact h0
  cases r0 with
  | e0 k460 l464 =>
    obtain ⟨z461, z462, b463, rfl⟩ := hr0
    rcases ite_eq h with ⟨h1, h⟩ | ⟨h1, h⟩
    · skip
      obtain ⟨r2, h2, h⟩ := Option.bind_eq_some_iff.mp h
      have h2 := F18_ok (m + 0) (List.take k460 l464) r2 h2
      cases r2 with
      | a0 k465 l466 =>
        cases h
        exact call_pathL (gs := [.lp (VX.exit 0) (s64_0_0 k460 z461 z462 b463 l464), .t, .an (V.hs 0 0 k465) [Ob.cells true true 2 l466], .a]) (notIn []) rfl rfl (by kernel_rfl) (And.intro h0 (And.intro (decide_eq_true h1) (And.intro h2 True.intro)))
    · skip
      cases h
/-! ## 39 -/
inductive A39 where
  | a0 (b475 : Bool) (k476 : Nat) (l477 : List (List V))
@[reducible] def A39.out : A39 → V × Store
  | .a0 b475 k476 l477 => (V.agg [vb b475, V.hs 0 0 k476], [Ob.cells true true 2 l477])
def F39 (z264 : Int) (z265 : Int) (z266 : Int) (z267 : Int) (z268 : Int) (z269 : Int) (z270 : Int) (b271 : Bool) (b272 : Bool) : Option A39 :=
  (F61 (z264) (z265) (z266) (z267) (z268) (z269) (z270)).bind fun r => match r with
  | .a0 z313 z314 =>
   (F62 (z268) (z270)).bind fun r => match r with
   | .a0 z315 =>
    (F62 (z269) (z270)).bind fun r => match r with
    | .a0 z316 =>
     if (b271) = true then
      (F63 (z264) (z265) (w64 (0 - z315)) (w64 (0 - z316))).bind fun r => match r with
      | .a0 z324 z325 =>
       if (b272) = true then
        (F63 (z266) (z267) (z315) (z316)).bind fun r => match r with
        | .a0 z326 z327 =>
         (F63 (z324) (z325) (z313) (z314)).bind fun r => match r with
         | .a0 z328 z329 =>
          (F63 (z326) (z327) (z313) (z314)).bind fun r => match r with
          | .a0 z330 z331 =>
           (F63 (z326) (z327) (w64 (0 - z313)) (w64 (0 - z314))).bind fun r => match r with
           | .a0 z332 z333 =>
            (F63 (z324) (z325) (w64 (0 - z313)) (w64 (0 - z314))).bind fun r => match r with
            | .a0 z334 z335 =>
             (F64 (4) ([[i64 z328, i64 z329], [i64 z330, i64 z331], [i64 z332, i64 z333], [i64 z334, i64 z335]])).bind fun r => match r with
             | .a0 b471 k472 l473 l474 =>
              some (A39.a0 (b471) (k472) (l474))
       else
        (F63 (z324) (z325) (z313) (z314)).bind fun r => match r with
        | .a0 z478 z479 =>
         (F63 (z266) (z267) (z313) (z314)).bind fun r => match r with
         | .a0 z480 z481 =>
          (F63 (z266) (z267) (w64 (0 - z313)) (w64 (0 - z314))).bind fun r => match r with
          | .a0 z482 z483 =>
           (F63 (z324) (z325) (w64 (0 - z313)) (w64 (0 - z314))).bind fun r => match r with
           | .a0 z484 z485 =>
            (F64 (4) ([[i64 z478, i64 z479], [i64 z480, i64 z481], [i64 z482, i64 z483], [i64 z484, i64 z485]])).bind fun r => match r with
            | .a0 b486 k487 l488 l489 =>
             some (A39.a0 (b486) (k487) (l489))
     else
      if (b272) = true then
       (F63 (z266) (z267) (z315) (z316)).bind fun r => match r with
       | .a0 z490 z491 =>
        (F63 (z264) (z265) (z313) (z314)).bind fun r => match r with
        | .a0 z492 z493 =>
         (F63 (z490) (z491) (z313) (z314)).bind fun r => match r with
         | .a0 z494 z495 =>
          (F63 (z490) (z491) (w64 (0 - z313)) (w64 (0 - z314))).bind fun r => match r with
          | .a0 z496 z497 =>
           (F63 (z264) (z265) (w64 (0 - z313)) (w64 (0 - z314))).bind fun r => match r with
           | .a0 z498 z499 =>
            (F64 (4) ([[i64 z492, i64 z493], [i64 z494, i64 z495], [i64 z496, i64 z497], [i64 z498, i64 z499]])).bind fun r => match r with
            | .a0 b500 k501 l502 l503 =>
             some (A39.a0 (b500) (k501) (l503))
      else
       (F63 (z264) (z265) (z313) (z314)).bind fun r => match r with
       | .a0 z504 z505 =>
        (F63 (z266) (z267) (z313) (z314)).bind fun r => match r with
        | .a0 z506 z507 =>
         (F63 (z266) (z267) (w64 (0 - z313)) (w64 (0 - z314))).bind fun r => match r with
         | .a0 z508 z509 =>
          (F63 (z264) (z265) (w64 (0 - z313)) (w64 (0 - z314))).bind fun r => match r with
          | .a0 z510 z511 =>
           (F64 (4) ([[i64 z504, i64 z505], [i64 z506, i64 z507], [i64 z508, i64 z509], [i64 z510, i64 z511]])).bind fun r => match r with
           | .a0 b512 k513 l514 l515 =>
            some (A39.a0 (b512) (k513) (l515))
theorem F39_ok (m : Nat) (z264 : Int) (z265 : Int) (z266 : Int) (z267 : Int) (z268 : Int) (z269 : Int) (z270 : Int) (b271 : Bool) (b272 : Bool) (r : A39) (h : F39 z264 z265 z266 z267 z268 z269 z270 b271 b272 = some r) : call Try.prog X O0 18446744073709551616 (m + 7) 39 ([V.agg [i64 z264, i64 z265, i64 z266, i64 z267, i64 z268, i64 z269], i64 z270, vb b271, vb b272]) ([]) = some r.out := by
  unfold F39 at h
  obtain ⟨r0, h0, h⟩ := Option.bind_eq_some_iff.mp h
  have h0 := F61_ok (m + 2) (z264) (z265) (z266) (z267) (z268) (z269) (z270) r0 h0
  cases r0 with
  | a0 z313 z314 =>
    obtain ⟨r1, h1, h⟩ := Option.bind_eq_some_iff.mp h
    have h1 := F62_ok (m + 3) (z268) (z270) r1 h1
    cases r1 with
    | a0 z315 =>
      obtain ⟨r2, h2, h⟩ := Option.bind_eq_some_iff.mp h
      have h2 := F62_ok (m + 3) (z269) (z270) r2 h2
      cases r2 with
      | a0 z316 =>
        rcases ite_eq h with ⟨h3, h⟩ | ⟨h3, h⟩
        · skip
          obtain ⟨r4, h4, h⟩ := Option.bind_eq_some_iff.mp h
          have h4 := F63_ok (m + 5) (z264) (z265) (w64 (0 - z315)) (w64 (0 - z316)) r4 h4
          cases r4 with
          | a0 z324 z325 =>
            rcases ite_eq h with ⟨h5, h⟩ | ⟨h5, h⟩
            · skip
              obtain ⟨r6, h6, h⟩ := Option.bind_eq_some_iff.mp h
              have h6 := F63_ok (m + 5) (z266) (z267) (z315) (z316) r6 h6
              cases r6 with
              | a0 z326 z327 =>
                obtain ⟨r7, h7, h⟩ := Option.bind_eq_some_iff.mp h
                have h7 := F63_ok (m + 5) (z324) (z325) (z313) (z314) r7 h7
                cases r7 with
                | a0 z328 z329 =>
                  obtain ⟨r8, h8, h⟩ := Option.bind_eq_some_iff.mp h
                  have h8 := F63_ok (m + 5) (z326) (z327) (z313) (z314) r8 h8
                  cases r8 with
                  | a0 z330 z331 =>
                    obtain ⟨r9, h9, h⟩ := Option.bind_eq_some_iff.mp h
                    have h9 := F63_ok (m + 5) (z326) (z327) (w64 (0 - z313)) (w64 (0 - z314)) r9 h9
                    cases r9 with
                    | a0 z332 z333 =>
                      obtain ⟨r10, h10, h⟩ := Option.bind_eq_some_iff.mp h
                      have h10 := F63_ok (m + 5) (z324) (z325) (w64 (0 - z313)) (w64 (0 - z314)) r10 h10
                      cases r10 with
                      | a0 z334 z335 =>
                        obtain ⟨r11, h11, h⟩ := Option.bind_eq_some_iff.mp h
                        have h11 := F64_ok (m + 0) (4) ([[i64 z328, i64 z329], [i64 z330, i64 z331], [i64 z332, i64 z333], [i64 z334, i64 z335]]) r11 h11
                        cases r11 with
                        | a0 b471 k472 l473 l474 =>
                          cases h
                          exact call_pathL (gs := [.a, .an (V.tup [i64 z313, i64 z314]) [], .a, .an (i64 z315) [], .a, .an (i64 z316) [], .ft [⟨0, [0], []⟩, ⟨1, [0], []⟩, ⟨2, [], []⟩, ⟨3, [], []⟩, ⟨4, [0], []⟩, ⟨5, [0], []⟩, ⟨6, [], []⟩, ⟨7, [], []⟩, ⟨8, [], []⟩, ⟨9, [], []⟩], .a, .a, .a, .a, .ft [⟨0, [0], []⟩, ⟨1, [0], []⟩, ⟨2, [0], []⟩, ⟨3, [0], []⟩, ⟨4, [5], [5]⟩, ⟨5, [6], [6]⟩, ⟨6, [5], [5]⟩, ⟨7, [6], [6]⟩], .t, .a, .an (V.agg [i64 z324, i64 z325]) [], .a, .t, .a, .an (V.agg [i64 z326, i64 z327]) [], .a, .a, .an (V.agg [i64 z328, i64 z329]) [], .a, .an (V.agg [i64 z330, i64 z331]) [], .a, .an (V.agg [i64 z332, i64 z333]) [], .a, .an (V.agg [i64 z334, i64 z335]) [], .an (V.agg [vb b471, V.hs 1 0 k472]) [Ob.cells false true 2 l473, Ob.cells true true 2 l474], .a, .ft [⟨0, [5], []⟩, ⟨1, [], []⟩, ⟨2, [], []⟩, ⟨3, [], []⟩, ⟨4, [6], []⟩, ⟨5, [], []⟩, ⟨6, [], []⟩, ⟨7, [], []⟩, ⟨8, [6], []⟩, ⟨9, [], []⟩, ⟨10, [], []⟩, ⟨11, [], []⟩, ⟨12, [], []⟩, ⟨13, [], []⟩, ⟨14, [5], []⟩, ⟨15, [], []⟩, ⟨16, [], []⟩, ⟨17, [], []⟩, ⟨18, [], []⟩, ⟨19, [], []⟩, ⟨20, [7], [7]⟩, ⟨21, [7, 8], [7, 8]⟩, ⟨22, [1], [1]⟩]]) (notIn []) rfl rfl (by kernel_rfl) (And.intro h0 (And.intro h1 (And.intro h2 (And.intro (Eq.refl ([⟨0, [0], []⟩, ⟨1, [0], []⟩, ⟨2, [], []⟩, ⟨3, [], []⟩, ⟨4, [0], []⟩, ⟨5, [0], []⟩, ⟨6, [], []⟩, ⟨7, [], []⟩, ⟨8, [], []⟩, ⟨9, [], []⟩] : List Foot)) (And.intro (Eq.refl ([⟨0, [0], []⟩, ⟨1, [0], []⟩, ⟨2, [0], []⟩, ⟨3, [0], []⟩, ⟨4, [5], [5]⟩, ⟨5, [6], [6]⟩, ⟨6, [5], [5]⟩, ⟨7, [6], [6]⟩] : List Foot)) (And.intro h3 (And.intro h4 (And.intro h5 (And.intro h6 (And.intro h7 (And.intro h8 (And.intro h9 (And.intro h10 (And.intro h11 (And.intro (Eq.refl ([⟨0, [5], []⟩, ⟨1, [], []⟩, ⟨2, [], []⟩, ⟨3, [], []⟩, ⟨4, [6], []⟩, ⟨5, [], []⟩, ⟨6, [], []⟩, ⟨7, [], []⟩, ⟨8, [6], []⟩, ⟨9, [], []⟩, ⟨10, [], []⟩, ⟨11, [], []⟩, ⟨12, [], []⟩, ⟨13, [], []⟩, ⟨14, [5], []⟩, ⟨15, [], []⟩, ⟨16, [], []⟩, ⟨17, [], []⟩, ⟨18, [], []⟩, ⟨19, [], []⟩, ⟨20, [7], [7]⟩, ⟨21, [7, 8], [7, 8]⟩, ⟨22, [1], [1]⟩] : List Foot)) True.intro)))))))))))))))
            · skip
              obtain ⟨r6, h6, h⟩ := Option.bind_eq_some_iff.mp h
              have h6 := F63_ok (m + 5) (z324) (z325) (z313) (z314) r6 h6
              cases r6 with
              | a0 z478 z479 =>
                obtain ⟨r7, h7, h⟩ := Option.bind_eq_some_iff.mp h
                have h7 := F63_ok (m + 5) (z266) (z267) (z313) (z314) r7 h7
                cases r7 with
                | a0 z480 z481 =>
                  obtain ⟨r8, h8, h⟩ := Option.bind_eq_some_iff.mp h
                  have h8 := F63_ok (m + 5) (z266) (z267) (w64 (0 - z313)) (w64 (0 - z314)) r8 h8
                  cases r8 with
                  | a0 z482 z483 =>
                    obtain ⟨r9, h9, h⟩ := Option.bind_eq_some_iff.mp h
                    have h9 := F63_ok (m + 5) (z324) (z325) (w64 (0 - z313)) (w64 (0 - z314)) r9 h9
                    cases r9 with
                    | a0 z484 z485 =>
                      obtain ⟨r10, h10, h⟩ := Option.bind_eq_some_iff.mp h
                      have h10 := F64_ok (m + 0) (4) ([[i64 z478, i64 z479], [i64 z480, i64 z481], [i64 z482, i64 z483], [i64 z484, i64 z485]]) r10 h10
                      cases r10 with
                      | a0 b486 k487 l488 l489 =>
                        cases h
                        exact call_pathL (gs := [.a, .an (V.tup [i64 z313, i64 z314]) [], .a, .an (i64 z315) [], .a, .an (i64 z316) [], .ft [⟨0, [0], []⟩, ⟨1, [0], []⟩, ⟨2, [], []⟩, ⟨3, [], []⟩, ⟨4, [0], []⟩, ⟨5, [0], []⟩, ⟨6, [], []⟩, ⟨7, [], []⟩, ⟨8, [], []⟩, ⟨9, [], []⟩], .a, .a, .a, .a, .ft [⟨0, [0], []⟩, ⟨1, [0], []⟩, ⟨2, [0], []⟩, ⟨3, [0], []⟩, ⟨4, [5], [5]⟩, ⟨5, [6], [6]⟩, ⟨6, [5], [5]⟩, ⟨7, [6], [6]⟩], .t, .a, .an (V.agg [i64 z324, i64 z325]) [], .a, .f, .a, .an (V.agg [i64 z478, i64 z479]) [], .a, .an (V.agg [i64 z480, i64 z481]) [], .a, .an (V.agg [i64 z482, i64 z483]) [], .a, .an (V.agg [i64 z484, i64 z485]) [], .an (V.agg [vb b486, V.hs 1 0 k487]) [Ob.cells false true 2 l488, Ob.cells true true 2 l489], .a, .ft [⟨0, [5], []⟩, ⟨1, [], []⟩, ⟨2, [], []⟩, ⟨3, [], []⟩, ⟨4, [6], []⟩, ⟨5, [], []⟩, ⟨6, [], []⟩, ⟨7, [], []⟩, ⟨8, [6], []⟩, ⟨9, [], []⟩, ⟨10, [], []⟩, ⟨11, [], []⟩, ⟨12, [], []⟩, ⟨13, [], []⟩, ⟨14, [5], []⟩, ⟨15, [], []⟩, ⟨16, [], []⟩, ⟨17, [], []⟩, ⟨18, [], []⟩, ⟨19, [], []⟩, ⟨20, [7], [7]⟩, ⟨21, [7, 8], [7, 8]⟩, ⟨22, [1], [1]⟩]]) (notIn []) rfl rfl (by kernel_rfl) (And.intro h0 (And.intro h1 (And.intro h2 (And.intro (Eq.refl ([⟨0, [0], []⟩, ⟨1, [0], []⟩, ⟨2, [], []⟩, ⟨3, [], []⟩, ⟨4, [0], []⟩, ⟨5, [0], []⟩, ⟨6, [], []⟩, ⟨7, [], []⟩, ⟨8, [], []⟩, ⟨9, [], []⟩] : List Foot)) (And.intro (Eq.refl ([⟨0, [0], []⟩, ⟨1, [0], []⟩, ⟨2, [0], []⟩, ⟨3, [0], []⟩, ⟨4, [5], [5]⟩, ⟨5, [6], [6]⟩, ⟨6, [5], [5]⟩, ⟨7, [6], [6]⟩] : List Foot)) (And.intro h3 (And.intro h4 (And.intro (Bool.eq_false_iff.mpr h5) (And.intro h6 (And.intro h7 (And.intro h8 (And.intro h9 (And.intro h10 (And.intro (Eq.refl ([⟨0, [5], []⟩, ⟨1, [], []⟩, ⟨2, [], []⟩, ⟨3, [], []⟩, ⟨4, [6], []⟩, ⟨5, [], []⟩, ⟨6, [], []⟩, ⟨7, [], []⟩, ⟨8, [6], []⟩, ⟨9, [], []⟩, ⟨10, [], []⟩, ⟨11, [], []⟩, ⟨12, [], []⟩, ⟨13, [], []⟩, ⟨14, [5], []⟩, ⟨15, [], []⟩, ⟨16, [], []⟩, ⟨17, [], []⟩, ⟨18, [], []⟩, ⟨19, [], []⟩, ⟨20, [7], [7]⟩, ⟨21, [7, 8], [7, 8]⟩, ⟨22, [1], [1]⟩] : List Foot)) True.intro))))))))))))))
        · skip
          rcases ite_eq h with ⟨h4, h⟩ | ⟨h4, h⟩
          · skip
            obtain ⟨r5, h5, h⟩ := Option.bind_eq_some_iff.mp h
            have h5 := F63_ok (m + 5) (z266) (z267) (z315) (z316) r5 h5
            cases r5 with
            | a0 z490 z491 =>
              obtain ⟨r6, h6, h⟩ := Option.bind_eq_some_iff.mp h
              have h6 := F63_ok (m + 5) (z264) (z265) (z313) (z314) r6 h6
              cases r6 with
              | a0 z492 z493 =>
                obtain ⟨r7, h7, h⟩ := Option.bind_eq_some_iff.mp h
                have h7 := F63_ok (m + 5) (z490) (z491) (z313) (z314) r7 h7
                cases r7 with
                | a0 z494 z495 =>
                  obtain ⟨r8, h8, h⟩ := Option.bind_eq_some_iff.mp h
                  have h8 := F63_ok (m + 5) (z490) (z491) (w64 (0 - z313)) (w64 (0 - z314)) r8 h8
                  cases r8 with
                  | a0 z496 z497 =>
                    obtain ⟨r9, h9, h⟩ := Option.bind_eq_some_iff.mp h
                    have h9 := F63_ok (m + 5) (z264) (z265) (w64 (0 - z313)) (w64 (0 - z314)) r9 h9
                    cases r9 with
                    | a0 z498 z499 =>
                      obtain ⟨r10, h10, h⟩ := Option.bind_eq_some_iff.mp h
                      have h10 := F64_ok (m + 0) (4) ([[i64 z492, i64 z493], [i64 z494, i64 z495], [i64 z496, i64 z497], [i64 z498, i64 z499]]) r10 h10
                      cases r10 with
                      | a0 b500 k501 l502 l503 =>
                        cases h
                        exact call_pathL (gs := [.a, .an (V.tup [i64 z313, i64 z314]) [], .a, .an (i64 z315) [], .a, .an (i64 z316) [], .ft [⟨0, [0], []⟩, ⟨1, [0], []⟩, ⟨2, [], []⟩, ⟨3, [], []⟩, ⟨4, [0], []⟩, ⟨5, [0], []⟩, ⟨6, [], []⟩, ⟨7, [], []⟩, ⟨8, [], []⟩, ⟨9, [], []⟩], .a, .a, .a, .a, .ft [⟨0, [0], []⟩, ⟨1, [0], []⟩, ⟨2, [0], []⟩, ⟨3, [0], []⟩, ⟨4, [5], [5]⟩, ⟨5, [6], [6]⟩, ⟨6, [5], [5]⟩, ⟨7, [6], [6]⟩], .f, .t, .a, .an (V.agg [i64 z490, i64 z491]) [], .a, .a, .an (V.agg [i64 z492, i64 z493]) [], .a, .an (V.agg [i64 z494, i64 z495]) [], .a, .an (V.agg [i64 z496, i64 z497]) [], .a, .an (V.agg [i64 z498, i64 z499]) [], .an (V.agg [vb b500, V.hs 1 0 k501]) [Ob.cells false true 2 l502, Ob.cells true true 2 l503], .a, .ft [⟨0, [5], []⟩, ⟨1, [], []⟩, ⟨2, [], []⟩, ⟨3, [], []⟩, ⟨4, [6], []⟩, ⟨5, [], []⟩, ⟨6, [], []⟩, ⟨7, [], []⟩, ⟨8, [6], []⟩, ⟨9, [], []⟩, ⟨10, [], []⟩, ⟨11, [], []⟩, ⟨12, [], []⟩, ⟨13, [], []⟩, ⟨14, [5], []⟩, ⟨15, [], []⟩, ⟨16, [], []⟩, ⟨17, [], []⟩, ⟨18, [], []⟩, ⟨19, [], []⟩, ⟨20, [7], [7]⟩, ⟨21, [7, 8], [7, 8]⟩, ⟨22, [1], [1]⟩]]) (notIn []) rfl rfl (by kernel_rfl) (And.intro h0 (And.intro h1 (And.intro h2 (And.intro (Eq.refl ([⟨0, [0], []⟩, ⟨1, [0], []⟩, ⟨2, [], []⟩, ⟨3, [], []⟩, ⟨4, [0], []⟩, ⟨5, [0], []⟩, ⟨6, [], []⟩, ⟨7, [], []⟩, ⟨8, [], []⟩, ⟨9, [], []⟩] : List Foot)) (And.intro (Eq.refl ([⟨0, [0], []⟩, ⟨1, [0], []⟩, ⟨2, [0], []⟩, ⟨3, [0], []⟩, ⟨4, [5], [5]⟩, ⟨5, [6], [6]⟩, ⟨6, [5], [5]⟩, ⟨7, [6], [6]⟩] : List Foot)) (And.intro (Bool.eq_false_iff.mpr h3) (And.intro h4 (And.intro h5 (And.intro h6 (And.intro h7 (And.intro h8 (And.intro h9 (And.intro h10 (And.intro (Eq.refl ([⟨0, [5], []⟩, ⟨1, [], []⟩, ⟨2, [], []⟩, ⟨3, [], []⟩, ⟨4, [6], []⟩, ⟨5, [], []⟩, ⟨6, [], []⟩, ⟨7, [], []⟩, ⟨8, [6], []⟩, ⟨9, [], []⟩, ⟨10, [], []⟩, ⟨11, [], []⟩, ⟨12, [], []⟩, ⟨13, [], []⟩, ⟨14, [5], []⟩, ⟨15, [], []⟩, ⟨16, [], []⟩, ⟨17, [], []⟩, ⟨18, [], []⟩, ⟨19, [], []⟩, ⟨20, [7], [7]⟩, ⟨21, [7, 8], [7, 8]⟩, ⟨22, [1], [1]⟩] : List Foot)) True.intro))))))))))))))
          · skip
            obtain ⟨r5, h5, h⟩ := Option.bind_eq_some_iff.mp h
            have h5 := F63_ok (m + 5) (z264) (z265) (z313) (z314) r5 h5
            cases r5 with
            | a0 z504 z505 =>
              obtain ⟨r6, h6, h⟩ := Option.bind_eq_some_iff.mp h
              have h6 := F63_ok (m + 5) (z266) (z267) (z313) (z314) r6 h6
              cases r6 with
              | a0 z506 z507 =>
                obtain ⟨r7, h7, h⟩ := Option.bind_eq_some_iff.mp h
                have h7 := F63_ok (m + 5) (z266) (z267) (w64 (0 - z313)) (w64 (0 - z314)) r7 h7
                cases r7 with
                | a0 z508 z509 =>
                  obtain ⟨r8, h8, h⟩ := Option.bind_eq_some_iff.mp h
                  have h8 := F63_ok (m + 5) (z264) (z265) (w64 (0 - z313)) (w64 (0 - z314)) r8 h8
                  cases r8 with
                  | a0 z510 z511 =>
                    obtain ⟨r9, h9, h⟩ := Option.bind_eq_some_iff.mp h
                    have h9 := F64_ok (m + 0) (4) ([[i64 z504, i64 z505], [i64 z506, i64 z507], [i64 z508, i64 z509], [i64 z510, i64 z511]]) r9 h9
                    cases r9 with
                    | a0 b512 k513 l514 l515 =>
                      cases h
                      exact call_pathL (gs := [.a, .an (V.tup [i64 z313, i64 z314]) [], .a, .an (i64 z315) [], .a, .an (i64 z316) [], .ft [⟨0, [0], []⟩, ⟨1, [0], []⟩, ⟨2, [], []⟩, ⟨3, [], []⟩, ⟨4, [0], []⟩, ⟨5, [0], []⟩, ⟨6, [], []⟩, ⟨7, [], []⟩, ⟨8, [], []⟩, ⟨9, [], []⟩], .a, .a, .a, .a, .ft [⟨0, [0], []⟩, ⟨1, [0], []⟩, ⟨2, [0], []⟩, ⟨3, [0], []⟩, ⟨4, [5], [5]⟩, ⟨5, [6], [6]⟩, ⟨6, [5], [5]⟩, ⟨7, [6], [6]⟩], .f, .f, .a, .an (V.agg [i64 z504, i64 z505]) [], .a, .an (V.agg [i64 z506, i64 z507]) [], .a, .an (V.agg [i64 z508, i64 z509]) [], .a, .an (V.agg [i64 z510, i64 z511]) [], .an (V.agg [vb b512, V.hs 1 0 k513]) [Ob.cells false true 2 l514, Ob.cells true true 2 l515], .a, .ft [⟨0, [5], []⟩, ⟨1, [], []⟩, ⟨2, [], []⟩, ⟨3, [], []⟩, ⟨4, [6], []⟩, ⟨5, [], []⟩, ⟨6, [], []⟩, ⟨7, [], []⟩, ⟨8, [6], []⟩, ⟨9, [], []⟩, ⟨10, [], []⟩, ⟨11, [], []⟩, ⟨12, [], []⟩, ⟨13, [], []⟩, ⟨14, [5], []⟩, ⟨15, [], []⟩, ⟨16, [], []⟩, ⟨17, [], []⟩, ⟨18, [], []⟩, ⟨19, [], []⟩, ⟨20, [7], [7]⟩, ⟨21, [7, 8], [7, 8]⟩, ⟨22, [1], [1]⟩]]) (notIn []) rfl rfl (by kernel_rfl) (And.intro h0 (And.intro h1 (And.intro h2 (And.intro (Eq.refl ([⟨0, [0], []⟩, ⟨1, [0], []⟩, ⟨2, [], []⟩, ⟨3, [], []⟩, ⟨4, [0], []⟩, ⟨5, [0], []⟩, ⟨6, [], []⟩, ⟨7, [], []⟩, ⟨8, [], []⟩, ⟨9, [], []⟩] : List Foot)) (And.intro (Eq.refl ([⟨0, [0], []⟩, ⟨1, [0], []⟩, ⟨2, [0], []⟩, ⟨3, [0], []⟩, ⟨4, [5], [5]⟩, ⟨5, [6], [6]⟩, ⟨6, [5], [5]⟩, ⟨7, [6], [6]⟩] : List Foot)) (And.intro (Bool.eq_false_iff.mpr h3) (And.intro (Bool.eq_false_iff.mpr h4) (And.intro h5 (And.intro h6 (And.intro h7 (And.intro h8 (And.intro h9 (And.intro (Eq.refl ([⟨0, [5], []⟩, ⟨1, [], []⟩, ⟨2, [], []⟩, ⟨3, [], []⟩, ⟨4, [6], []⟩, ⟨5, [], []⟩, ⟨6, [], []⟩, ⟨7, [], []⟩, ⟨8, [6], []⟩, ⟨9, [], []⟩, ⟨10, [], []⟩, ⟨11, [], []⟩, ⟨12, [], []⟩, ⟨13, [], []⟩, ⟨14, [5], []⟩, ⟨15, [], []⟩, ⟨16, [], []⟩, ⟨17, [], []⟩, ⟨18, [], []⟩, ⟨19, [], []⟩, ⟨20, [7], [7]⟩, ⟨21, [7, 8], [7, 8]⟩, ⟨22, [1], [1]⟩] : List Foot)) True.intro)))))))))))))
/-! ## 40 -/
inductive A40 where
  | a0 (k589 : Nat) (l590 : List (List V))
@[reducible] def A40.out : A40 → V × Store
  | .a0 k589 l590 => (V.hs 0 0 k589, [Ob.cells true true 2 l590])
def F40 (z555 : Int) (z556 : Int) (z557 : Int) (z558 : Int) (z559 : Int) (z560 : Int) (z561 : Int) (z562 : Int) (z563 : Int) (z564 : Int) (z565 : Int) (z566 : Int) (z567 : Int) : Option A40 :=
  (F61 (z555) (z556) (z557) (z558) (z559) (z560) (z567)).bind fun r => match r with
  | .a0 z569 z570 =>
   (F61 (z561) (z562) (z563) (z564) (z565) (z566) (z567)).bind fun r => match r with
   | .a0 z571 z572 =>
    (F63 (z561) (z562) (z569) (z570)).bind fun r => match r with
    | .a0 z573 z574 =>
     (F63 (z561) (z562) (z571) (z572)).bind fun r => match r with
     | .a0 z575 z576 =>
      (F64 (3) ([[i64 z561, i64 z562], [i64 z573, i64 z574], [i64 z575, i64 z576]])).bind fun r => match r with
      | .a0 b577 k578 l579 l580 =>
       (F63 (z561) (z562) (w64 (0 - z569)) (w64 (0 - z570))).bind fun r => match r with
       | .a0 z581 z582 =>
        (F63 (z561) (z562) (w64 (0 - z571)) (w64 (0 - z572))).bind fun r => match r with
        | .a0 z583 z584 =>
         (F64 (3) ([[i64 z561, i64 z562], [i64 z581, i64 z582], [i64 z583, i64 z584]])).bind fun r => match r with
         | .a0 b585 k586 l587 l588 =>
          if 0 + k578 ≤ List.length l580 then
           if 0 + k586 ≤ List.length l588 then
            some (A40.a0 (2) ([[vb b577, V.list 2 (List.take k578 l580)], [vb b585, V.list 2 (List.take k586 l588)]]))
           else
            none -- none
          else
           none -- none
theorem F40_ok (m : Nat) (z555 : Int) (z556 : Int) (z557 : Int) (z558 : Int) (z559 : Int) (z560 : Int) (z561 : Int) (z562 : Int) (z563 : Int) (z564 : Int) (z565 : Int) (z566 : Int) (z567 : Int) (r : A40) (h : F40 z555 z556 z557 z558 z559 z560 z561 z562 z563 z564 z565 z566 z567 = some r) : call Try.prog X O0 18446744073709551616 (m + 7) 40 ([V.agg [i64 z555, i64 z556, i64 z557, i64 z558, i64 z559, i64 z560], V.agg [i64 z561, i64 z562, i64 z563, i64 z564, i64 z565, i64 z566], i64 z567]) ([]) = some r.out := by
  unfold F40 at h
  obtain ⟨r0, h0, h⟩ := Option.bind_eq_some_iff.mp h
  have h0 := F61_ok (m + 2) (z555) (z556) (z557) (z558) (z559) (z560) (z567) r0 h0
  cases r0 with
  | a0 z569 z570 =>
    obtain ⟨r1, h1, h⟩ := Option.bind_eq_some_iff.mp h
    have h1 := F61_ok (m + 2) (z561) (z562) (z563) (z564) (z565) (z566) (z567) r1 h1
    cases r1 with
    | a0 z571 z572 =>
      obtain ⟨r2, h2, h⟩ := Option.bind_eq_some_iff.mp h
      have h2 := F63_ok (m + 5) (z561) (z562) (z569) (z570) r2 h2
      cases r2 with
      | a0 z573 z574 =>
        obtain ⟨r3, h3, h⟩ := Option.bind_eq_some_iff.mp h
        have h3 := F63_ok (m + 5) (z561) (z562) (z571) (z572) r3 h3
        cases r3 with
        | a0 z575 z576 =>
          obtain ⟨r4, h4, h⟩ := Option.bind_eq_some_iff.mp h
          have h4 := F64_ok (m + 0) (3) ([[i64 z561, i64 z562], [i64 z573, i64 z574], [i64 z575, i64 z576]]) r4 h4
          cases r4 with
          | a0 b577 k578 l579 l580 =>
            obtain ⟨r5, h5, h⟩ := Option.bind_eq_some_iff.mp h
            have h5 := F63_ok (m + 5) (z561) (z562) (w64 (0 - z569)) (w64 (0 - z570)) r5 h5
            cases r5 with
            | a0 z581 z582 =>
              obtain ⟨r6, h6, h⟩ := Option.bind_eq_some_iff.mp h
              have h6 := F63_ok (m + 5) (z561) (z562) (w64 (0 - z571)) (w64 (0 - z572)) r6 h6
              cases r6 with
              | a0 z583 z584 =>
                obtain ⟨r7, h7, h⟩ := Option.bind_eq_some_iff.mp h
                have h7 := F64_ok (m + 0) (3) ([[i64 z561, i64 z562], [i64 z581, i64 z582], [i64 z583, i64 z584]]) r7 h7
                cases r7 with
                | a0 b585 k586 l587 l588 =>
                  rcases ite_eq h with ⟨h8, h⟩ | ⟨h8, h⟩
                  · skip
                    rcases ite_eq h with ⟨h9, h⟩ | ⟨h9, h⟩
                    · skip
                      cases h
                      exact call_pathL (gs := [.a, .an (V.tup [i64 z569, i64 z570]) [], .a, .an (V.tup [i64 z571, i64 z572]) [], .a, .a, .a, .a, .an (V.agg [i64 z573, i64 z574]) [], .a, .an (V.agg [i64 z575, i64 z576]) [], .an (V.agg [vb b577, V.hs 1 0 k578]) [Ob.cells false true 2 l579, Ob.cells true true 2 l580], .a, .a, .an (V.agg [i64 z581, i64 z582]) [], .a, .an (V.agg [i64 z583, i64 z584]) [], .an (V.agg [vb b585, V.hs 1 0 k586]) [Ob.cells false true 2 l587, Ob.cells true true 2 l588], .t, .t, .ft [⟨0, [8], []⟩, ⟨1, [8], []⟩, ⟨2, [], []⟩, ⟨3, [], []⟩, ⟨4, [], []⟩, ⟨5, [8], []⟩, ⟨6, [], []⟩, ⟨7, [], []⟩, ⟨8, [], []⟩, ⟨9, [9], [9]⟩, ⟨10, [9, 10], [9, 10]⟩, ⟨11, [8], []⟩, ⟨12, [8], []⟩, ⟨13, [], []⟩, ⟨14, [], []⟩, ⟨15, [], []⟩, ⟨16, [], []⟩, ⟨17, [], []⟩, ⟨18, [8], []⟩, ⟨19, [], []⟩, ⟨20, [], []⟩, ⟨21, [], []⟩, ⟨22, [], []⟩, ⟨23, [], []⟩, ⟨24, [11], [11]⟩, ⟨25, [11, 12], [11, 12]⟩, ⟨26, [10, 12, 13], [10, 12, 13]⟩, ⟨27, [], []⟩]]) (notIn []) rfl rfl (by kernel_rfl) (And.intro h0 (And.intro h1 (And.intro h2 (And.intro h3 (And.intro h4 (And.intro h5 (And.intro h6 (And.intro h7 (And.intro (decide_eq_true h8) (And.intro (decide_eq_true h9) (And.intro (Eq.refl ([⟨0, [8], []⟩, ⟨1, [8], []⟩, ⟨2, [], []⟩, ⟨3, [], []⟩, ⟨4, [], []⟩, ⟨5, [8], []⟩, ⟨6, [], []⟩, ⟨7, [], []⟩, ⟨8, [], []⟩, ⟨9, [9], [9]⟩, ⟨10, [9, 10], [9, 10]⟩, ⟨11, [8], []⟩, ⟨12, [8], []⟩, ⟨13, [], []⟩, ⟨14, [], []⟩, ⟨15, [], []⟩, ⟨16, [], []⟩, ⟨17, [], []⟩, ⟨18, [8], []⟩, ⟨19, [], []⟩, ⟨20, [], []⟩, ⟨21, [], []⟩, ⟨22, [], []⟩, ⟨23, [], []⟩, ⟨24, [11], [11]⟩, ⟨25, [11, 12], [11, 12]⟩, ⟨26, [10, 12, 13], [10, 12, 13]⟩, ⟨27, [], []⟩] : List Foot)) True.intro)))))))))))
                    · skip
                      cases h
                  · skip
                    cases h
/-! ## 16 -/
noncomputable abbrev B16 : Code := (Try.f16.body).getD .skip
inductive R16_2 where
  | e0 (z676 : Int) (k677 : Nat) (k678 : Nat) (b682 : Bool) (l684 : List (List V)) (l685 : List (List V))
@[reducible] def s16_2_0 (z676 : Int) (k677 : Nat) (k678 : Nat) (z679 : Int) (z680 : Int) (b681 : Bool) (b682 : Bool) (l683 : List (List V)) (l684 : List (List V)) (l685 : List (List V)) : S := { T := U :: U :: U :: V.ptr 0 0 0 :: U :: U :: U :: i64 z676 :: V.hs 1 0 k677 :: U :: V.hs 2 0 k678 :: U :: U :: i64 z679 :: un 41 (i64 z679 :: V.hs 1 0 k677 :: i64 z680 :: vb b681 :: un 36 []), σ := [Ob.cells true false 2 [[vb b682, V.list 2 l683]], Ob.cells true true 6 l684, Ob.cells true true 2 l685] }
def R16_2.St : R16_2 → VX × S → Prop
  | .e0 z676 k677 k678 b682 l684 l685, p => ∃ z679 : Int, ∃ z680 : Int, ∃ b681 : Bool, ∃ l683 : List (List V), p = (VX.exit 2, s16_2_0 z676 k677 k678 z679 z680 b681 b682 l683 l684 l685)
def L16_2 : Nat → Int → Nat → Nat → Int → Bool → List (List V) → List (List V) → List (List V) → Option R16_2
  | 0, _, _, _, _, _, _, _, _ => none
  | n + 1, z593, k594, k595, z596, b597, l598, l599, l600 =>
    if z596 < (↑k594 : Int) then
     if 0 ≤ w64 (z596 - 1) ∧ w64 (z596 - 1) < (↑k594 : Int) then
      ((l599[(0 : Nat) + Int.toNat (w64 (z596 - (1 : Int)))]?).bind W65.dec).bind fun e672 =>
      if 0 ≤ z596 ∧ z596 < (↑k594 : Int) then
       ((l599[(0 : Nat) + Int.toNat z596]?).bind W65.dec).bind fun e673 =>
       (F40 (e672.c0) (e672.c1) (e672.c2) (e672.c3) (e672.c4) (e672.c5) (e673.c0) (e673.c1) (e673.c2) (e673.c3) (e673.c4) (e673.c5) (z593)).bind fun r => match r with
       | .a0 k674 l675 =>
        if 0 + k674 ≤ List.length l675 then
         if 0 + k595 ≤ List.length l600 ∧ (k595 + List.length (List.take k674 l675)) * 32 ≤ 140737488355328 ∧ k595 + List.length (List.take k674 l675) ≤ 140737488355328 then
          L16_2 n (z593) (k594) (k595 + List.length (List.take k674 l675)) (w64 (z596 + 1)) (b597) (l598) (l599) (List.take k595 l600 ++ List.take k674 l675)
         else
          none -- none
        else
         none -- none
      else
       none -- none
     else
      none -- none
    else
     some (R16_2.e0 (z593) (k594) (k595) (b597) (l599) (l600))
theorem L16_2_ok (m : Nat) : ∀ (n : Nat) (z593 : Int) (k594 : Nat) (k595 : Nat) (z596 : Int) (b597 : Bool) (l598 : List (List V)) (l599 : List (List V)) (l600 : List (List V)) (r : R16_2), L16_2 n z593 k594 k595 z596 b597 l598 l599 l600 = some r → ∃ st, loopFrom Try.prog X (genO X (call Try.prog X O0 18446744073709551616 (m + 7))) 16 (0) 18446744073709551616 B16 2 n ({ T := U :: U :: U :: V.ptr 0 0 0 :: U :: U :: U :: i64 z593 :: V.hs 1 0 k594 :: U :: V.hs 2 0 k595 :: U :: U :: i64 z596 :: un 81 [], σ := [Ob.cells true false 2 [[vb b597, V.list 2 l598]], Ob.cells true true 6 l599, Ob.cells true true 2 l600] }) = some st ∧ r.St st
  | 0, _, _, _, _, _, _, _, _, r, h => by cases h
  | n + 1, z593, k594, k595, z596, b597, l598, l599, l600, r, h => by
    rw [L16_2] at h
    rcases ite_eq h with ⟨h0, h⟩ | ⟨h0, h⟩
    · skip
      rcases ite_eq h with ⟨h1, h⟩ | ⟨h1, h⟩
      · skip
        obtain ⟨e672, h2, h⟩ := Option.bind_eq_some_iff.mp h
        rcases ite_eq h with ⟨h3, h⟩ | ⟨h3, h⟩
        · skip
          obtain ⟨e673, h4, h⟩ := Option.bind_eq_some_iff.mp h
          obtain ⟨r5, h5, h⟩ := Option.bind_eq_some_iff.mp h
          have h5 := F40_ok (m + 0) (e672.c0) (e672.c1) (e672.c2) (e672.c3) (e672.c4) (e672.c5) (e673.c0) (e673.c1) (e673.c2) (e673.c3) (e673.c4) (e673.c5) (z593) r5 h5
          cases r5 with
          | a0 k674 l675 =>
            rcases ite_eq h with ⟨h6, h⟩ | ⟨h6, h⟩
            · skip
              rcases ite_eq h with ⟨h7, h⟩ | ⟨h7, h⟩
              · skip
                obtain ⟨st, hs, hr⟩ := L16_2_ok m n (z593) (k594) (k595 + List.length (List.take k674 l675)) (w64 (z596 + 1)) (b597) (l598) (l599) (List.take k595 l600 ++ List.take k674 l675) r h
                exact ⟨st, (round_on (gs := [.t, .t, .el (W65.cells e672), .t, .el (W65.cells e673), .an (V.hs 0 0 k674) [Ob.cells true true 2 l675], .t, .t, .ft [⟨0, [], []⟩, ⟨1, [], []⟩, ⟨2, [], []⟩, ⟨3, [], []⟩, ⟨4, [1], []⟩, ⟨5, [1], []⟩, ⟨6, [], []⟩, ⟨7, [], []⟩, ⟨8, [1], []⟩, ⟨9, [1], []⟩, ⟨10, [], []⟩, ⟨11, [3], [3]⟩, ⟨12, [3, 4, 2], [2, 4]⟩, ⟨13, [], []⟩]]) (notIn []) (by kernel_rfl) (And.intro (decide_eq_true h0) (And.intro (decide_eq_true h1) (And.intro (W65.dec_ok h2) (And.intro (decide_eq_true h3) (And.intro (W65.dec_ok h4) (And.intro h5 (And.intro (decide_eq_true h6) (And.intro (decide_eq_true h7) (And.intro (Eq.refl ([⟨0, [], []⟩, ⟨1, [], []⟩, ⟨2, [], []⟩, ⟨3, [], []⟩, ⟨4, [1], []⟩, ⟨5, [1], []⟩, ⟨6, [], []⟩, ⟨7, [], []⟩, ⟨8, [1], []⟩, ⟨9, [1], []⟩, ⟨10, [], []⟩, ⟨11, [3], [3]⟩, ⟨12, [3, 4, 2], [2, 4]⟩, ⟨13, [], []⟩] : List Foot)) True.intro))))))))) n).trans hs, hr⟩
              · skip
                cases h
            · skip
              cases h
        · skip
          cases h
      · skip
        cases h
    · skip
      cases h
      exact ⟨_, round_out (gs := [.f]) (notIn []) (by kernel_rfl) rfl (And.intro (decide_eq_false h0) True.intro) n, z596, (↑k594 : Int), decide (z596 < (↑k594 : Int)), l598, rfl⟩
inductive R16_0 where
  | e0 (z650 : Int) (k651 : Nat) (k653 : Nat) (b657 : Bool) (l658 : List (List V)) (l659 : List (List V)) (l660 : List (List V))
@[reducible] def s16_0_0 (z650 : Int) (k651 : Nat) (b652 : Bool) (k653 : Nat) (z654 : Int) (z655 : Int) (b656 : Bool) (b657 : Bool) (l658 : List (List V)) (l659 : List (List V)) (l660 : List (List V)) : S := { T := U :: U :: U :: V.ptr 0 0 0 :: U :: U :: U :: i64 z650 :: V.hs 1 0 k651 :: vb b652 :: V.hs 2 0 k653 :: un 17 (V.hs 1 0 k651 :: i64 z654 :: i64 z655 :: vb b656 :: un 63 []), σ := [Ob.cells true false 2 [[vb b657, V.list 2 l658]], Ob.cells true true 6 l659, Ob.cells true true 2 l660] }
def R16_0.St : R16_0 → VX × S → Prop
  | .e0 z650 k651 k653 b657 l658 l659 l660, p => ∃ b652 : Bool, ∃ z654 : Int, ∃ z655 : Int, ∃ b656 : Bool, p = (VX.exit 0, s16_0_0 z650 k651 b652 k653 z654 z655 b656 b657 l658 l659 l660)
def L16_0 : Nat → Int → Nat → Bool → Nat → Int → Int → Bool → List (List V) → List (List V) → List (List V) → Option R16_0
  | 0, _, _, _, _, _, _, _, _, _, _ => none
  | n + 1, z519, k520, b521, k522, z523, z524, b525, l526, l527, l528 =>
    if z524 < z523 then
     if 0 ≤ z524 ∧ z524 < (↑k520 : Int) then
      ((l527[(0 : Nat) + Int.toNat z524]?).bind W65.dec).bind fun e643 =>
      if (b521) = true then
       (F39 (e643.c0) (e643.c1) (e643.c2) (e643.c3) (e643.c4) (e643.c5) (z519) (z524 == 0) (z524 == w64 ((↑k520 : Int) - 1))).bind fun r => match r with
       | .a0 b644 k645 l646 =>
        if 0 + k645 ≤ List.length l646 then
         if 0 + k522 ≤ List.length l528 ∧ (k522 + 1) * 32 ≤ 140737488355328 ∧ k522 + 1 ≤ 140737488355328 then
          L16_0 n (z519) (k520) (b521) (k522 + 1) (z523) (w64 (z524 + 1)) (b525) (l526) (l527) (List.take k522 l528 ++ [[vb b644, V.list 2 (List.take k645 l646)]])
         else
          none -- none
        else
         none -- none
      else
       (F39 (e643.c0) (e643.c1) (e643.c2) (e643.c3) (e643.c4) (e643.c5) (z519) (false) (false)).bind fun r => match r with
       | .a0 b647 k648 l649 =>
        if 0 + k648 ≤ List.length l649 then
         if 0 + k522 ≤ List.length l528 ∧ (k522 + 1) * 32 ≤ 140737488355328 ∧ k522 + 1 ≤ 140737488355328 then
          L16_0 n (z519) (k520) (b521) (k522 + 1) (z523) (w64 (z524 + 1)) (b525) (l526) (l527) (List.take k522 l528 ++ [[vb b647, V.list 2 (List.take k648 l649)]])
         else
          none -- none
        else
         none -- none
     else
      none -- none
    else
     some (R16_0.e0 (z519) (k520) (k522) (b525) (l526) (l527) (l528))
theorem L16_0_ok (m : Nat) : ∀ (n : Nat) (z519 : Int) (k520 : Nat) (b521 : Bool) (k522 : Nat) (z523 : Int) (z524 : Int) (b525 : Bool) (l526 : List (List V)) (l527 : List (List V)) (l528 : List (List V)) (r : R16_0), L16_0 n z519 k520 b521 k522 z523 z524 b525 l526 l527 l528 = some r → ∃ st, loopFrom Try.prog X (genO X (call Try.prog X O0 18446744073709551616 (m + 7))) 16 (0) 18446744073709551616 B16 0 n ({ T := U :: U :: U :: V.ptr 0 0 0 :: U :: U :: U :: i64 z519 :: V.hs 1 0 k520 :: vb b521 :: V.hs 2 0 k522 :: un 17 (V.hs 1 0 k520 :: i64 z523 :: i64 z524 :: un 64 []), σ := [Ob.cells true false 2 [[vb b525, V.list 2 l526]], Ob.cells true true 6 l527, Ob.cells true true 2 l528] }) = some st ∧ r.St st
  | 0, _, _, _, _, _, _, _, _, _, _, r, h => by cases h
  | n + 1, z519, k520, b521, k522, z523, z524, b525, l526, l527, l528, r, h => by
    rw [L16_0] at h
    rcases ite_eq h with ⟨h0, h⟩ | ⟨h0, h⟩
    · skip
      rcases ite_eq h with ⟨h1, h⟩ | ⟨h1, h⟩
      · skip
        obtain ⟨e643, h2, h⟩ := Option.bind_eq_some_iff.mp h
        rcases ite_eq h with ⟨h3, h⟩ | ⟨h3, h⟩
        · skip
          obtain ⟨r4, h4, h⟩ := Option.bind_eq_some_iff.mp h
          have h4 := F39_ok (m + 0) (e643.c0) (e643.c1) (e643.c2) (e643.c3) (e643.c4) (e643.c5) (z519) (z524 == 0) (z524 == w64 ((↑k520 : Int) - 1)) r4 h4
          cases r4 with
          | a0 b644 k645 l646 =>
            rcases ite_eq h with ⟨h5, h⟩ | ⟨h5, h⟩
            · skip
              rcases ite_eq h with ⟨h6, h⟩ | ⟨h6, h⟩
              · skip
                obtain ⟨st, hs, hr⟩ := L16_0_ok m n (z519) (k520) (b521) (k522 + 1) (z523) (w64 (z524 + 1)) (b525) (l526) (l527) (List.take k522 l528 ++ [[vb b644, V.list 2 (List.take k645 l646)]]) r h
                exact ⟨st, (round_on (gs := [.t, .t, .el (W65.cells e643), .a, .a, .t, .t, .t, .t, .t, .t, .t, .t, .t, .an (V.agg [vb b644, V.hs 0 0 k645]) [Ob.cells true true 2 l646], .t, .a, .t]) (notIn []) (by kernel_rfl) (And.intro (decide_eq_true h0) (And.intro (decide_eq_true h1) (And.intro (W65.dec_ok h2) (And.intro h3 (And.intro h3 (And.intro h3 (And.intro h3 (And.intro h3 (And.intro h3 (And.intro h3 (And.intro h3 (And.intro h3 (And.intro h4 (And.intro (decide_eq_true h5) (And.intro (decide_eq_true h6) True.intro))))))))))))))) n).trans hs, hr⟩
              · skip
                cases h
            · skip
              cases h
        · skip
          obtain ⟨r4, h4, h⟩ := Option.bind_eq_some_iff.mp h
          have h4 := F39_ok (m + 0) (e643.c0) (e643.c1) (e643.c2) (e643.c3) (e643.c4) (e643.c5) (z519) (false) (false) r4 h4
          cases r4 with
          | a0 b647 k648 l649 =>
            rcases ite_eq h with ⟨h5, h⟩ | ⟨h5, h⟩
            · skip
              rcases ite_eq h with ⟨h6, h⟩ | ⟨h6, h⟩
              · skip
                obtain ⟨st, hs, hr⟩ := L16_0_ok m n (z519) (k520) (b521) (k522 + 1) (z523) (w64 (z524 + 1)) (b525) (l526) (l527) (List.take k522 l528 ++ [[vb b647, V.list 2 (List.take k648 l649)]]) r h
                exact ⟨st, (round_on (gs := [.t, .t, .el (W65.cells e643), .a, .a, .f, .f, .f, .f, .f, .f, .f, .f, .f, .an (V.agg [vb b647, V.hs 0 0 k648]) [Ob.cells true true 2 l649], .t, .a, .t]) (notIn []) (by kernel_rfl) (And.intro (decide_eq_true h0) (And.intro (decide_eq_true h1) (And.intro (W65.dec_ok h2) (And.intro (Bool.eq_false_iff.mpr h3) (And.intro (Bool.eq_false_iff.mpr h3) (And.intro (Bool.eq_false_iff.mpr h3) (And.intro (Bool.eq_false_iff.mpr h3) (And.intro (Bool.eq_false_iff.mpr h3) (And.intro (Bool.eq_false_iff.mpr h3) (And.intro (Bool.eq_false_iff.mpr h3) (And.intro (Bool.eq_false_iff.mpr h3) (And.intro (Bool.eq_false_iff.mpr h3) (And.intro h4 (And.intro (decide_eq_true h5) (And.intro (decide_eq_true h6) True.intro))))))))))))))) n).trans hs, hr⟩
              · skip
                cases h
            · skip
              cases h
      · skip
        cases h
    · skip
      cases h
      exact ⟨_, round_out (gs := [.f]) (notIn []) (by kernel_rfl) rfl (And.intro (decide_eq_false h0) True.intro) n, b521, z523, z524, decide (z524 < z523), rfl⟩
inductive A16 where
  | a0 (k639 : Nat) (l640 : List (List V))
@[reducible] def A16.out : A16 → V × Store
  | .a0 k639 l640 => (V.hs 0 0 k639, [Ob.cells true true 2 l640])
def F16 (b116 : Bool) (l117 : List (List V)) (z118 : Int) (z119 : Int) : Option A16 :=
  bnd (F37 (Int.fdiv z118 2) (0) (67108864)) fun z638 =>
  if (z638 == 0) = true then
   some (A16.a0 (0) ([]))
  else
   (F38 (b116) (l117)).bind fun r => match r with
   | .a0 k641 l642 =>
    if (z119 == 1) = true then
     (L16_0 18446744073709551616 (z638) (k641) (!b116) (0) ((↑k641 : Int)) (0) (b116) (l117) (l642) ([])).bind fun r => match r with
     | .e0 z661 k662 k664 b668 l669 l670 l671 =>
      (L16_2 18446744073709551616 (z661) (k662) (k664) (1) (b668) (l669) (l670) (l671)).bind fun r => match r with
      | .e0 z686 k687 k688 b692 l694 l695 =>
       if (b692) = true then
        if (↑k687 : Int) ≥ 2 then
         if 0 ≤ w64 ((↑k687 : Int) - 1) ∧ w64 ((↑k687 : Int) - 1) < (↑k687 : Int) then
          ((l694[(0 : Nat) + Int.toNat (w64 ((↑k687 : Int) - (1 : Int)))]?).bind W65.dec).bind fun e696 =>
          if (0 : Int) ≤ (0 : Int) ∧ (0 : Int) < (↑k687 : Int) then
           ((l694[(0 : Nat)]?).bind W65.dec).bind fun e697 =>
           (F40 (e696.c0) (e696.c1) (e696.c2) (e696.c3) (e696.c4) (e696.c5) (e697.c0) (e697.c1) (e697.c2) (e697.c3) (e697.c4) (e697.c5) (z686)).bind fun r => match r with
           | .a0 k698 l699 =>
            if 0 + k698 ≤ List.length l699 then
             if 0 + k688 ≤ List.length l695 ∧ (k688 + List.length (List.take k698 l699)) * 32 ≤ 140737488355328 ∧ k688 + List.length (List.take k698 l699) ≤ 140737488355328 then
              some (A16.a0 (k688 + List.length (List.take k698 l699)) (List.take k688 l695 ++ List.take k698 l699))
             else
              none -- none
            else
             none -- none
          else
           none -- none
         else
          none -- none
        else
         some (A16.a0 (k688) (l695))
       else
        some (A16.a0 (k688) (l695))
    else
     (L16_0 18446744073709551616 (z638) (k641) (false) (0) ((↑k641 : Int)) (0) (b116) (l117) (l642) ([])).bind fun r => match r with
     | .e0 z700 k701 k703 b707 l708 l709 l710 =>
      (L16_2 18446744073709551616 (z700) (k701) (k703) (1) (b707) (l708) (l709) (l710)).bind fun r => match r with
      | .e0 z711 k712 k713 b717 l719 l720 =>
       if (b717) = true then
        if (↑k712 : Int) ≥ 2 then
         if 0 ≤ w64 ((↑k712 : Int) - 1) ∧ w64 ((↑k712 : Int) - 1) < (↑k712 : Int) then
          ((l719[(0 : Nat) + Int.toNat (w64 ((↑k712 : Int) - (1 : Int)))]?).bind W65.dec).bind fun e721 =>
          if (0 : Int) ≤ (0 : Int) ∧ (0 : Int) < (↑k712 : Int) then
           ((l719[(0 : Nat)]?).bind W65.dec).bind fun e722 =>
           (F40 (e721.c0) (e721.c1) (e721.c2) (e721.c3) (e721.c4) (e721.c5) (e722.c0) (e722.c1) (e722.c2) (e722.c3) (e722.c4) (e722.c5) (z711)).bind fun r => match r with
           | .a0 k723 l724 =>
            if 0 + k723 ≤ List.length l724 then
             if 0 + k713 ≤ List.length l720 ∧ (k713 + List.length (List.take k723 l724)) * 32 ≤ 140737488355328 ∧ k713 + List.length (List.take k723 l724) ≤ 140737488355328 then
              some (A16.a0 (k713 + List.length (List.take k723 l724)) (List.take k713 l720 ++ List.take k723 l724))
             else
              none -- none
            else
             none -- none
          else
           none -- none
         else
          none -- none
        else
         some (A16.a0 (k713) (l720))
       else
        some (A16.a0 (k713) (l720))
theorem F16_ok (m : Nat) (b116 : Bool) (l117 : List (List V)) (z118 : Int) (z119 : Int) (r : A16) (h : F16 b116 l117 z118 z119 = some r) : call Try.prog X O0 18446744073709551616 (m + 8) 16 ([V.agg [vb b116, V.list 2 l117], i64 z118, i64 z119]) ([]) = some r.out := by
  unfold F16 at h
  obtain ⟨z638, h0, h⟩ := bnd_eq h
  rcases ite_eq h with ⟨h1, h⟩ | ⟨h1, h⟩
  · skip
    cases h
    exact call_pathL (gs := [.a, .an (i64 z638) [], .t]) (notIn []) rfl rfl (by kernel_rfl) (And.intro (F37_ok (m + 6) (Int.fdiv z118 2) (0) (67108864) z638 h0) (And.intro h1 True.intro))
  · skip
    obtain ⟨r2, h2, h⟩ := Option.bind_eq_some_iff.mp h
    have h2 := F38_ok (m + 2) (b116) (l117) r2 h2
    cases r2 with
    | a0 k641 l642 =>
      rcases ite_eq h with ⟨h3, h⟩ | ⟨h3, h⟩
      · skip
        obtain ⟨r4, h4, h⟩ := Option.bind_eq_some_iff.mp h
        obtain ⟨st4, h4, hr4⟩ := L16_0_ok m 18446744073709551616 (z638) (k641) (!b116) (0) ((↑k641 : Int)) (0) (b116) (l117) (l642) ([]) r4 h4
        have h4 : loopRun Try.prog X (genO X (call Try.prog X O0 18446744073709551616 (m + 7))) 16 (0) 18446744073709551616 B16 0 ({ T := V.agg [vb b116, V.list 2 l117] :: i64 z118 :: i64 z119 :: V.ptr 0 0 0 :: U :: U :: V.nilS :: i64 z638 :: V.hs 1 0 k641 :: (vb !b116) :: V.nilS :: U :: U :: U :: i64 z118 :: i64 (Int.fdiv z118 2) :: i64 z638 :: i64 z638 :: vb (z638 == 0) :: V.agg [vb b116, V.list 2 l117] :: V.hs 1 0 k641 :: i64 z119 :: vb (z119 == 1) :: vb (z119 == 1) :: V.ptr 0 0 0 :: vb b116 :: (vb !b116) :: (vb !b116) :: V.hs 1 0 k641 :: i64 (↑k641 : Int) :: i64 0 :: un 64 [], σ := [Ob.cells true false 2 [[vb b116, V.list 2 l117]], Ob.cells true true 6 l642] }) = some st4 := by
          rw [loopRun_from, show pre X 16 (0) 0 ({ T := V.agg [vb b116, V.list 2 l117] :: i64 z118 :: i64 z119 :: V.ptr 0 0 0 :: U :: U :: V.nilS :: i64 z638 :: V.hs 1 0 k641 :: (vb !b116) :: V.nilS :: U :: U :: U :: i64 z118 :: i64 (Int.fdiv z118 2) :: i64 z638 :: i64 z638 :: vb (z638 == 0) :: V.agg [vb b116, V.list 2 l117] :: V.hs 1 0 k641 :: i64 z119 :: vb (z119 == 1) :: vb (z119 == 1) :: V.ptr 0 0 0 :: vb b116 :: (vb !b116) :: (vb !b116) :: V.hs 1 0 k641 :: i64 (↑k641 : Int) :: i64 0 :: un 64 [], σ := [Ob.cells true false 2 [[vb b116, V.list 2 l117]], Ob.cells true true 6 l642] }) = { T := U :: U :: U :: V.ptr 0 0 0 :: U :: U :: U :: i64 z638 :: V.hs 1 0 k641 :: (vb !b116) :: V.hs 2 0 0 :: un 17 (V.hs 1 0 k641 :: i64 (↑k641 : Int) :: i64 0 :: un 64 []), σ := [Ob.cells true false 2 [[vb b116, V.list 2 l117]], Ob.cells true true 6 l642, Ob.cells true true 2 []] } by kernel_rfl]
          exact h4
        cases r4 with
        | e0 z661 k662 k664 b668 l669 l670 l671 =>
          obtain ⟨b663, z665, z666, b667, rfl⟩ := hr4
          obtain ⟨r5, h5, h⟩ := Option.bind_eq_some_iff.mp h
          obtain ⟨st5, h5, hr5⟩ := L16_2_ok m 18446744073709551616 (z661) (k662) (k664) (1) (b668) (l669) (l670) (l671) r5 h5
          have h5 : loopRun Try.prog X (genO X (call Try.prog X O0 18446744073709551616 (m + 7))) 16 (0) 18446744073709551616 B16 2 ({ T := U :: U :: U :: V.ptr 0 0 0 :: U :: U :: U :: i64 z661 :: V.hs 1 0 k662 :: vb b663 :: V.hs 2 0 k664 :: U :: U :: i64 1 :: un 14 (V.hs 1 0 k662 :: i64 z665 :: i64 z666 :: vb b667 :: un 63 []), σ := [Ob.cells true false 2 [[vb b668, V.list 2 l669]], Ob.cells true true 6 l670, Ob.cells true true 2 l671] }) = some st5 := by
            rw [loopRun_from, show pre X 16 (0) 2 ({ T := U :: U :: U :: V.ptr 0 0 0 :: U :: U :: U :: i64 z661 :: V.hs 1 0 k662 :: vb b663 :: V.hs 2 0 k664 :: U :: U :: i64 1 :: un 14 (V.hs 1 0 k662 :: i64 z665 :: i64 z666 :: vb b667 :: un 63 []), σ := [Ob.cells true false 2 [[vb b668, V.list 2 l669]], Ob.cells true true 6 l670, Ob.cells true true 2 l671] }) = { T := U :: U :: U :: V.ptr 0 0 0 :: U :: U :: U :: i64 z661 :: V.hs 1 0 k662 :: U :: V.hs 2 0 k664 :: U :: U :: i64 1 :: un 81 [], σ := [Ob.cells true false 2 [[vb b668, V.list 2 l669]], Ob.cells true true 6 l670, Ob.cells true true 2 l671] } by kernel_rfl]
            exact h5
          cases r5 with
          | e0 z686 k687 k688 b692 l694 l695 =>
            obtain ⟨z689, z690, b691, l693, rfl⟩ := hr5
            rcases ite_eq h with ⟨h6, h⟩ | ⟨h6, h⟩
            · skip
              rcases ite_eq h with ⟨h7, h⟩ | ⟨h7, h⟩
              · skip
                rcases ite_eq h with ⟨h8, h⟩ | ⟨h8, h⟩
                · skip
                  obtain ⟨e696, h9, h⟩ := Option.bind_eq_some_iff.mp h
                  rcases ite_eq h with ⟨h10, h⟩ | ⟨h10, h⟩
                  · skip
                    obtain ⟨e697, h11, h⟩ := Option.bind_eq_some_iff.mp h
                    obtain ⟨r12, h12, h⟩ := Option.bind_eq_some_iff.mp h
                    have h12 := F40_ok (m + 0) (e696.c0) (e696.c1) (e696.c2) (e696.c3) (e696.c4) (e696.c5) (e697.c0) (e697.c1) (e697.c2) (e697.c3) (e697.c4) (e697.c5) (z686) r12 h12
                    cases r12 with
                    | a0 k698 l699 =>
                      rcases ite_eq h with ⟨h13, h⟩ | ⟨h13, h⟩
                      · skip
                        rcases ite_eq h with ⟨h14, h⟩ | ⟨h14, h⟩
                        · skip
                          cases h
                          exact call_pathL (gs := [.a, .an (i64 z638) [], .f, .a, .an (V.hs 0 0 k641) [Ob.cells true true 6 l642], .t, .t, .a, .t, .t, .lp (VX.exit 0) (s16_0_0 z661 k662 b663 k664 z665 z666 b667 b668 l669 l670 l671), .lp (VX.exit 2) (s16_2_0 z686 k687 k688 z689 z690 b691 b692 l693 l694 l695), .a, .t, .t, .t, .t, .t, .t, .el (W65.cells e696), .t, .el (W65.cells e697), .an (V.hs 0 0 k698) [Ob.cells true true 2 l699], .t, .t, .ft [⟨0, [], []⟩, ⟨1, [], []⟩, ⟨2, [], []⟩, ⟨3, [1], []⟩, ⟨4, [], []⟩, ⟨5, [1], []⟩, ⟨6, [1], []⟩, ⟨7, [], []⟩, ⟨8, [1], []⟩, ⟨9, [1], []⟩, ⟨10, [], []⟩, ⟨11, [3], [3]⟩, ⟨12, [3, 4, 2], [2, 4]⟩, ⟨13, [], []⟩]]) (notIn []) rfl rfl (by kernel_rfl) (And.intro (F37_ok (m + 6) (Int.fdiv z118 2) (0) (67108864) z638 h0) (And.intro (Bool.eq_false_iff.mpr h1) (And.intro h2 (And.intro h3 (And.intro h3 (And.intro h3 (And.intro h3 (And.intro h4 (And.intro h5 (And.intro h6 (And.intro h6 (And.intro h6 (And.intro h6 (And.intro (decide_eq_true h7) (And.intro (decide_eq_true h8) (And.intro (W65.dec_ok h9) (And.intro (decide_eq_true h10) (And.intro (W65.dec_ok h11) (And.intro h12 (And.intro (decide_eq_true h13) (And.intro (decide_eq_true h14) (And.intro (Eq.refl ([⟨0, [], []⟩, ⟨1, [], []⟩, ⟨2, [], []⟩, ⟨3, [1], []⟩, ⟨4, [], []⟩, ⟨5, [1], []⟩, ⟨6, [1], []⟩, ⟨7, [], []⟩, ⟨8, [1], []⟩, ⟨9, [1], []⟩, ⟨10, [], []⟩, ⟨11, [3], [3]⟩, ⟨12, [3, 4, 2], [2, 4]⟩, ⟨13, [], []⟩] : List Foot)) True.intro))))))))))))))))))))))
                        · skip
                          cases h
                      · skip
                        cases h
                  · skip
                    cases h
                · skip
                  cases h
              · skip
                cases h
                exact call_pathL (gs := [.a, .an (i64 z638) [], .f, .a, .an (V.hs 0 0 k641) [Ob.cells true true 6 l642], .t, .t, .a, .t, .t, .lp (VX.exit 0) (s16_0_0 z661 k662 b663 k664 z665 z666 b667 b668 l669 l670 l671), .lp (VX.exit 2) (s16_2_0 z686 k687 k688 z689 z690 b691 b692 l693 l694 l695), .a, .t, .t, .t, .t, .f]) (notIn []) rfl rfl (by kernel_rfl) (And.intro (F37_ok (m + 6) (Int.fdiv z118 2) (0) (67108864) z638 h0) (And.intro (Bool.eq_false_iff.mpr h1) (And.intro h2 (And.intro h3 (And.intro h3 (And.intro h3 (And.intro h3 (And.intro h4 (And.intro h5 (And.intro h6 (And.intro h6 (And.intro h6 (And.intro h6 (And.intro (decide_eq_false h7) True.intro))))))))))))))
            · skip
              cases h
              exact call_pathL (gs := [.a, .an (i64 z638) [], .f, .a, .an (V.hs 0 0 k641) [Ob.cells true true 6 l642], .t, .t, .a, .t, .t, .lp (VX.exit 0) (s16_0_0 z661 k662 b663 k664 z665 z666 b667 b668 l669 l670 l671), .lp (VX.exit 2) (s16_2_0 z686 k687 k688 z689 z690 b691 b692 l693 l694 l695), .a, .f, .f, .f, .f, .a]) (notIn []) rfl rfl (by kernel_rfl) (And.intro (F37_ok (m + 6) (Int.fdiv z118 2) (0) (67108864) z638 h0) (And.intro (Bool.eq_false_iff.mpr h1) (And.intro h2 (And.intro h3 (And.intro h3 (And.intro h3 (And.intro h3 (And.intro h4 (And.intro h5 (And.intro (Bool.eq_false_iff.mpr h6) (And.intro (Bool.eq_false_iff.mpr h6) (And.intro (Bool.eq_false_iff.mpr h6) (And.intro (Bool.eq_false_iff.mpr h6) True.intro)))))))))))))
      · skip
        obtain ⟨r4, h4, h⟩ := Option.bind_eq_some_iff.mp h
        obtain ⟨st4, h4, hr4⟩ := L16_0_ok m 18446744073709551616 (z638) (k641) (false) (0) ((↑k641 : Int)) (0) (b116) (l117) (l642) ([]) r4 h4
        have h4 : loopRun Try.prog X (genO X (call Try.prog X O0 18446744073709551616 (m + 7))) 16 (0) 18446744073709551616 B16 0 ({ T := V.agg [vb b116, V.list 2 l117] :: i64 z118 :: i64 z119 :: V.ptr 0 0 0 :: U :: U :: V.nilS :: i64 z638 :: V.hs 1 0 k641 :: vb false :: V.nilS :: U :: U :: U :: i64 z118 :: i64 (Int.fdiv z118 2) :: i64 z638 :: i64 z638 :: vb (z638 == 0) :: V.agg [vb b116, V.list 2 l117] :: V.hs 1 0 k641 :: i64 z119 :: vb (z119 == 1) :: vb (z119 == 1) :: E :: E :: E :: vb false :: V.hs 1 0 k641 :: i64 (↑k641 : Int) :: i64 0 :: un 64 [], σ := [Ob.cells true false 2 [[vb b116, V.list 2 l117]], Ob.cells true true 6 l642] }) = some st4 := by
          rw [loopRun_from, show pre X 16 (0) 0 ({ T := V.agg [vb b116, V.list 2 l117] :: i64 z118 :: i64 z119 :: V.ptr 0 0 0 :: U :: U :: V.nilS :: i64 z638 :: V.hs 1 0 k641 :: vb false :: V.nilS :: U :: U :: U :: i64 z118 :: i64 (Int.fdiv z118 2) :: i64 z638 :: i64 z638 :: vb (z638 == 0) :: V.agg [vb b116, V.list 2 l117] :: V.hs 1 0 k641 :: i64 z119 :: vb (z119 == 1) :: vb (z119 == 1) :: E :: E :: E :: vb false :: V.hs 1 0 k641 :: i64 (↑k641 : Int) :: i64 0 :: un 64 [], σ := [Ob.cells true false 2 [[vb b116, V.list 2 l117]], Ob.cells true true 6 l642] }) = { T := U :: U :: U :: V.ptr 0 0 0 :: U :: U :: U :: i64 z638 :: V.hs 1 0 k641 :: vb false :: V.hs 2 0 0 :: un 17 (V.hs 1 0 k641 :: i64 (↑k641 : Int) :: i64 0 :: un 64 []), σ := [Ob.cells true false 2 [[vb b116, V.list 2 l117]], Ob.cells true true 6 l642, Ob.cells true true 2 []] } by kernel_rfl]
          exact h4
        cases r4 with
        | e0 z700 k701 k703 b707 l708 l709 l710 =>
          obtain ⟨b702, z704, z705, b706, rfl⟩ := hr4
          obtain ⟨r5, h5, h⟩ := Option.bind_eq_some_iff.mp h
          obtain ⟨st5, h5, hr5⟩ := L16_2_ok m 18446744073709551616 (z700) (k701) (k703) (1) (b707) (l708) (l709) (l710) r5 h5
          have h5 : loopRun Try.prog X (genO X (call Try.prog X O0 18446744073709551616 (m + 7))) 16 (0) 18446744073709551616 B16 2 ({ T := U :: U :: U :: V.ptr 0 0 0 :: U :: U :: U :: i64 z700 :: V.hs 1 0 k701 :: vb b702 :: V.hs 2 0 k703 :: U :: U :: i64 1 :: un 14 (V.hs 1 0 k701 :: i64 z704 :: i64 z705 :: vb b706 :: un 63 []), σ := [Ob.cells true false 2 [[vb b707, V.list 2 l708]], Ob.cells true true 6 l709, Ob.cells true true 2 l710] }) = some st5 := by
            rw [loopRun_from, show pre X 16 (0) 2 ({ T := U :: U :: U :: V.ptr 0 0 0 :: U :: U :: U :: i64 z700 :: V.hs 1 0 k701 :: vb b702 :: V.hs 2 0 k703 :: U :: U :: i64 1 :: un 14 (V.hs 1 0 k701 :: i64 z704 :: i64 z705 :: vb b706 :: un 63 []), σ := [Ob.cells true false 2 [[vb b707, V.list 2 l708]], Ob.cells true true 6 l709, Ob.cells true true 2 l710] }) = { T := U :: U :: U :: V.ptr 0 0 0 :: U :: U :: U :: i64 z700 :: V.hs 1 0 k701 :: U :: V.hs 2 0 k703 :: U :: U :: i64 1 :: un 81 [], σ := [Ob.cells true false 2 [[vb b707, V.list 2 l708]], Ob.cells true true 6 l709, Ob.cells true true 2 l710] } by kernel_rfl]
            exact h5
          cases r5 with
          | e0 z711 k712 k713 b717 l719 l720 =>
            obtain ⟨z714, z715, b716, l718, rfl⟩ := hr5
            rcases ite_eq h with ⟨h6, h⟩ | ⟨h6, h⟩
            · skip
              rcases ite_eq h with ⟨h7, h⟩ | ⟨h7, h⟩
              · skip
                rcases ite_eq h with ⟨h8, h⟩ | ⟨h8, h⟩
                · skip
                  obtain ⟨e721, h9, h⟩ := Option.bind_eq_some_iff.mp h
                  rcases ite_eq h with ⟨h10, h⟩ | ⟨h10, h⟩
                  · skip
                    obtain ⟨e722, h11, h⟩ := Option.bind_eq_some_iff.mp h
                    obtain ⟨r12, h12, h⟩ := Option.bind_eq_some_iff.mp h
                    have h12 := F40_ok (m + 0) (e721.c0) (e721.c1) (e721.c2) (e721.c3) (e721.c4) (e721.c5) (e722.c0) (e722.c1) (e722.c2) (e722.c3) (e722.c4) (e722.c5) (z711) r12 h12
                    cases r12 with
                    | a0 k723 l724 =>
                      rcases ite_eq h with ⟨h13, h⟩ | ⟨h13, h⟩
                      · skip
                        rcases ite_eq h with ⟨h14, h⟩ | ⟨h14, h⟩
                        · skip
                          cases h
                          exact call_pathL (gs := [.a, .an (i64 z638) [], .f, .a, .an (V.hs 0 0 k641) [Ob.cells true true 6 l642], .f, .f, .f, .f, .lp (VX.exit 0) (s16_0_0 z700 k701 b702 k703 z704 z705 b706 b707 l708 l709 l710), .lp (VX.exit 2) (s16_2_0 z711 k712 k713 z714 z715 b716 b717 l718 l719 l720), .a, .t, .t, .t, .t, .t, .t, .el (W65.cells e721), .t, .el (W65.cells e722), .an (V.hs 0 0 k723) [Ob.cells true true 2 l724], .t, .t, .ft [⟨0, [], []⟩, ⟨1, [], []⟩, ⟨2, [], []⟩, ⟨3, [1], []⟩, ⟨4, [], []⟩, ⟨5, [1], []⟩, ⟨6, [1], []⟩, ⟨7, [], []⟩, ⟨8, [1], []⟩, ⟨9, [1], []⟩, ⟨10, [], []⟩, ⟨11, [3], [3]⟩, ⟨12, [3, 4, 2], [2, 4]⟩, ⟨13, [], []⟩]]) (notIn []) rfl rfl (by kernel_rfl) (And.intro (F37_ok (m + 6) (Int.fdiv z118 2) (0) (67108864) z638 h0) (And.intro (Bool.eq_false_iff.mpr h1) (And.intro h2 (And.intro (Bool.eq_false_iff.mpr h3) (And.intro (Bool.eq_false_iff.mpr h3) (And.intro (Bool.eq_false_iff.mpr h3) (And.intro (Bool.eq_false_iff.mpr h3) (And.intro h4 (And.intro h5 (And.intro h6 (And.intro h6 (And.intro h6 (And.intro h6 (And.intro (decide_eq_true h7) (And.intro (decide_eq_true h8) (And.intro (W65.dec_ok h9) (And.intro (decide_eq_true h10) (And.intro (W65.dec_ok h11) (And.intro h12 (And.intro (decide_eq_true h13) (And.intro (decide_eq_true h14) (And.intro (Eq.refl ([⟨0, [], []⟩, ⟨1, [], []⟩, ⟨2, [], []⟩, ⟨3, [1], []⟩, ⟨4, [], []⟩, ⟨5, [1], []⟩, ⟨6, [1], []⟩, ⟨7, [], []⟩, ⟨8, [1], []⟩, ⟨9, [1], []⟩, ⟨10, [], []⟩, ⟨11, [3], [3]⟩, ⟨12, [3, 4, 2], [2, 4]⟩, ⟨13, [], []⟩] : List Foot)) True.intro))))))))))))))))))))))
                        · skip
                          cases h
                      · skip
                        cases h
                  · skip
                    cases h
                · skip
                  cases h
              · skip
                cases h
                exact call_pathL (gs := [.a, .an (i64 z638) [], .f, .a, .an (V.hs 0 0 k641) [Ob.cells true true 6 l642], .f, .f, .f, .f, .lp (VX.exit 0) (s16_0_0 z700 k701 b702 k703 z704 z705 b706 b707 l708 l709 l710), .lp (VX.exit 2) (s16_2_0 z711 k712 k713 z714 z715 b716 b717 l718 l719 l720), .a, .t, .t, .t, .t, .f]) (notIn []) rfl rfl (by kernel_rfl) (And.intro (F37_ok (m + 6) (Int.fdiv z118 2) (0) (67108864) z638 h0) (And.intro (Bool.eq_false_iff.mpr h1) (And.intro h2 (And.intro (Bool.eq_false_iff.mpr h3) (And.intro (Bool.eq_false_iff.mpr h3) (And.intro (Bool.eq_false_iff.mpr h3) (And.intro (Bool.eq_false_iff.mpr h3) (And.intro h4 (And.intro h5 (And.intro h6 (And.intro h6 (And.intro h6 (And.intro h6 (And.intro (decide_eq_false h7) True.intro))))))))))))))
            · skip
              cases h
              exact call_pathL (gs := [.a, .an (i64 z638) [], .f, .a, .an (V.hs 0 0 k641) [Ob.cells true true 6 l642], .f, .f, .f, .f, .lp (VX.exit 0) (s16_0_0 z700 k701 b702 k703 z704 z705 b706 b707 l708 l709 l710), .lp (VX.exit 2) (s16_2_0 z711 k712 k713 z714 z715 b716 b717 l718 l719 l720), .a, .f, .f, .f, .f, .a]) (notIn []) rfl rfl (by kernel_rfl) (And.intro (F37_ok (m + 6) (Int.fdiv z118 2) (0) (67108864) z638 h0) (And.intro (Bool.eq_false_iff.mpr h1) (And.intro h2 (And.intro (Bool.eq_false_iff.mpr h3) (And.intro (Bool.eq_false_iff.mpr h3) (And.intro (Bool.eq_false_iff.mpr h3) (And.intro (Bool.eq_false_iff.mpr h3) (And.intro h4 (And.intro h5 (And.intro (Bool.eq_false_iff.mpr h6) (And.intro (Bool.eq_false_iff.mpr h6) (And.intro (Bool.eq_false_iff.mpr h6) (And.intro (Bool.eq_false_iff.mpr h6) True.intro)))))))))))))
/-! ## 19 -/
noncomputable abbrev B19 : Code := (Try.f19.body).getD .skip
inductive R19_0 where
  | e0
  | e1
@[reducible] def s19_0_0 (l902 : List (List V)) (l903 : List (List V)) (z904 : Int) (z905 : Int) (b906 : Bool) (z907 : Int) (z908 : Int) (z909 : Int) (z910 : Int) (b911 : Bool) : S := { T := V.list 2 l902 :: V.list 2 l903 :: U :: U :: vb false :: i64 z904 :: un 5 [i64 z904, V.list 2 l902, i64 z905, vb b906, U, U, V.list 2 l902, i64 z904, V.pp [i64 z907, i64 z908], V.agg [i64 z907, i64 z908], V.list 2 l903, i64 z904, V.pp [i64 z909, i64 z910], V.agg [i64 z909, i64 z910], vb b911], σ := [] }
@[reducible] def s19_0_1 (l912 : List (List V)) (l913 : List (List V)) (z914 : Int) (z915 : Int) (b916 : Bool) : S := { T := V.list 2 l912 :: V.list 2 l913 :: U :: U :: U :: i64 z914 :: un 5 (i64 z914 :: V.list 2 l912 :: i64 z915 :: vb b916 :: un 11 []), σ := [] }
def R19_0.St : R19_0 → VX × S → Prop
  | .e0, p => ∃ l902 : List (List V), ∃ l903 : List (List V), ∃ z904 : Int, ∃ z905 : Int, ∃ b906 : Bool, ∃ z907 : Int, ∃ z908 : Int, ∃ z909 : Int, ∃ z910 : Int, ∃ b911 : Bool, p = (VX.ret, s19_0_0 l902 l903 z904 z905 b906 z907 z908 z909 z910 b911)
  | .e1, p => ∃ l912 : List (List V), ∃ l913 : List (List V), ∃ z914 : Int, ∃ z915 : Int, ∃ b916 : Bool, p = (VX.exit 0, s19_0_1 l912 l913 z914 z915 b916)
def L19_0 : Nat → List (List V) → List (List V) → Int → Option R19_0
  | 0, _, _, _ => none
  | n + 1, l879, l880, z881 =>
    if z881 < (↑(List.length l879) : Int) then
     if 0 ≤ z881 then
      ((l879[Int.toNat z881]?).bind W43.dec).bind fun e900 =>
      ((l880[Int.toNat z881]?).bind W43.dec).bind fun e901 =>
      if (!(e900.c0 == e901.c0 && (e900.c1 == e901.c1 && true))) = true then
       some (R19_0.e0)
      else
       L19_0 n (l879) (l880) (w64 (z881 + 1))
     else
      none -- none
    else
     some (R19_0.e1)
theorem L19_0_ok (m : Nat) : ∀ (n : Nat) (l879 : List (List V)) (l880 : List (List V)) (z881 : Int) (r : R19_0), L19_0 n l879 l880 z881 = some r → ∃ st, loopFrom Try.prog X (genO X (call Try.prog X O0 18446744073709551616 (m + 0))) 19 (0) 18446744073709551616 B19 0 n ({ T := V.list 2 l879 :: V.list 2 l880 :: U :: U :: U :: i64 z881 :: un 20 [], σ := [] }) = some st ∧ r.St st
  | 0, _, _, _, r, h => by cases h
  | n + 1, l879, l880, z881, r, h => by
    rw [L19_0] at h
    rcases ite_eq h with ⟨h0, h⟩ | ⟨h0, h⟩
    · skip
      rcases ite_eq h with ⟨h1, h⟩ | ⟨h1, h⟩
      · skip
        obtain ⟨e900, h2, h⟩ := Option.bind_eq_some_iff.mp h
        obtain ⟨e901, h3, h⟩ := Option.bind_eq_some_iff.mp h
        rcases ite_eq h with ⟨h4, h⟩ | ⟨h4, h⟩
        · skip
          cases h
          exact ⟨_, round_out (gs := [.t, .t, .el (W43.cells e900), .t, .el (W43.cells e901), .ft [⟨0, [], []⟩, ⟨1, [], []⟩, ⟨2, [], []⟩, ⟨3, [], []⟩, ⟨4, [], []⟩, ⟨5, [], []⟩, ⟨6, [], []⟩, ⟨7, [], []⟩, ⟨8, [], []⟩], .t]) (notIn []) (by kernel_rfl) rfl (And.intro (decide_eq_true h0) (And.intro (decide_eq_true h1) (And.intro (W43.dec_ok h2) (And.intro (decide_eq_true h1) (And.intro (W43.dec_ok h3) (And.intro (Eq.refl ([⟨0, [], []⟩, ⟨1, [], []⟩, ⟨2, [], []⟩, ⟨3, [], []⟩, ⟨4, [], []⟩, ⟨5, [], []⟩, ⟨6, [], []⟩, ⟨7, [], []⟩, ⟨8, [], []⟩] : List Foot)) (And.intro h4 True.intro))))))) n, l879, l880, z881, (↑(List.length l879) : Int), decide (z881 < (↑(List.length l879) : Int)), e900.c0, e900.c1, e901.c0, e901.c1, !(e900.c0 == e901.c0 && (e900.c1 == e901.c1 && true)), rfl⟩
        · skip
          obtain ⟨st, hs, hr⟩ := L19_0_ok m n (l879) (l880) (w64 (z881 + 1)) r h
          exact ⟨st, (round_on (gs := [.t, .t, .el (W43.cells e900), .t, .el (W43.cells e901), .ft [⟨0, [], []⟩, ⟨1, [], []⟩, ⟨2, [], []⟩, ⟨3, [], []⟩, ⟨4, [], []⟩, ⟨5, [], []⟩, ⟨6, [], []⟩, ⟨7, [], []⟩, ⟨8, [], []⟩], .f]) (notIn []) (by kernel_rfl) (And.intro (decide_eq_true h0) (And.intro (decide_eq_true h1) (And.intro (W43.dec_ok h2) (And.intro (decide_eq_true h1) (And.intro (W43.dec_ok h3) (And.intro (Eq.refl ([⟨0, [], []⟩, ⟨1, [], []⟩, ⟨2, [], []⟩, ⟨3, [], []⟩, ⟨4, [], []⟩, ⟨5, [], []⟩, ⟨6, [], []⟩, ⟨7, [], []⟩, ⟨8, [], []⟩] : List Foot)) (And.intro (Bool.eq_false_iff.mpr h4) True.intro))))))) n).trans hs, hr⟩
      · skip
        cases h
    · skip
      cases h
      exact ⟨_, round_out (gs := [.f]) (notIn []) (by kernel_rfl) rfl (And.intro (decide_eq_false h0) True.intro) n, l879, l880, z881, (↑(List.length l879) : Int), decide (z881 < (↑(List.length l879) : Int)), rfl⟩
inductive A19 where
  | a0 (b899 : Bool)
@[reducible] def A19.out : A19 → V × Store
  | .a0 b899 => (vb b899, [])
def F19 (l862 : List (List V)) (l863 : List (List V)) : Option A19 :=
  if ((↑(List.length l862) : Int) != (↑(List.length l863) : Int)) = true then
   some (A19.a0 (false))
  else
   (L19_0 18446744073709551616 (l862) (l863) (0)).bind fun r => match r with
   | .e0 =>
    some (A19.a0 (false))
   | .e1 =>
    some (A19.a0 (true))
theorem F19_ok (m : Nat) (l862 : List (List V)) (l863 : List (List V)) (r : A19) (h : F19 l862 l863 = some r) : call Try.prog X O0 18446744073709551616 (m + 1) 19 ([V.list 2 l862, V.list 2 l863]) ([]) = some r.out := by
  unfold F19 at h
  rcases ite_eq h with ⟨h0, h⟩ | ⟨h0, h⟩
  · skip
    cases h
    exact call_pathL (gs := [.t]) (notIn []) rfl rfl (by kernel_rfl) (And.intro h0 True.intro)
  · skip
    obtain ⟨r1, h1, h⟩ := Option.bind_eq_some_iff.mp h
    obtain ⟨st1, h1, hr1⟩ := L19_0_ok m 18446744073709551616 (l862) (l863) (0) r1 h1
    have h1 : loopRun Try.prog X (genO X (call Try.prog X O0 18446744073709551616 (m + 0))) 19 (0) 18446744073709551616 B19 0 ({ T := V.list 2 l862 :: V.list 2 l863 :: U :: U :: vb false :: i64 0 :: V.list 2 l862 :: i64 (↑(List.length l862) : Int) :: V.list 2 l863 :: i64 (↑(List.length l863) : Int) :: vb ((↑(List.length l862) : Int) != (↑(List.length l863) : Int)) :: un 15 [], σ := [] }) = some st1 := by
      rw [loopRun_from, show pre X 19 (0) 0 ({ T := V.list 2 l862 :: V.list 2 l863 :: U :: U :: vb false :: i64 0 :: V.list 2 l862 :: i64 (↑(List.length l862) : Int) :: V.list 2 l863 :: i64 (↑(List.length l863) : Int) :: vb ((↑(List.length l862) : Int) != (↑(List.length l863) : Int)) :: un 15 [], σ := [] }) = { T := V.list 2 l862 :: V.list 2 l863 :: U :: U :: U :: i64 0 :: un 20 [], σ := [] } by kernel_rfl]
      exact h1
    cases r1 with
    | e0 =>
      obtain ⟨l917, l918, z919, z920, b921, z922, z923, z924, z925, b926, rfl⟩ := hr1
      cases h
      exact call_pathL (gs := [.f, .lp (VX.ret) (s19_0_0 l917 l918 z919 z920 b921 z922 z923 z924 z925 b926)]) (notIn []) rfl rfl (by kernel_rfl) (And.intro (Bool.eq_false_iff.mpr h0) (And.intro h1 True.intro))
    | e1 =>
      obtain ⟨l927, l928, z929, z930, b931, rfl⟩ := hr1
      cases h
      exact call_pathL (gs := [.f, .lp (VX.exit 0) (s19_0_1 l927 l928 z929 z930 b931)]) (notIn []) rfl rfl (by kernel_rfl) (And.intro (Bool.eq_false_iff.mpr h0) (And.intro h1 True.intro))
/-! ## 20 -/
inductive A20 where
  | a0 (b940 : Bool)
@[reducible] def A20.out : A20 → V × Store
  | .a0 b940 => (vb b940, [])
def F20 : Option A20 :=
  (F16 (false) ([[i64 0, i64 0], [i64 262144, i64 0]]) (131072) (0)).bind fun r => match r with
  | .a0 k934 l935 =>
   if ((↑k934 : Int) == 1) = true then
    if (0 : Int) ≤ (0 : Int) ∧ (0 : Int) < (↑k934 : Int) then
     ((l935[(0 : Nat)]?).bind W25.dec).bind fun e936 =>
     if ((↑(List.length e936.2) : Int) == 4) = true then
      if (e936.c0) = true then
       (F17 (e936.2)).bind fun r => match r with
       | .a0 z937 =>
        if (z937 == 68719476736) = true then
         (F16 (false) ([]) (65536) (0)).bind fun r => match r with
         | .a0 k938 l939 =>
          some (A20.a0 ((↑k938 : Int) == 0))
        else
         some (A20.a0 (false))
      else
       some (A20.a0 (false))
     else
      some (A20.a0 (false))
    else
     none -- none
   else
    some (A20.a0 (false))
theorem F20_ok (m : Nat) (r : A20) (h : F20 = some r) : call Try.prog X O0 18446744073709551616 (m + 9) 20 ([]) ([]) = some r.out := by
  unfold F20 at h
  obtain ⟨r0, h0, h⟩ := Option.bind_eq_some_iff.mp h
  have h0 := F16_ok (m + 0) (false) ([[i64 0, i64 0], [i64 262144, i64 0]]) (131072) (0) r0 h0
  cases r0 with
  | a0 k934 l935 =>
    rcases ite_eq h with ⟨h1, h⟩ | ⟨h1, h⟩
    · skip
      rcases ite_eq h with ⟨h2, h⟩ | ⟨h2, h⟩
      · skip
        obtain ⟨e936, h3, h⟩ := Option.bind_eq_some_iff.mp h
        rcases ite_eq h with ⟨h4, h⟩ | ⟨h4, h⟩
        · skip
          rcases ite_eq h with ⟨h5, h⟩ | ⟨h5, h⟩
          · skip
            obtain ⟨r6, h6, h⟩ := Option.bind_eq_some_iff.mp h
            have h6 := F17_ok (m + 4) (e936.2) r6 h6
            cases r6 with
            | a0 z937 =>
              rcases ite_eq h with ⟨h7, h⟩ | ⟨h7, h⟩
              · skip
                obtain ⟨r8, h8, h⟩ := Option.bind_eq_some_iff.mp h
                have h8 := F16_ok (m + 0) (false) ([]) (65536) (0) r8 h8
                cases r8 with
                | a0 k938 l939 =>
                  cases h
                  exact call_pathL (gs := [.a, .an (V.hs 0 0 k934) [Ob.cells true true 2 l935], .t, .t, .t, .t, .t, .el (W25.cells e936), .t, .t, .t, .t, .t, .t, .t, .t, .el (W25.cells e936), .t, .t, .t, .t, .t, .t, .el (W25.cells e936), .t, .an (i64 z937) [], .t, .t, .t, .t, .an (V.hs 0 0 k938) [Ob.cells true true 2 l939], .t, .t, .t]) (notIn []) rfl rfl (by kernel_rfl) (And.intro h0 (And.intro h1 (And.intro h1 (And.intro (decide_eq_true h2) (And.intro h1 (And.intro h1 (And.intro (W25.dec_ok h3) (And.intro h1 (And.intro h1 (And.intro h1 (And.intro h4 (And.intro h4 (And.intro (decide_eq_true h2) (And.intro h4 (And.intro h4 (And.intro (W25.dec_ok h3) (And.intro h4 (And.intro h5 (And.intro h5 (And.intro (decide_eq_true h2) (And.intro h5 (And.intro h5 (And.intro (W25.dec_ok h3) (And.intro h5 (And.intro h6 (And.intro h5 (And.intro h5 (And.intro h7 (And.intro h7 (And.intro h8 (And.intro h7 (And.intro h7 (And.intro h7 True.intro)))))))))))))))))))))))))))))))))
              · skip
                cases h
                exact call_pathL (gs := [.a, .an (V.hs 0 0 k934) [Ob.cells true true 2 l935], .t, .t, .t, .t, .t, .el (W25.cells e936), .t, .t, .t, .t, .t, .t, .t, .t, .el (W25.cells e936), .t, .t, .t, .t, .t, .t, .el (W25.cells e936), .t, .an (i64 z937) [], .t, .t, .f, .f, .f, .f, .f]) (notIn []) rfl rfl (by kernel_rfl) (And.intro h0 (And.intro h1 (And.intro h1 (And.intro (decide_eq_true h2) (And.intro h1 (And.intro h1 (And.intro (W25.dec_ok h3) (And.intro h1 (And.intro h1 (And.intro h1 (And.intro h4 (And.intro h4 (And.intro (decide_eq_true h2) (And.intro h4 (And.intro h4 (And.intro (W25.dec_ok h3) (And.intro h4 (And.intro h5 (And.intro h5 (And.intro (decide_eq_true h2) (And.intro h5 (And.intro h5 (And.intro (W25.dec_ok h3) (And.intro h5 (And.intro h6 (And.intro h5 (And.intro h5 (And.intro (Bool.eq_false_iff.mpr h7) (And.intro (Bool.eq_false_iff.mpr h7) (And.intro (Bool.eq_false_iff.mpr h7) (And.intro (Bool.eq_false_iff.mpr h7) (And.intro (Bool.eq_false_iff.mpr h7) True.intro))))))))))))))))))))))))))))))))
          · skip
            cases h
            exact call_pathL (gs := [.a, .an (V.hs 0 0 k934) [Ob.cells true true 2 l935], .t, .t, .t, .t, .t, .el (W25.cells e936), .t, .t, .t, .t, .t, .t, .t, .t, .el (W25.cells e936), .t, .f, .f, .f, .f, .f, .f, .f, .a, .a, .a, .a, .a]) (notIn []) rfl rfl (by kernel_rfl) (And.intro h0 (And.intro h1 (And.intro h1 (And.intro (decide_eq_true h2) (And.intro h1 (And.intro h1 (And.intro (W25.dec_ok h3) (And.intro h1 (And.intro h1 (And.intro h1 (And.intro h4 (And.intro h4 (And.intro (decide_eq_true h2) (And.intro h4 (And.intro h4 (And.intro (W25.dec_ok h3) (And.intro h4 (And.intro (Bool.eq_false_iff.mpr h5) (And.intro (Bool.eq_false_iff.mpr h5) (And.intro (Bool.eq_false_iff.mpr h5) (And.intro (Bool.eq_false_iff.mpr h5) (And.intro (Bool.eq_false_iff.mpr h5) (And.intro (Bool.eq_false_iff.mpr h5) (And.intro (Bool.eq_false_iff.mpr h5) True.intro))))))))))))))))))))))))
        · skip
          cases h
          exact call_pathL (gs := [.a, .an (V.hs 0 0 k934) [Ob.cells true true 2 l935], .t, .t, .t, .t, .t, .el (W25.cells e936), .t, .t, .t, .f, .f, .f, .f, .f, .a, .a, .a, .a, .a, .a, .a, .a, .a, .a, .a, .a]) (notIn []) rfl rfl (by kernel_rfl) (And.intro h0 (And.intro h1 (And.intro h1 (And.intro (decide_eq_true h2) (And.intro h1 (And.intro h1 (And.intro (W25.dec_ok h3) (And.intro h1 (And.intro h1 (And.intro h1 (And.intro (Bool.eq_false_iff.mpr h4) (And.intro (Bool.eq_false_iff.mpr h4) (And.intro (Bool.eq_false_iff.mpr h4) (And.intro (Bool.eq_false_iff.mpr h4) (And.intro (Bool.eq_false_iff.mpr h4) True.intro)))))))))))))))
      · skip
        cases h
    · skip
      cases h
      exact call_pathL (gs := [.a, .an (V.hs 0 0 k934) [Ob.cells true true 2 l935], .f, .f, .f, .f, .f, .f, .f, .a, .a, .a, .a, .a, .a, .a, .a, .a, .a, .a, .a, .a, .a, .a, .a, .a]) (notIn []) rfl rfl (by kernel_rfl) (And.intro h0 (And.intro (Bool.eq_false_iff.mpr h1) (And.intro (Bool.eq_false_iff.mpr h1) (And.intro (Bool.eq_false_iff.mpr h1) (And.intro (Bool.eq_false_iff.mpr h1) (And.intro (Bool.eq_false_iff.mpr h1) (And.intro (Bool.eq_false_iff.mpr h1) (And.intro (Bool.eq_false_iff.mpr h1) True.intro))))))))
end Go.Proofs.Ytojigbcgmneiiaa.H
