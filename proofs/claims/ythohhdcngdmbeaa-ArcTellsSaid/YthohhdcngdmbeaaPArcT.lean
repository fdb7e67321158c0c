/- What the functions compute, and that they do so over the machine of plain values (printed by this session's program wip/vm/Walk.lean). No condition beyond those stated. -/
import Derived.Test.YthohhdcngdmbeaaWk
import Derived.Test.YthohhdcngdmbeaaRowsR2
set_option linter.unusedVariables false
set_option linter.unusedSimpArgs false
namespace Go.Proofs.Ythohhdcngdmbeaa.H
open Go Go.VM
set_option maxRecDepth 100000
/-! ## 17 -/
inductive A17 where
  | a0 (z27 : Int)
@[reducible] def A17.out : A17 → V × Store
  | .a0 z27 => (i64 z27, [])
def F17 (z23 : Int) (z24 : Int) (z25 : Int) : Option A17 :=
  if z23 ≥ z24 then
   if z23 ≤ z25 then
    some (A17.a0 (z23))
   else
    if w64 (w64 (z25 - z24) + 1) = 0 then
     none -- none
    else
     if Int.tmod z23 (w64 (w64 (z25 - z24) + 1)) < 0 then
      some (A17.a0 (w64 (z24 + w64 (w64 (w64 (Int.tmod z23 (w64 (w64 (z25 - z24) + 1)) + z25) - z24) + 1))))
     else
      some (A17.a0 (w64 (z24 + Int.tmod z23 (w64 (w64 (z25 - z24) + 1)))))
  else
   if w64 (w64 (z25 - z24) + 1) = 0 then
    none -- none
   else
    if Int.tmod z23 (w64 (w64 (z25 - z24) + 1)) < 0 then
     some (A17.a0 (w64 (z24 + w64 (w64 (w64 (Int.tmod z23 (w64 (w64 (z25 - z24) + 1)) + z25) - z24) + 1))))
    else
     some (A17.a0 (w64 (z24 + Int.tmod z23 (w64 (w64 (z25 - z24) + 1)))))
theorem F17_ok (m : Nat) (z23 : Int) (z24 : Int) (z25 : Int) (r : A17) (h : F17 z23 z24 z25 = some r) : call Try.prog X O0 100000 (m + 1) 17 ([i64 z23, i64 z24, i64 z25]) ([]) = some r.out := by
  unfold F17 at h
  rcases ite_eq h with ⟨h0, h⟩ | ⟨h0, h⟩
  · skip
    rcases ite_eq h with ⟨h1, h⟩ | ⟨h1, h⟩
    · skip
      cases h
      exact call_pathL (gs := [.t, .t, .t, .t, .t]) (notIn []) rfl rfl (by kernel_rfl) (And.intro (decide_eq_true h0) (And.intro (decide_eq_true h0) (And.intro (decide_eq_true h0) (And.intro (decide_eq_true h0) (And.intro (decide_eq_true h1) True.intro)))))
    · skip
      rcases ite_eq h with ⟨h2, h⟩ | ⟨h2, h⟩
      · skip
        cases h
      · skip
        rcases ite_eq h with ⟨h3, h⟩ | ⟨h3, h⟩
        · skip
          cases h
          exact call_pathL (gs := [.t, .t, .t, .t, .f, .f, .t]) (notIn []) rfl rfl (by kernel_rfl) (And.intro (decide_eq_true h0) (And.intro (decide_eq_true h0) (And.intro (decide_eq_true h0) (And.intro (decide_eq_true h0) (And.intro (decide_eq_false h1) (And.intro (decide_eq_false h2) (And.intro (decide_eq_true h3) True.intro)))))))
        · skip
          cases h
          exact call_pathL (gs := [.t, .t, .t, .t, .f, .f, .f]) (notIn []) rfl rfl (by kernel_rfl) (And.intro (decide_eq_true h0) (And.intro (decide_eq_true h0) (And.intro (decide_eq_true h0) (And.intro (decide_eq_true h0) (And.intro (decide_eq_false h1) (And.intro (decide_eq_false h2) (And.intro (decide_eq_false h3) True.intro)))))))
  · skip
    rcases ite_eq h with ⟨h1, h⟩ | ⟨h1, h⟩
    · skip
      cases h
    · skip
      rcases ite_eq h with ⟨h2, h⟩ | ⟨h2, h⟩
      · skip
        cases h
        exact call_pathL (gs := [.f, .f, .f, .f, .a, .f, .t]) (notIn []) rfl rfl (by kernel_rfl) (And.intro (decide_eq_false h0) (And.intro (decide_eq_false h0) (And.intro (decide_eq_false h0) (And.intro (decide_eq_false h0) (And.intro (decide_eq_false h1) (And.intro (decide_eq_true h2) True.intro))))))
      · skip
        cases h
        exact call_pathL (gs := [.f, .f, .f, .f, .a, .f, .f]) (notIn []) rfl rfl (by kernel_rfl) (And.intro (decide_eq_false h0) (And.intro (decide_eq_false h0) (And.intro (decide_eq_false h0) (And.intro (decide_eq_false h0) (And.intro (decide_eq_false h1) (And.intro (decide_eq_false h2) True.intro))))))
/-! ## 15 -/
inductive A15 where
  | a0 (z19 : Int) (l20 : List (List V)) (z21 : Int)
@[reducible] def A15.out : A15 → V × Store
  | .a0 z19 l20 z21 => (i64 z19, [Ob.cells true false 2 [[V.list 1 l20, i64 z21]]])
def F15 (z15 : Int) (l16 : List (List V)) (z17 : Int) : Option A15 :=
  if z17 ≥ (↑(List.length l16) : Int) then
   some (A15.a0 (0) (l16) (z17))
  else
   if 0 ≤ w64 (w64 (z17 + 1) - 1) then
    ((l16[Int.toNat (w64 (w64 (z17 + (1 : Int)) - (1 : Int)))]?).bind W3.dec).bind fun e22 =>
    (F17 (e22.c0) (0) (1073741824)).bind fun r => match r with
    | .a0 z28 =>
     if z15 = 0 then
      none -- none
     else
      some (A15.a0 (Int.tmod z28 z15) (l16) (w64 (z17 + 1)))
   else
    none -- none
theorem F15_ok (m : Nat) (z15 : Int) (l16 : List (List V)) (z17 : Int) (r : A15) (h : F15 z15 l16 z17 = some r) : call Try.prog X O0 100000 (m + 2) 15 ([V.ptr 0 0 0, i64 z15]) ([Ob.cells true false 2 [[V.list 1 l16, i64 z17]]]) = some r.out := by
  unfold F15 at h
  rcases ite_eq h with ⟨h0, h⟩ | ⟨h0, h⟩
  · skip
    cases h
    exact call_pathL (gs := [.a, .a, .ft [⟨0, [], []⟩, ⟨1, [0], []⟩, ⟨2, [0], []⟩, ⟨3, [0], []⟩, ⟨4, [], []⟩, ⟨5, [0], []⟩, ⟨6, [0], []⟩, ⟨7, [0], []⟩, ⟨8, [], []⟩, ⟨9, [], []⟩], .t]) (notIn []) rfl rfl (by kernel_rfl) (And.intro (Eq.refl ([⟨0, [], []⟩, ⟨1, [0], []⟩, ⟨2, [0], []⟩, ⟨3, [0], []⟩, ⟨4, [], []⟩, ⟨5, [0], []⟩, ⟨6, [0], []⟩, ⟨7, [0], []⟩, ⟨8, [], []⟩, ⟨9, [], []⟩] : List Foot)) (And.intro (decide_eq_true h0) True.intro))
  · skip
    rcases ite_eq h with ⟨h1, h⟩ | ⟨h1, h⟩
    · skip
      obtain ⟨e22, h2, h⟩ := Option.bind_eq_some_iff.mp h
      obtain ⟨r3, h3, h⟩ := Option.bind_eq_some_iff.mp h
      have h3 := F17_ok (m + 0) (e22.c0) (0) (1073741824) r3 h3
      cases r3 with
      | a0 z28 =>
        rcases ite_eq h with ⟨h4, h⟩ | ⟨h4, h⟩
        · skip
          cases h
        · skip
          cases h
          exact call_pathL (gs := [.a, .a, .ft [⟨0, [], []⟩, ⟨1, [0], []⟩, ⟨2, [0], []⟩, ⟨3, [0], []⟩, ⟨4, [], []⟩, ⟨5, [0], []⟩, ⟨6, [0], []⟩, ⟨7, [0], []⟩, ⟨8, [], []⟩, ⟨9, [], []⟩], .f, .a, .a, .a, .a, .t, .el (W3.cells e22), .an (i64 z28) [], .f, .ft [⟨0, [], []⟩, ⟨1, [0], []⟩, ⟨2, [0], []⟩, ⟨3, [0], []⟩, ⟨4, [], []⟩, ⟨5, [0], []⟩, ⟨6, [0], []⟩, ⟨7, [0], []⟩, ⟨8, [], []⟩, ⟨9, [], []⟩, ⟨10, [], []⟩, ⟨11, [], []⟩, ⟨12, [], []⟩, ⟨13, [], []⟩, ⟨14, [], []⟩]]) (notIn []) rfl rfl (by kernel_rfl) (And.intro (Eq.refl ([⟨0, [], []⟩, ⟨1, [0], []⟩, ⟨2, [0], []⟩, ⟨3, [0], []⟩, ⟨4, [], []⟩, ⟨5, [0], []⟩, ⟨6, [0], []⟩, ⟨7, [0], []⟩, ⟨8, [], []⟩, ⟨9, [], []⟩] : List Foot)) (And.intro (decide_eq_false h0) (And.intro (decide_eq_true h1) (And.intro (W3.dec_ok h2) (And.intro h3 (And.intro (decide_eq_false h4) (And.intro (Eq.refl ([⟨0, [], []⟩, ⟨1, [0], []⟩, ⟨2, [0], []⟩, ⟨3, [0], []⟩, ⟨4, [], []⟩, ⟨5, [0], []⟩, ⟨6, [0], []⟩, ⟨7, [0], []⟩, ⟨8, [], []⟩, ⟨9, [], []⟩, ⟨10, [], []⟩, ⟨11, [], []⟩, ⟨12, [], []⟩, ⟨13, [], []⟩, ⟨14, [], []⟩] : List Foot)) True.intro)))))))
    · skip
      cases h
/-! ## 54 -/
inductive A54 where
  | a0 (z50 : Int) (l51 : List (List V)) (z52 : Int)
@[reducible] def A54.out : A54 → V × Store
  | .a0 z50 l51 z52 => (i64 z50, [Ob.cells true false 2 [[V.list 1 l51, i64 z52]]])
def F54 (z39 : Int) (z40 : Int) (l41 : List (List V)) (z42 : Int) : Option A54 :=
  (F15 (w64 (w64 (z40 - z39) + 1)) (l41) (z42)).bind fun r => match r with
  | .a0 z44 l45 z46 =>
   (F15 (4) (l45) (z46)).bind fun r => match r with
   | .a0 z47 l48 z49 =>
    if (z47 == 0) = true then
     some (A54.a0 (w64 (w64 (w64 (z39 + z44) * 65536) + 32768)) (l48) (z49))
    else
     if (z47 == 1) = true then
      (F15 (65536) (l48) (z49)).bind fun r => match r with
      | .a0 z53 l54 z55 =>
       some (A54.a0 (w64 (w64 (w64 (z39 + z44) * 65536) + z53)) (l54) (z55))
     else
      some (A54.a0 (w64 (w64 (z39 + z44) * 65536)) (l48) (z49))
theorem F54_ok (m : Nat) (z39 : Int) (z40 : Int) (l41 : List (List V)) (z42 : Int) (r : A54) (h : F54 z39 z40 l41 z42 = some r) : call Try.prog X O0 100000 (m + 3) 54 ([V.ptr 0 0 0, i64 z39, i64 z40]) ([Ob.cells true false 2 [[V.list 1 l41, i64 z42]]]) = some r.out := by
  unfold F54 at h
  obtain ⟨r0, h0, h⟩ := Option.bind_eq_some_iff.mp h
  have h0 := F15_ok (m + 0) (w64 (w64 (z40 - z39) + 1)) (l41) (z42) r0 h0
  cases r0 with
  | a0 z44 l45 z46 =>
    obtain ⟨r1, h1, h⟩ := Option.bind_eq_some_iff.mp h
    have h1 := F15_ok (m + 0) (4) (l45) (z46) r1 h1
    cases r1 with
    | a0 z47 l48 z49 =>
      rcases ite_eq h with ⟨h2, h⟩ | ⟨h2, h⟩
      · skip
        cases h
        exact call_pathL (gs := [.an (i64 z44) [Ob.cells true false 2 [[V.list 1 l45, i64 z46]]], .an (i64 z47) [Ob.cells true false 2 [[V.list 1 l48, i64 z49]]], .t]) (notIn []) rfl rfl (by kernel_rfl) (And.intro h0 (And.intro h1 (And.intro h2 True.intro)))
      · skip
        rcases ite_eq h with ⟨h3, h⟩ | ⟨h3, h⟩
        · skip
          obtain ⟨r4, h4, h⟩ := Option.bind_eq_some_iff.mp h
          have h4 := F15_ok (m + 0) (65536) (l48) (z49) r4 h4
          cases r4 with
          | a0 z53 l54 z55 =>
            cases h
            exact call_pathL (gs := [.an (i64 z44) [Ob.cells true false 2 [[V.list 1 l45, i64 z46]]], .an (i64 z47) [Ob.cells true false 2 [[V.list 1 l48, i64 z49]]], .f, .t, .an (i64 z53) [Ob.cells true false 2 [[V.list 1 l54, i64 z55]]]]) (notIn []) rfl rfl (by kernel_rfl) (And.intro h0 (And.intro h1 (And.intro (Bool.eq_false_iff.mpr h2) (And.intro h3 (And.intro h4 True.intro)))))
        · skip
          cases h
          exact call_pathL (gs := [.an (i64 z44) [Ob.cells true false 2 [[V.list 1 l45, i64 z46]]], .an (i64 z47) [Ob.cells true false 2 [[V.list 1 l48, i64 z49]]], .f, .f]) (notIn []) rfl rfl (by kernel_rfl) (And.intro h0 (And.intro h1 (And.intro (Bool.eq_false_iff.mpr h2) (And.intro (Bool.eq_false_iff.mpr h3) True.intro))))
/-! ## 22 -/
noncomputable abbrev B22 : Code := (Try.f22.body).getD .skip
inductive R22_0 where
  | e0 (l134 : List (List V)) (z135 : Int) (b136 : Bool)
  | e1 (l148 : List (List V)) (z149 : Int) (b150 : Bool) (k151 : Nat) (l152 : List (List V))
@[reducible] def s22_0_0 (z132 : Int) (b133 : Bool) (l134 : List (List V)) (z135 : Int) (b136 : Bool) : S := { T := V.ptr 0 0 0 :: U :: V.ptr 1 0 0 :: V.ptr 2 0 0 :: i64 z132 :: un 7 (i64 z132 :: vb b133 :: un 23 []), σ := [Ob.cells true false 2 [[V.list 1 l134, i64 z135]], Ob.cells true false 2 [[vb false, V.nilS]], Ob.cells true false 2 [[vb b136, V.nilS]]] }
@[reducible] def s22_0_1 (z146 : Int) (b147 : Bool) (l148 : List (List V)) (z149 : Int) (b150 : Bool) (k151 : Nat) (l152 : List (List V)) : S := { T := V.ptr 0 0 0 :: U :: V.ptr 1 0 0 :: V.ptr 2 0 0 :: i64 z146 :: un 7 (i64 z146 :: vb b147 :: un 23 []), σ := [Ob.cells true false 2 [[V.list 1 l148, i64 z149]], Ob.cells true false 2 [[vb false, V.nilS]], Ob.cells true false 2 [[vb b150, V.hs 3 0 k151]], Ob.cells true true 2 l152] }
def R22_0.St : R22_0 → VX × S → Prop
  | .e0 l134 z135 b136, p => ∃ z132 : Int, ∃ b133 : Bool, p = (VX.exit 0, s22_0_0 z132 b133 l134 z135 b136)
  | .e1 l148 z149 b150 k151 l152, p => ∃ z146 : Int, ∃ b147 : Bool, p = (VX.exit 0, s22_0_1 z146 b147 l148 z149 b150 k151 l152)
def L22_0s1 : Nat → Int → List (List V) → Int → Bool → Nat → List (List V) → Option R22_0
  | 0, _, _, _, _, _, _ => none
  | n + 1, z70, l71, z72, b73, k74, l75 =>
    if z70 > 0 then
     (F54 (-5) (20) (l71) (z72)).bind fun r => match r with
     | .a0 z137 l138 z139 =>
      (F54 (-5) (20) (l138) (z139)).bind fun r => match r with
      | .a0 z140 l141 z142 =>
       if 0 + k74 ≤ List.length l75 ∧ (k74 + 1) * 16 ≤ 140737488355328 ∧ k74 + 1 ≤ 140737488355328 then
        (F15 (6) (l141) (z142)).bind fun r => match r with
        | .a0 z143 l144 z145 =>
         if (z143 == 0) = true then
          if 0 + (k74 + 1) ≤ List.length (List.take k74 l75 ++ [[i64 z137, i64 z140]]) ∧ (k74 + 1 + 1) * 16 ≤ 140737488355328 ∧ k74 + 1 + 1 ≤ 140737488355328 then
           L22_0s1 n (w64 (z70 - 1)) (l144) (z145) (b73) (k74 + 1 + 1) (List.take (k74 + 1) (List.take k74 l75 ++ [[i64 z137, i64 z140]]) ++ [[i64 z137, i64 z140]])
          else
           none -- none
         else
          L22_0s1 n (w64 (z70 - 1)) (l144) (z145) (b73) (k74 + 1) (List.take k74 l75 ++ [[i64 z137, i64 z140]])
       else
        none -- none
    else
     some (R22_0.e1 (l71) (z72) (b73) (k74) (l75))
theorem L22_0s1_ok (m : Nat) : ∀ (n : Nat) (z70 : Int) (l71 : List (List V)) (z72 : Int) (b73 : Bool) (k74 : Nat) (l75 : List (List V)) (r : R22_0), L22_0s1 n z70 l71 z72 b73 k74 l75 = some r → ∃ st, loopFrom Try.prog X (call Try.prog X O0 100000 (m + 3)) 22 (1) 100000 B22 0 n ({ T := V.ptr 0 0 0 :: U :: V.ptr 1 0 0 :: V.ptr 2 0 0 :: i64 z70 :: un 32 [], σ := [Ob.cells true false 2 [[V.list 1 l71, i64 z72]], Ob.cells true false 2 [[vb false, V.nilS]], Ob.cells true false 2 [[vb b73, V.hs 3 0 k74]], Ob.cells true true 2 l75] }) = some st ∧ r.St st
  | 0, _, _, _, _, _, _, r, h => by cases h
  | n + 1, z70, l71, z72, b73, k74, l75, r, h => by
    rw [L22_0s1] at h
    rcases ite_eq h with ⟨h0, h⟩ | ⟨h0, h⟩
    · skip
      obtain ⟨r1, h1, h⟩ := Option.bind_eq_some_iff.mp h
      have h1 := F54_ok (m + 0) (-5) (20) (l71) (z72) r1 h1
      cases r1 with
      | a0 z137 l138 z139 =>
        obtain ⟨r2, h2, h⟩ := Option.bind_eq_some_iff.mp h
        have h2 := F54_ok (m + 0) (-5) (20) (l138) (z139) r2 h2
        cases r2 with
        | a0 z140 l141 z142 =>
          rcases ite_eq h with ⟨h3, h⟩ | ⟨h3, h⟩
          · skip
            obtain ⟨r4, h4, h⟩ := Option.bind_eq_some_iff.mp h
            have h4 := F15_ok (m + 1) (6) (l141) (z142) r4 h4
            cases r4 with
            | a0 z143 l144 z145 =>
              rcases ite_eq h with ⟨h5, h⟩ | ⟨h5, h⟩
              · skip
                rcases ite_eq h with ⟨h6, h⟩ | ⟨h6, h⟩
                · skip
                  obtain ⟨st, hs, hr⟩ := L22_0s1_ok m n (w64 (z70 - 1)) (l144) (z145) (b73) (k74 + 1 + 1) (List.take (k74 + 1) (List.take k74 l75 ++ [[i64 z137, i64 z140]]) ++ [[i64 z137, i64 z140]]) r h
                  exact ⟨st, (round_on (gs := [.t, .an (i64 z137) [Ob.cells true false 2 [[V.list 1 l138, i64 z139]]], .an (i64 z140) [Ob.cells true false 2 [[V.list 1 l141, i64 z142]]], .a, .a, .a, .a, .t, .a, .an (i64 z143) [Ob.cells true false 2 [[V.list 1 l144, i64 z145]]], .t, .a, .a, .a, .t, .a]) (notIn []) (by kernel_rfl) (And.intro (decide_eq_true h0) (And.intro h1 (And.intro h2 (And.intro (decide_eq_true h3) (And.intro h4 (And.intro h5 (And.intro (decide_eq_true h6) True.intro))))))) n).trans hs, hr⟩
                · skip
                  cases h
              · skip
                obtain ⟨st, hs, hr⟩ := L22_0s1_ok m n (w64 (z70 - 1)) (l144) (z145) (b73) (k74 + 1) (List.take k74 l75 ++ [[i64 z137, i64 z140]]) r h
                exact ⟨st, (round_on (gs := [.t, .an (i64 z137) [Ob.cells true false 2 [[V.list 1 l138, i64 z139]]], .an (i64 z140) [Ob.cells true false 2 [[V.list 1 l141, i64 z142]]], .a, .a, .a, .a, .t, .a, .an (i64 z143) [Ob.cells true false 2 [[V.list 1 l144, i64 z145]]], .f]) (notIn []) (by kernel_rfl) (And.intro (decide_eq_true h0) (And.intro h1 (And.intro h2 (And.intro (decide_eq_true h3) (And.intro h4 (And.intro (Bool.eq_false_iff.mpr h5) True.intro)))))) n).trans hs, hr⟩
          · skip
            cases h
    · skip
      cases h
      exact ⟨_, round_out (gs := [.f]) (notIn []) (by kernel_rfl) rfl (And.intro (decide_eq_false h0) True.intro) n, z70, decide (z70 > 0), rfl⟩
def L22_0 : Nat → Int → List (List V) → Int → Bool → Option R22_0
  | 0, _, _, _, _ => none
  | n + 1, z35, l36, z37, b38 =>
    if z35 > 0 then
     (F54 (-5) (20) (l36) (z37)).bind fun r => match r with
     | .a0 z123 l124 z125 =>
      (F54 (-5) (20) (l124) (z125)).bind fun r => match r with
      | .a0 z126 l127 z128 =>
       (F15 (6) (l127) (z128)).bind fun r => match r with
       | .a0 z129 l130 z131 =>
        if (z129 == 0) = true then
         L22_0s1 n (w64 (z35 - 1)) (l130) (z131) (b38) (2) ([[i64 z123, i64 z126], [i64 z123, i64 z126]])
        else
         L22_0s1 n (w64 (z35 - 1)) (l130) (z131) (b38) (1) ([[i64 z123, i64 z126]])
    else
     some (R22_0.e0 (l36) (z37) (b38))
theorem L22_0_ok (m : Nat) : ∀ (n : Nat) (z35 : Int) (l36 : List (List V)) (z37 : Int) (b38 : Bool) (r : R22_0), L22_0 n z35 l36 z37 b38 = some r → ∃ st, loopFrom Try.prog X (call Try.prog X O0 100000 (m + 3)) 22 (1) 100000 B22 0 n ({ T := V.ptr 0 0 0 :: U :: V.ptr 1 0 0 :: V.ptr 2 0 0 :: i64 z35 :: un 32 [], σ := [Ob.cells true false 2 [[V.list 1 l36, i64 z37]], Ob.cells true false 2 [[vb false, V.nilS]], Ob.cells true false 2 [[vb b38, V.nilS]]] }) = some st ∧ r.St st
  | 0, _, _, _, _, r, h => by cases h
  | n + 1, z35, l36, z37, b38, r, h => by
    rw [L22_0] at h
    rcases ite_eq h with ⟨h0, h⟩ | ⟨h0, h⟩
    · skip
      obtain ⟨r1, h1, h⟩ := Option.bind_eq_some_iff.mp h
      have h1 := F54_ok (m + 0) (-5) (20) (l36) (z37) r1 h1
      cases r1 with
      | a0 z123 l124 z125 =>
        obtain ⟨r2, h2, h⟩ := Option.bind_eq_some_iff.mp h
        have h2 := F54_ok (m + 0) (-5) (20) (l124) (z125) r2 h2
        cases r2 with
        | a0 z126 l127 z128 =>
          obtain ⟨r3, h3, h⟩ := Option.bind_eq_some_iff.mp h
          have h3 := F15_ok (m + 1) (6) (l127) (z128) r3 h3
          cases r3 with
          | a0 z129 l130 z131 =>
            rcases ite_eq h with ⟨h4, h⟩ | ⟨h4, h⟩
            · skip
              obtain ⟨st, hs, hr⟩ := L22_0s1_ok m n (w64 (z35 - 1)) (l130) (z131) (b38) (2) ([[i64 z123, i64 z126], [i64 z123, i64 z126]]) r h
              exact ⟨st, (round_on (gs := [.t, .an (i64 z123) [Ob.cells true false 2 [[V.list 1 l124, i64 z125]]], .an (i64 z126) [Ob.cells true false 2 [[V.list 1 l127, i64 z128]]], .a, .a, .a, .a, .a, .a, .an (i64 z129) [Ob.cells true false 2 [[V.list 1 l130, i64 z131]]], .t, .a, .a, .a, .a, .a]) (notIn []) (by kernel_rfl) (And.intro (decide_eq_true h0) (And.intro h1 (And.intro h2 (And.intro h3 (And.intro h4 True.intro))))) n).trans hs, hr⟩
            · skip
              obtain ⟨st, hs, hr⟩ := L22_0s1_ok m n (w64 (z35 - 1)) (l130) (z131) (b38) (1) ([[i64 z123, i64 z126]]) r h
              exact ⟨st, (round_on (gs := [.t, .an (i64 z123) [Ob.cells true false 2 [[V.list 1 l124, i64 z125]]], .an (i64 z126) [Ob.cells true false 2 [[V.list 1 l127, i64 z128]]], .a, .a, .a, .a, .a, .a, .an (i64 z129) [Ob.cells true false 2 [[V.list 1 l130, i64 z131]]], .f]) (notIn []) (by kernel_rfl) (And.intro (decide_eq_true h0) (And.intro h1 (And.intro h2 (And.intro h3 (And.intro (Bool.eq_false_iff.mpr h4) True.intro))))) n).trans hs, hr⟩
    · skip
      cases h
      exact ⟨_, round_out (gs := [.f]) (notIn []) (by kernel_rfl) rfl (And.intro (decide_eq_false h0) True.intro) n, z35, decide (z35 > 0), rfl⟩
inductive A22 where
  | a0 (b158 : Bool) (l159 : List (List V)) (z160 : Int)
  | a1 (b168 : Bool) (k169 : Nat) (l170 : List (List V)) (z171 : Int) (l172 : List (List V))
@[reducible] def A22.out : A22 → V × Store
  | .a0 b158 l159 z160 => (V.agg [vb b158, V.nilS], [Ob.cells true false 2 [[V.list 1 l159, i64 z160]]])
  | .a1 b168 k169 l170 z171 l172 => (V.agg [vb b168, V.hs 1 0 k169], [Ob.cells true false 2 [[V.list 1 l170, i64 z171]], Ob.cells true true 2 l172])
def F22 (l12 : List (List V)) (z13 : Int) : Option A22 :=
  (F15 (2) (l12) (z13)).bind fun r => match r with
  | .a0 z117 l118 z119 =>
   (F15 (7) (l118) (z119)).bind fun r => match r with
   | .a0 z120 l121 z122 =>
    (L22_0 100000 (z120) (l121) (z122) (z117 == 0)).bind fun r => match r with
    | .e0 l155 z156 b157 =>
     some (A22.a0 (b157) (l155) (z156))
    | .e1 l163 z164 b165 k166 l167 =>
     some (A22.a1 (b165) (k166) (l163) (z164) (l167))
theorem F22_ok (m : Nat) (l12 : List (List V)) (z13 : Int) (r : A22) (h : F22 l12 z13 = some r) : call Try.prog X O0 100000 (m + 4) 22 ([V.ptr 0 0 0]) ([Ob.cells true false 2 [[V.list 1 l12, i64 z13]]]) = some r.out := by
  unfold F22 at h
  obtain ⟨r0, h0, h⟩ := Option.bind_eq_some_iff.mp h
  have h0 := F15_ok (m + 1) (2) (l12) (z13) r0 h0
  cases r0 with
  | a0 z117 l118 z119 =>
    obtain ⟨r1, h1, h⟩ := Option.bind_eq_some_iff.mp h
    have h1 := F15_ok (m + 1) (7) (l118) (z119) r1 h1
    cases r1 with
    | a0 z120 l121 z122 =>
      obtain ⟨r2, h2, h⟩ := Option.bind_eq_some_iff.mp h
      obtain ⟨st2, h2, hr2⟩ := L22_0_ok m 100000 (z120) (l121) (z122) (z117 == 0) r2 h2
      have h2 : loopRun Try.prog X (call Try.prog X O0 100000 (m + 3)) 22 (1) 100000 B22 0 ({ T := V.ptr 0 0 0 :: U :: V.ptr 1 0 0 :: V.ptr 2 0 0 :: i64 z120 :: U :: V.ptr 0 0 0 :: i64 z117 :: vb (z117 == 0) :: V.agg [vb (z117 == 0), V.nilS] :: V.ptr 0 0 0 :: i64 z120 :: un 25 [], σ := [Ob.cells true false 2 [[V.list 1 l121, i64 z122]], Ob.cells true false 2 [[vb false, V.nilS]], Ob.cells true false 2 [[vb (z117 == 0), V.nilS]]] }) = some st2 := by
        rw [loopRun_from, show prep (1) (X.keep 22 0) ({ T := V.ptr 0 0 0 :: U :: V.ptr 1 0 0 :: V.ptr 2 0 0 :: i64 z120 :: U :: V.ptr 0 0 0 :: i64 z117 :: vb (z117 == 0) :: V.agg [vb (z117 == 0), V.nilS] :: V.ptr 0 0 0 :: i64 z120 :: un 25 [], σ := [Ob.cells true false 2 [[V.list 1 l121, i64 z122]], Ob.cells true false 2 [[vb false, V.nilS]], Ob.cells true false 2 [[vb (z117 == 0), V.nilS]]] }) = { T := V.ptr 0 0 0 :: U :: V.ptr 1 0 0 :: V.ptr 2 0 0 :: i64 z120 :: un 32 [], σ := [Ob.cells true false 2 [[V.list 1 l121, i64 z122]], Ob.cells true false 2 [[vb false, V.nilS]], Ob.cells true false 2 [[vb (z117 == 0), V.nilS]]] } by kernel_rfl]
        exact h2
      cases r2 with
      | e0 l155 z156 b157 =>
        obtain ⟨z153, b154, rfl⟩ := hr2
        cases h
        exact call_pathL (gs := [.an (i64 z117) [Ob.cells true false 2 [[V.list 1 l118, i64 z119]]], .a, .an (i64 z120) [Ob.cells true false 2 [[V.list 1 l121, i64 z122]]], .lp (VX.exit 0) (s22_0_0 z153 b154 l155 z156 b157), .a, .a]) (notIn []) rfl rfl (by kernel_rfl) (And.intro h0 (And.intro h1 (And.intro h2 True.intro)))
      | e1 l163 z164 b165 k166 l167 =>
        obtain ⟨z161, b162, rfl⟩ := hr2
        cases h
        exact call_pathL (gs := [.an (i64 z117) [Ob.cells true false 2 [[V.list 1 l118, i64 z119]]], .a, .an (i64 z120) [Ob.cells true false 2 [[V.list 1 l121, i64 z122]]], .lp (VX.exit 0) (s22_0_1 z161 b162 l163 z164 b165 k166 l167), .a, .a]) (notIn []) rfl rfl (by kernel_rfl) (And.intro h0 (And.intro h1 (And.intro h2 True.intro)))
/-! ## 26 -/
def F26 (b182 : Bool) : Int :=
  if (b182) = true then
   0
  else
   0
theorem F26_ok (m : Nat) (b182 : Bool) (z185 : Int) (h : F26 b182 = z185) : call Try.prog X O0 100000 (m + 1) 26 ([V.agg [vb b182, V.nilS]]) ([]) = some (i64 z185, []) := by
  unfold F26 at h
  rcases ite_eq h with ⟨h0, h⟩ | ⟨h0, h⟩
  · skip
    subst h
    exact call_pathL (gs := [.a, .a, .t, .t, .t, .a]) (notIn []) rfl rfl (by kernel_rfl) (And.intro h0 (And.intro h0 (And.intro h0 True.intro)))
  · skip
    subst h
    exact call_pathL (gs := [.a, .a, .f, .f, .f, .a]) (notIn []) rfl rfl (by kernel_rfl) (And.intro (Bool.eq_false_iff.mpr h0) (And.intro (Bool.eq_false_iff.mpr h0) (And.intro (Bool.eq_false_iff.mpr h0) True.intro)))
/-! ## 55 -/
inductive A55 where
@[reducible] def A55.out : A55 → V × Store
  := fun x => nomatch x
def F55 (b189 : Bool) (z190 : Int) : Option A55 :=
  none -- none
theorem F55_ok (m : Nat) (b189 : Bool) (z190 : Int) (r : A55) (h : F55 b189 z190 = some r) : call Try.prog X O0 100000 (m + 1) 55 ([V.agg [vb b189, V.nilS], i64 z190]) ([]) = some r.out := by
  unfold F55 at h
  cases h
/-! ## 23 -/
noncomputable abbrev B23 : Code := (Try.f23.body).getD .skip
inductive R23_0 where
  | e0
@[reducible] def s23_0_0 (z200 : Int) (b201 : Bool) (b202 : Bool) : S := { T := U :: V.ptr 0 0 0 :: U :: i64 0 :: un 5 (i64 z200 :: i64 0 :: vb b201 :: un 13 []), σ := [Ob.cells true false 2 [[vb b202, V.nilS]]] }
def R23_0.St : R23_0 → VX × S → Prop
  | .e0, p => ∃ z200 : Int, ∃ b201 : Bool, ∃ b202 : Bool, p = (VX.exit 0, s23_0_0 z200 b201 b202)
def L23_0 : Nat → Int → Bool → Option R23_0
  | 0, _, _ => none
  | n + 1, z187, b188 =>
    if 0 < z187 then
     none -- F55 has no answer
    else
     some (R23_0.e0)
theorem L23_0_ok (m : Nat) : ∀ (n : Nat) (z187 : Int) (b188 : Bool) (r : R23_0), L23_0 n z187 b188 = some r → ∃ st, loopFrom Try.prog X (call Try.prog X O0 100000 (m + 1)) 23 (0) 100000 B23 0 n ({ T := U :: V.ptr 0 0 0 :: U :: i64 0 :: un 5 (i64 z187 :: i64 0 :: un 14 []), σ := [Ob.cells true false 2 [[vb b188, V.nilS]]] }) = some st ∧ r.St st
  | 0, _, _, r, h => by cases h
  | n + 1, z187, b188, r, h => by
    rw [L23_0] at h
    rcases ite_eq h with ⟨h0, h⟩ | ⟨h0, h⟩
    · skip
      cases h
    · skip
      cases h
      exact ⟨_, round_out (gs := [.f]) (notIn []) (by kernel_rfl) rfl (And.intro (decide_eq_false h0) True.intro) n, z187, decide (0 < z187), b188, rfl⟩
inductive A23 where
  | a0 (z206 : Int)
@[reducible] def A23.out : A23 → V × Store
  | .a0 z206 => (i64 z206, [])
def F23 (b180 : Bool) : Option A23 :=
  bnd (F26 (b180)) fun z199 =>
  (L23_0 100000 (z199) (b180)).bind fun r => match r with
  | .e0 =>
   some (A23.a0 (0))
theorem F23_ok (m : Nat) (b180 : Bool) (r : A23) (h : F23 b180 = some r) : call Try.prog X O0 100000 (m + 2) 23 ([V.agg [vb b180, V.nilS]]) ([]) = some r.out := by
  unfold F23 at h
  obtain ⟨z199, h0, h⟩ := bnd_eq h
  obtain ⟨r1, h1, h⟩ := Option.bind_eq_some_iff.mp h
  obtain ⟨st1, h1, hr1⟩ := L23_0_ok m 100000 (z199) (b180) r1 h1
  have h1 : loopRun Try.prog X (call Try.prog X O0 100000 (m + 1)) 23 (0) 100000 B23 0 ({ T := V.agg [vb b180, V.nilS] :: V.ptr 0 0 0 :: i64 0 :: i64 0 :: un 4 (V.agg [vb b180, V.nilS] :: i64 z199 :: i64 0 :: un 14 []), σ := [Ob.cells true false 2 [[vb b180, V.nilS]]] }) = some st1 := by
    rw [loopRun_from, show prep (0) (X.keep 23 0) ({ T := V.agg [vb b180, V.nilS] :: V.ptr 0 0 0 :: i64 0 :: i64 0 :: un 4 (V.agg [vb b180, V.nilS] :: i64 z199 :: i64 0 :: un 14 []), σ := [Ob.cells true false 2 [[vb b180, V.nilS]]] }) = { T := U :: V.ptr 0 0 0 :: U :: i64 0 :: un 5 (i64 z199 :: i64 0 :: un 14 []), σ := [Ob.cells true false 2 [[vb b180, V.nilS]]] } by kernel_rfl]
    exact h1
  cases r1 with
  | e0 =>
    obtain ⟨z203, b204, b205, rfl⟩ := hr1
    cases h
    exact call_pathL (gs := [.a, .an (i64 z199) [], .lp (VX.exit 0) (s23_0_0 z203 b204 b205)]) (notIn []) rfl rfl (by kernel_rfl) (And.intro (F26_ok (m + 0) (b180) z199 h0) (And.intro h1 True.intro))
/-! ## 58 -/
def F58 (b211 : Bool) : Int :=
  0
theorem F58_ok (m : Nat) (b211 : Bool) (z214 : Int) (h : F58 b211 = z214) : call Try.prog X O0 100000 (m + 1) 58 ([V.agg [vb b211, V.nilS]]) ([]) = some (i64 z214, []) := by
  unfold F58 at h
  subst h
  exact call_pathL (gs := [.a, .a]) (notIn []) rfl rfl (by kernel_rfl) True.intro
/-! ## 59 -/
inductive A59 where
@[reducible] def A59.out : A59 → V × Store
  := fun x => nomatch x
def F59 (b216 : Bool) (z217 : Int) : Option A59 :=
  none -- none
theorem F59_ok (m : Nat) (b216 : Bool) (z217 : Int) (r : A59) (h : F59 b216 z217 = some r) : call Try.prog X O0 100000 (m + 1) 59 ([V.agg [vb b216, V.nilS], i64 z217]) ([]) = some r.out := by
  unfold F59 at h
  cases h
/-! ## 29 -/
noncomputable abbrev B29 : Code := (Try.f29.body).getD .skip
inductive R29_0 where
  | e0
@[reducible] def s29_0_0 (b227 : Bool) (z228 : Int) (b229 : Bool) : S := { T := U :: V.ptr 0 0 0 :: U :: i64 0 :: i64 0 :: U :: U :: i64 0 :: V.agg [vb b227, V.nilS] :: i64 z228 :: vb b229 :: un 14 [], σ := [Ob.cells true false 2 [[vb b227, V.nilS]]] }
def R29_0.St : R29_0 → VX × S → Prop
  | .e0, p => ∃ b227 : Bool, ∃ z228 : Int, ∃ b229 : Bool, p = (VX.exit 0, s29_0_0 b227 z228 b229)
def L29_0 : Nat → Bool → Option R29_0
  | 0, _ => none
  | n + 1, b210 =>
    bnd (F58 (b210)) fun z226 =>
    if 0 < z226 then
     none -- F59 has no answer
    else
     some (R29_0.e0)
theorem L29_0_ok (m : Nat) : ∀ (n : Nat) (b210 : Bool) (r : R29_0), L29_0 n b210 = some r → ∃ st, loopFrom Try.prog X (call Try.prog X O0 100000 (m + 1)) 29 (0) 100000 B29 0 n ({ T := U :: V.ptr 0 0 0 :: U :: i64 0 :: i64 0 :: un 20 [], σ := [Ob.cells true false 2 [[vb b210, V.nilS]]] }) = some st ∧ r.St st
  | 0, _, r, h => by cases h
  | n + 1, b210, r, h => by
    rw [L29_0] at h
    obtain ⟨z226, h0, h⟩ := bnd_eq h
    rcases ite_eq h with ⟨h1, h⟩ | ⟨h1, h⟩
    · skip
      cases h
    · skip
      cases h
      exact ⟨_, round_out (gs := [.a, .an (i64 z226) [], .f]) (notIn []) (by kernel_rfl) rfl (And.intro (F58_ok (m + 0) (b210) z226 h0) (And.intro (decide_eq_false h1) True.intro)) n, b210, z226, decide (0 < z226), rfl⟩
inductive A29 where
  | a0 (z233 : Int)
@[reducible] def A29.out : A29 → V × Store
  | .a0 z233 => (i64 z233, [])
def F29 (b208 : Bool) : Option A29 :=
  (L29_0 100000 (b208)).bind fun r => match r with
  | .e0 =>
   some (A29.a0 (0))
theorem F29_ok (m : Nat) (b208 : Bool) (r : A29) (h : F29 b208 = some r) : call Try.prog X O0 100000 (m + 2) 29 ([V.agg [vb b208, V.nilS]]) ([]) = some r.out := by
  unfold F29 at h
  obtain ⟨r0, h0, h⟩ := Option.bind_eq_some_iff.mp h
  obtain ⟨st0, h0, hr0⟩ := L29_0_ok m 100000 (b208) r0 h0
  have h0 : loopRun Try.prog X (call Try.prog X O0 100000 (m + 1)) 29 (0) 100000 B29 0 ({ T := V.agg [vb b208, V.nilS] :: V.ptr 0 0 0 :: i64 0 :: i64 0 :: i64 0 :: un 20 [], σ := [Ob.cells true false 2 [[vb b208, V.nilS]]] }) = some st0 := by
    rw [loopRun_from, show prep (0) (X.keep 29 0) ({ T := V.agg [vb b208, V.nilS] :: V.ptr 0 0 0 :: i64 0 :: i64 0 :: i64 0 :: un 20 [], σ := [Ob.cells true false 2 [[vb b208, V.nilS]]] }) = { T := U :: V.ptr 0 0 0 :: U :: i64 0 :: i64 0 :: un 20 [], σ := [Ob.cells true false 2 [[vb b208, V.nilS]]] } by kernel_rfl]
    exact h0
  cases r0 with
  | e0 =>
    obtain ⟨b230, z231, b232, rfl⟩ := hr0
    cases h
    exact call_pathL (gs := [.lp (VX.exit 0) (s29_0_0 b230 z231 b232)]) (notIn []) rfl rfl (by kernel_rfl) (And.intro h0 True.intro)
/-! ## 90 -/
def F90 (z243 : Int) (z244 : Int) (z245 : Int) : Int :=
  if z243 < z244 then
   z244
  else
   if z243 > z245 then
    z245
   else
    z243
theorem F90_ok (m : Nat) (z243 : Int) (z244 : Int) (z245 : Int) (z248 : Int) (h : F90 z243 z244 z245 = z248) : call Try.prog X O0 100000 (m + 1) 90 ([i64 z243, i64 z244, i64 z245]) ([]) = some (i64 z248, []) := by
  unfold F90 at h
  rcases ite_eq h with ⟨h0, h⟩ | ⟨h0, h⟩
  · skip
    subst h
    exact call_pathL (gs := [.t]) (notIn []) rfl rfl (by kernel_rfl) (And.intro (decide_eq_true h0) True.intro)
  · skip
    rcases ite_eq h with ⟨h1, h⟩ | ⟨h1, h⟩
    · skip
      subst h
      exact call_pathL (gs := [.f, .t]) (notIn []) rfl rfl (by kernel_rfl) (And.intro (decide_eq_false h0) (And.intro (decide_eq_true h1) True.intro))
    · skip
      subst h
      exact call_pathL (gs := [.f, .f]) (notIn []) rfl rfl (by kernel_rfl) (And.intro (decide_eq_false h0) (And.intro (decide_eq_false h1) True.intro))
/-! ## 57 -/
def F57 (z241 : Int) : Int :=
  bnd (F90 (z241) (-1099511627776) (1099511627776)) fun z249 =>
  z249
theorem F57_ok (m : Nat) (z241 : Int) (z251 : Int) (h : F57 z241 = z251) : call Try.prog X O0 100000 (m + 2) 57 ([i64 z241]) ([]) = some (i64 z251, []) := by
  unfold F57 at h
  obtain ⟨z249, h0, h⟩ := bnd_eq h
  subst h
  exact call_pathL (gs := [.an (i64 z249) []]) (notIn []) rfl rfl (by kernel_rfl) (And.intro (F90_ok (m + 0) (z241) (-1099511627776) (1099511627776) z249 h0) True.intro)
/-! ## 24 -/
noncomputable abbrev B24 : Code := (Try.f24.body).getD .skip
inductive R24_0 where
  | e0
@[reducible] def s24_0_0 (z274 : Int) (z275 : Int) (z276 : Int) (b277 : Bool) (b278 : Bool) : S := { T := U :: i64 z274 :: i64 z275 :: V.ptr 0 0 0 :: U :: U :: V.ptr 1 0 0 :: V.ptr 2 0 0 :: i64 0 :: un 13 (i64 z276 :: i64 0 :: vb b277 :: un 55 []), σ := [Ob.cells true false 2 [[vb b278, V.nilS]], Ob.cells true false 2 [[vb false, V.nilS]], Ob.cells true false 2 [[vb false, V.nilS]]] }
def R24_0.St : R24_0 → VX × S → Prop
  | .e0, p => ∃ z274 : Int, ∃ z275 : Int, ∃ z276 : Int, ∃ b277 : Bool, ∃ b278 : Bool, p = (VX.exit 0, s24_0_0 z274 z275 z276 b277 b278)
def L24_0 : Nat → Int → Int → Int → Bool → Option R24_0
  | 0, _, _, _, _ => none
  | n + 1, z256, z257, z258, b259 =>
    if 0 < z258 then
     none -- F55 has no answer
    else
     some (R24_0.e0)
theorem L24_0_ok (m : Nat) : ∀ (n : Nat) (z256 : Int) (z257 : Int) (z258 : Int) (b259 : Bool) (r : R24_0), L24_0 n z256 z257 z258 b259 = some r → ∃ st, loopFrom Try.prog X (call Try.prog X O0 100000 (m + 2)) 24 (0) 100000 B24 0 n ({ T := U :: i64 z256 :: i64 z257 :: V.ptr 0 0 0 :: U :: U :: V.ptr 1 0 0 :: V.ptr 2 0 0 :: i64 0 :: un 13 (i64 z258 :: i64 0 :: un 56 []), σ := [Ob.cells true false 2 [[vb b259, V.nilS]], Ob.cells true false 2 [[vb false, V.nilS]], Ob.cells true false 2 [[vb false, V.nilS]]] }) = some st ∧ r.St st
  | 0, _, _, _, _, r, h => by cases h
  | n + 1, z256, z257, z258, b259, r, h => by
    rw [L24_0] at h
    rcases ite_eq h with ⟨h0, h⟩ | ⟨h0, h⟩
    · skip
      cases h
    · skip
      cases h
      exact ⟨_, round_out (gs := [.f]) (notIn []) (by kernel_rfl) rfl (And.intro (decide_eq_false h0) True.intro) n, z256, z257, z258, decide (0 < z258), b259, rfl⟩
inductive A24 where
  | a0 (b272 : Bool)
@[reducible] def A24.out : A24 → V × Store
  | .a0 b272 => (V.agg [vb b272, V.nilS], [])
def F24 (b237 : Bool) (z238 : Int) (z239 : Int) : Option A24 :=
  bnd (F57 (z238)) fun z270 =>
  bnd (F57 (z239)) fun z271 =>
  if z270 ≥ z271 then
   some (A24.a0 (false))
  else
   bnd (F26 (b237)) fun z273 =>
   (L24_0 100000 (z270) (z271) (z273) (b237)).bind fun r => match r with
   | .e0 =>
    some (A24.a0 (false))
theorem F24_ok (m : Nat) (b237 : Bool) (z238 : Int) (z239 : Int) (r : A24) (h : F24 b237 z238 z239 = some r) : call Try.prog X O0 100000 (m + 3) 24 ([V.agg [vb b237, V.nilS], i64 z238, i64 z239]) ([]) = some r.out := by
  unfold F24 at h
  obtain ⟨z270, h0, h⟩ := bnd_eq h
  obtain ⟨z271, h1, h⟩ := bnd_eq h
  rcases ite_eq h with ⟨h2, h⟩ | ⟨h2, h⟩
  · skip
    cases h
    exact call_pathL (gs := [.an (i64 z270) [], .an (i64 z271) [], .t, .a, .a]) (notIn []) rfl rfl (by kernel_rfl) (And.intro (F57_ok (m + 0) (z238) z270 h0) (And.intro (F57_ok (m + 0) (z239) z271 h1) (And.intro (decide_eq_true h2) True.intro)))
  · skip
    obtain ⟨z273, h3, h⟩ := bnd_eq h
    obtain ⟨r4, h4, h⟩ := Option.bind_eq_some_iff.mp h
    obtain ⟨st4, h4, hr4⟩ := L24_0_ok m 100000 (z270) (z271) (z273) (b237) r4 h4
    have h4 : loopRun Try.prog X (call Try.prog X O0 100000 (m + 2)) 24 (0) 100000 B24 0 ({ T := V.agg [vb b237, V.nilS] :: i64 z270 :: i64 z271 :: V.ptr 0 0 0 :: U :: U :: V.ptr 1 0 0 :: V.ptr 2 0 0 :: i64 0 :: un 4 (i64 z238 :: i64 z270 :: i64 z239 :: i64 z271 :: i64 z270 :: i64 z271 :: vb (decide (z270 ≥ z271)) :: U :: V.agg [vb b237, V.nilS] :: i64 z273 :: i64 0 :: un 56 []), σ := [Ob.cells true false 2 [[vb b237, V.nilS]], Ob.cells true false 2 [[vb false, V.nilS]], Ob.cells true false 2 [[vb false, V.nilS]]] }) = some st4 := by
      rw [loopRun_from, show prep (0) (X.keep 24 0) ({ T := V.agg [vb b237, V.nilS] :: i64 z270 :: i64 z271 :: V.ptr 0 0 0 :: U :: U :: V.ptr 1 0 0 :: V.ptr 2 0 0 :: i64 0 :: un 4 (i64 z238 :: i64 z270 :: i64 z239 :: i64 z271 :: i64 z270 :: i64 z271 :: vb (decide (z270 ≥ z271)) :: U :: V.agg [vb b237, V.nilS] :: i64 z273 :: i64 0 :: un 56 []), σ := [Ob.cells true false 2 [[vb b237, V.nilS]], Ob.cells true false 2 [[vb false, V.nilS]], Ob.cells true false 2 [[vb false, V.nilS]]] }) = { T := U :: i64 z270 :: i64 z271 :: V.ptr 0 0 0 :: U :: U :: V.ptr 1 0 0 :: V.ptr 2 0 0 :: i64 0 :: un 13 (i64 z273 :: i64 0 :: un 56 []), σ := [Ob.cells true false 2 [[vb b237, V.nilS]], Ob.cells true false 2 [[vb false, V.nilS]], Ob.cells true false 2 [[vb false, V.nilS]]] } by kernel_rfl]
      exact h4
    cases r4 with
    | e0 =>
      obtain ⟨z279, z280, z281, b282, b283, rfl⟩ := hr4
      cases h
      exact call_pathL (gs := [.an (i64 z270) [], .an (i64 z271) [], .f, .a, .an (i64 z273) [], .lp (VX.exit 0) (s24_0_0 z279 z280 z281 b282 b283), .a, .a]) (notIn []) rfl rfl (by kernel_rfl) (And.intro (F57_ok (m + 0) (z238) z270 h0) (And.intro (F57_ok (m + 0) (z239) z271 h1) (And.intro (decide_eq_false h2) (And.intro (F26_ok (m + 1) (b237) z273 h3) (And.intro h4 True.intro)))))
/-! ## 101 -/
def F101 (z291 : Int) (z292 : Int) (z293 : Int) : Int :=
  if z291 < z292 then
   z292
  else
   if z291 > z293 then
    z293
   else
    z291
theorem F101_ok (m : Nat) (z291 : Int) (z292 : Int) (z293 : Int) (z296 : Int) (h : F101 z291 z292 z293 = z296) : call Try.prog X O0 100000 (m + 1) 101 ([i64 z291, i64 z292, i64 z293]) ([]) = some (i64 z296, []) := by
  unfold F101 at h
  rcases ite_eq h with ⟨h0, h⟩ | ⟨h0, h⟩
  · skip
    subst h
    exact call_pathL (gs := [.t]) (notIn []) rfl rfl (by kernel_rfl) (And.intro (decide_eq_true h0) True.intro)
  · skip
    rcases ite_eq h with ⟨h1, h⟩ | ⟨h1, h⟩
    · skip
      subst h
      exact call_pathL (gs := [.f, .t]) (notIn []) rfl rfl (by kernel_rfl) (And.intro (decide_eq_false h0) (And.intro (decide_eq_true h1) True.intro))
    · skip
      subst h
      exact call_pathL (gs := [.f, .f]) (notIn []) rfl rfl (by kernel_rfl) (And.intro (decide_eq_false h0) (And.intro (decide_eq_false h1) True.intro))
/-! ## 74 -/
def F74 (z289 : Int) : Int :=
  bnd (F101 (z289) (-1099511627776) (1099511627776)) fun z297 =>
  z297
theorem F74_ok (m : Nat) (z289 : Int) (z299 : Int) (h : F74 z289 = z299) : call Try.prog X O0 100000 (m + 2) 74 ([i64 z289]) ([]) = some (i64 z299, []) := by
  unfold F74 at h
  obtain ⟨z297, h0, h⟩ := bnd_eq h
  subst h
  exact call_pathL (gs := [.an (i64 z297) []]) (notIn []) rfl rfl (by kernel_rfl) (And.intro (F101_ok (m + 0) (z289) (-1099511627776) (1099511627776) z297 h0) True.intro)
/-! ## 70 -/
noncomputable abbrev B70 : Code := (Try.f70.body).getD .skip
inductive R70_0 where
  | e0
@[reducible] def s70_0_0 (z321 : Int) (z322 : Int) (b323 : Bool) (z324 : Int) (b325 : Bool) : S := { T := U :: i64 z321 :: i64 z322 :: V.ptr 0 0 0 :: U :: U :: V.ptr 1 0 0 :: V.ptr 2 0 0 :: i64 0 :: i64 0 :: un 12 (i64 0 :: V.agg [vb b323, V.nilS] :: i64 z324 :: vb b325 :: un 56 []), σ := [Ob.cells true false 2 [[vb b323, V.nilS]], Ob.cells true false 2 [[vb false, V.nilS]], Ob.cells true false 2 [[vb false, V.nilS]]] }
def R70_0.St : R70_0 → VX × S → Prop
  | .e0, p => ∃ z321 : Int, ∃ z322 : Int, ∃ b323 : Bool, ∃ z324 : Int, ∃ b325 : Bool, p = (VX.exit 0, s70_0_0 z321 z322 b323 z324 b325)
def L70_0 : Nat → Int → Int → Bool → Option R70_0
  | 0, _, _, _ => none
  | n + 1, z303, z304, b305 =>
    bnd (F58 (b305)) fun z320 =>
    if 0 < z320 then
     none -- F59 has no answer
    else
     some (R70_0.e0)
theorem L70_0_ok (m : Nat) : ∀ (n : Nat) (z303 : Int) (z304 : Int) (b305 : Bool) (r : R70_0), L70_0 n z303 z304 b305 = some r → ∃ st, loopFrom Try.prog X (call Try.prog X O0 100000 (m + 2)) 70 (0) 100000 B70 0 n ({ T := U :: i64 z303 :: i64 z304 :: V.ptr 0 0 0 :: U :: U :: V.ptr 1 0 0 :: V.ptr 2 0 0 :: i64 0 :: i64 0 :: un 72 [], σ := [Ob.cells true false 2 [[vb b305, V.nilS]], Ob.cells true false 2 [[vb false, V.nilS]], Ob.cells true false 2 [[vb false, V.nilS]]] }) = some st ∧ r.St st
  | 0, _, _, _, r, h => by cases h
  | n + 1, z303, z304, b305, r, h => by
    rw [L70_0] at h
    obtain ⟨z320, h0, h⟩ := bnd_eq h
    rcases ite_eq h with ⟨h1, h⟩ | ⟨h1, h⟩
    · skip
      cases h
    · skip
      cases h
      exact ⟨_, round_out (gs := [.a, .an (i64 z320) [], .f]) (notIn []) (by kernel_rfl) rfl (And.intro (F58_ok (m + 1) (b305) z320 h0) (And.intro (decide_eq_false h1) True.intro)) n, z303, z304, b305, z320, decide (0 < z320), rfl⟩
inductive A70 where
  | a0 (b319 : Bool)
@[reducible] def A70.out : A70 → V × Store
  | .a0 b319 => (V.agg [vb b319, V.nilS], [])
def F70 (b285 : Bool) (z286 : Int) (z287 : Int) : Option A70 :=
  bnd (F74 (z286)) fun z317 =>
  bnd (F74 (z287)) fun z318 =>
  if z317 ≥ z318 then
   some (A70.a0 (false))
  else
   (L70_0 100000 (z317) (z318) (b285)).bind fun r => match r with
   | .e0 =>
    some (A70.a0 (false))
theorem F70_ok (m : Nat) (b285 : Bool) (z286 : Int) (z287 : Int) (r : A70) (h : F70 b285 z286 z287 = some r) : call Try.prog X O0 100000 (m + 3) 70 ([V.agg [vb b285, V.nilS], i64 z286, i64 z287]) ([]) = some r.out := by
  unfold F70 at h
  obtain ⟨z317, h0, h⟩ := bnd_eq h
  obtain ⟨z318, h1, h⟩ := bnd_eq h
  rcases ite_eq h with ⟨h2, h⟩ | ⟨h2, h⟩
  · skip
    cases h
    exact call_pathL (gs := [.an (i64 z317) [], .an (i64 z318) [], .t, .a, .a]) (notIn []) rfl rfl (by kernel_rfl) (And.intro (F74_ok (m + 0) (z286) z317 h0) (And.intro (F74_ok (m + 0) (z287) z318 h1) (And.intro (decide_eq_true h2) True.intro)))
  · skip
    obtain ⟨r3, h3, h⟩ := Option.bind_eq_some_iff.mp h
    obtain ⟨st3, h3, hr3⟩ := L70_0_ok m 100000 (z317) (z318) (b285) r3 h3
    have h3 : loopRun Try.prog X (call Try.prog X O0 100000 (m + 2)) 70 (0) 100000 B70 0 ({ T := V.agg [vb b285, V.nilS] :: i64 z317 :: i64 z318 :: V.ptr 0 0 0 :: U :: U :: V.ptr 1 0 0 :: V.ptr 2 0 0 :: i64 0 :: i64 0 :: un 4 (i64 z286 :: i64 z317 :: i64 z287 :: i64 z318 :: i64 z317 :: i64 z318 :: vb (decide (z317 ≥ z318)) :: un 61 []), σ := [Ob.cells true false 2 [[vb b285, V.nilS]], Ob.cells true false 2 [[vb false, V.nilS]], Ob.cells true false 2 [[vb false, V.nilS]]] }) = some st3 := by
      rw [loopRun_from, show prep (0) (X.keep 70 0) ({ T := V.agg [vb b285, V.nilS] :: i64 z317 :: i64 z318 :: V.ptr 0 0 0 :: U :: U :: V.ptr 1 0 0 :: V.ptr 2 0 0 :: i64 0 :: i64 0 :: un 4 (i64 z286 :: i64 z317 :: i64 z287 :: i64 z318 :: i64 z317 :: i64 z318 :: vb (decide (z317 ≥ z318)) :: un 61 []), σ := [Ob.cells true false 2 [[vb b285, V.nilS]], Ob.cells true false 2 [[vb false, V.nilS]], Ob.cells true false 2 [[vb false, V.nilS]]] }) = { T := U :: i64 z317 :: i64 z318 :: V.ptr 0 0 0 :: U :: U :: V.ptr 1 0 0 :: V.ptr 2 0 0 :: i64 0 :: i64 0 :: un 72 [], σ := [Ob.cells true false 2 [[vb b285, V.nilS]], Ob.cells true false 2 [[vb false, V.nilS]], Ob.cells true false 2 [[vb false, V.nilS]]] } by kernel_rfl]
      exact h3
    cases r3 with
    | e0 =>
      obtain ⟨z326, z327, b328, z329, b330, rfl⟩ := hr3
      cases h
      exact call_pathL (gs := [.an (i64 z317) [], .an (i64 z318) [], .f, .lp (VX.exit 0) (s70_0_0 z326 z327 b328 z329 b330), .a, .a]) (notIn []) rfl rfl (by kernel_rfl) (And.intro (F74_ok (m + 0) (z286) z317 h0) (And.intro (F74_ok (m + 0) (z287) z318 h1) (And.intro (decide_eq_false h2) (And.intro h3 True.intro))))
/-! ## 27 -/
noncomputable abbrev B27 : Code := (Try.f27.body).getD .skip
inductive R27_0 where
  | e0
  | e1
@[reducible] def s27_0_0 (l389 : List (List V)) (l390 : List (List V)) (z391 : Int) (z392 : Int) (b393 : Bool) (z394 : Int) (z395 : Int) (z396 : Int) (z397 : Int) (b398 : Bool) : S := { T := V.list 2 l389 :: V.list 2 l390 :: U :: U :: vb false :: i64 z391 :: un 5 [i64 z391, V.list 2 l389, i64 z392, vb b393, U, U, V.list 2 l389, i64 z391, V.pp [i64 z394, i64 z395], V.agg [i64 z394, i64 z395], V.list 2 l390, i64 z391, V.pp [i64 z396, i64 z397], V.agg [i64 z396, i64 z397], vb b398], σ := [] }
@[reducible] def s27_0_1 (l399 : List (List V)) (l400 : List (List V)) (z401 : Int) (z402 : Int) (b403 : Bool) : S := { T := V.list 2 l399 :: V.list 2 l400 :: U :: U :: U :: i64 z401 :: un 5 (i64 z401 :: V.list 2 l399 :: i64 z402 :: vb b403 :: un 11 []), σ := [] }
def R27_0.St : R27_0 → VX × S → Prop
  | .e0, p => ∃ l389 : List (List V), ∃ l390 : List (List V), ∃ z391 : Int, ∃ z392 : Int, ∃ b393 : Bool, ∃ z394 : Int, ∃ z395 : Int, ∃ z396 : Int, ∃ z397 : Int, ∃ b398 : Bool, p = (VX.ret, s27_0_0 l389 l390 z391 z392 b393 z394 z395 z396 z397 b398)
  | .e1, p => ∃ l399 : List (List V), ∃ l400 : List (List V), ∃ z401 : Int, ∃ z402 : Int, ∃ b403 : Bool, p = (VX.exit 0, s27_0_1 l399 l400 z401 z402 b403)
def L27_0 : Nat → List (List V) → List (List V) → Int → Option R27_0
  | 0, _, _, _ => none
  | n + 1, l366, l367, z368 =>
    if z368 < (↑(List.length l366) : Int) then
     if 0 ≤ z368 then
      ((l366[Int.toNat z368]?).bind W34.dec).bind fun e387 =>
      ((l367[Int.toNat z368]?).bind W34.dec).bind fun e388 =>
      if (!(e387.c0 == e388.c0 && (e387.c1 == e388.c1 && true))) = true then
       some (R27_0.e0)
      else
       L27_0 n (l366) (l367) (w64 (z368 + 1))
     else
      none -- none
    else
     some (R27_0.e1)
theorem L27_0_ok (m : Nat) : ∀ (n : Nat) (l366 : List (List V)) (l367 : List (List V)) (z368 : Int) (r : R27_0), L27_0 n l366 l367 z368 = some r → ∃ st, loopFrom Try.prog X (call Try.prog X O0 100000 (m + 0)) 27 (0) 100000 B27 0 n ({ T := V.list 2 l366 :: V.list 2 l367 :: U :: U :: U :: i64 z368 :: un 20 [], σ := [] }) = some st ∧ r.St st
  | 0, _, _, _, r, h => by cases h
  | n + 1, l366, l367, z368, r, h => by
    rw [L27_0] at h
    rcases ite_eq h with ⟨h0, h⟩ | ⟨h0, h⟩
    · skip
      rcases ite_eq h with ⟨h1, h⟩ | ⟨h1, h⟩
      · skip
        obtain ⟨e387, h2, h⟩ := Option.bind_eq_some_iff.mp h
        obtain ⟨e388, h3, h⟩ := Option.bind_eq_some_iff.mp h
        rcases ite_eq h with ⟨h4, h⟩ | ⟨h4, h⟩
        · skip
          cases h
          exact ⟨_, round_out (gs := [.t, .t, .el (W34.cells e387), .t, .el (W34.cells e388), .ft [⟨0, [], []⟩, ⟨1, [], []⟩, ⟨2, [], []⟩, ⟨3, [], []⟩, ⟨4, [], []⟩, ⟨5, [], []⟩, ⟨6, [], []⟩, ⟨7, [], []⟩, ⟨8, [], []⟩], .t]) (notIn []) (by kernel_rfl) rfl (And.intro (decide_eq_true h0) (And.intro (decide_eq_true h1) (And.intro (W34.dec_ok h2) (And.intro (decide_eq_true h1) (And.intro (W34.dec_ok h3) (And.intro (Eq.refl ([⟨0, [], []⟩, ⟨1, [], []⟩, ⟨2, [], []⟩, ⟨3, [], []⟩, ⟨4, [], []⟩, ⟨5, [], []⟩, ⟨6, [], []⟩, ⟨7, [], []⟩, ⟨8, [], []⟩] : List Foot)) (And.intro h4 True.intro))))))) n, l366, l367, z368, (↑(List.length l366) : Int), decide (z368 < (↑(List.length l366) : Int)), e387.c0, e387.c1, e388.c0, e388.c1, !(e387.c0 == e388.c0 && (e387.c1 == e388.c1 && true)), rfl⟩
        · skip
          obtain ⟨st, hs, hr⟩ := L27_0_ok m n (l366) (l367) (w64 (z368 + 1)) r h
          exact ⟨st, (round_on (gs := [.t, .t, .el (W34.cells e387), .t, .el (W34.cells e388), .ft [⟨0, [], []⟩, ⟨1, [], []⟩, ⟨2, [], []⟩, ⟨3, [], []⟩, ⟨4, [], []⟩, ⟨5, [], []⟩, ⟨6, [], []⟩, ⟨7, [], []⟩, ⟨8, [], []⟩], .f]) (notIn []) (by kernel_rfl) (And.intro (decide_eq_true h0) (And.intro (decide_eq_true h1) (And.intro (W34.dec_ok h2) (And.intro (decide_eq_true h1) (And.intro (W34.dec_ok h3) (And.intro (Eq.refl ([⟨0, [], []⟩, ⟨1, [], []⟩, ⟨2, [], []⟩, ⟨3, [], []⟩, ⟨4, [], []⟩, ⟨5, [], []⟩, ⟨6, [], []⟩, ⟨7, [], []⟩, ⟨8, [], []⟩] : List Foot)) (And.intro (Bool.eq_false_iff.mpr h4) True.intro))))))) n).trans hs, hr⟩
      · skip
        cases h
    · skip
      cases h
      exact ⟨_, round_out (gs := [.f]) (notIn []) (by kernel_rfl) rfl (And.intro (decide_eq_false h0) True.intro) n, l366, l367, z368, (↑(List.length l366) : Int), decide (z368 < (↑(List.length l366) : Int)), rfl⟩
inductive A27 where
  | a0 (b386 : Bool)
@[reducible] def A27.out : A27 → V × Store
  | .a0 b386 => (vb b386, [])
def F27 (l349 : List (List V)) (l350 : List (List V)) : Option A27 :=
  if ((↑(List.length l349) : Int) != (↑(List.length l350) : Int)) = true then
   some (A27.a0 (false))
  else
   (L27_0 100000 (l349) (l350) (0)).bind fun r => match r with
   | .e0 =>
    some (A27.a0 (false))
   | .e1 =>
    some (A27.a0 (true))
theorem F27_ok (m : Nat) (l349 : List (List V)) (l350 : List (List V)) (r : A27) (h : F27 l349 l350 = some r) : call Try.prog X O0 100000 (m + 1) 27 ([V.list 2 l349, V.list 2 l350]) ([]) = some r.out := by
  unfold F27 at h
  rcases ite_eq h with ⟨h0, h⟩ | ⟨h0, h⟩
  · skip
    cases h
    exact call_pathL (gs := [.t]) (notIn []) rfl rfl (by kernel_rfl) (And.intro h0 True.intro)
  · skip
    obtain ⟨r1, h1, h⟩ := Option.bind_eq_some_iff.mp h
    obtain ⟨st1, h1, hr1⟩ := L27_0_ok m 100000 (l349) (l350) (0) r1 h1
    have h1 : loopRun Try.prog X (call Try.prog X O0 100000 (m + 0)) 27 (0) 100000 B27 0 ({ T := V.list 2 l349 :: V.list 2 l350 :: U :: U :: vb false :: i64 0 :: V.list 2 l349 :: i64 (↑(List.length l349) : Int) :: V.list 2 l350 :: i64 (↑(List.length l350) : Int) :: vb ((↑(List.length l349) : Int) != (↑(List.length l350) : Int)) :: un 15 [], σ := [] }) = some st1 := by
      rw [loopRun_from, show prep (0) (X.keep 27 0) ({ T := V.list 2 l349 :: V.list 2 l350 :: U :: U :: vb false :: i64 0 :: V.list 2 l349 :: i64 (↑(List.length l349) : Int) :: V.list 2 l350 :: i64 (↑(List.length l350) : Int) :: vb ((↑(List.length l349) : Int) != (↑(List.length l350) : Int)) :: un 15 [], σ := [] }) = { T := V.list 2 l349 :: V.list 2 l350 :: U :: U :: U :: i64 0 :: un 20 [], σ := [] } by kernel_rfl]
      exact h1
    cases r1 with
    | e0 =>
      obtain ⟨l404, l405, z406, z407, b408, z409, z410, z411, z412, b413, rfl⟩ := hr1
      cases h
      exact call_pathL (gs := [.f, .lp (VX.ret) (s27_0_0 l404 l405 z406 z407 b408 z409 z410 z411 z412 b413)]) (notIn []) rfl rfl (by kernel_rfl) (And.intro (Bool.eq_false_iff.mpr h0) (And.intro h1 True.intro))
    | e1 =>
      obtain ⟨l414, l415, z416, z417, b418, rfl⟩ := hr1
      cases h
      exact call_pathL (gs := [.f, .lp (VX.exit 0) (s27_0_1 l414 l415 z416 z417 b418)]) (notIn []) rfl rfl (by kernel_rfl) (And.intro (Bool.eq_false_iff.mpr h0) (And.intro h1 True.intro))
/-! ## 27 -/
noncomputable abbrev B27v1 : Code := (Try.f27.body).getD .skip
inductive R27v1_0 where
  | e0
@[reducible] def s27v1_0_0 (l456 : List (List V)) (z457 : Int) (b458 : Bool) : S := { T := V.list 2 l456 :: V.nilS :: U :: U :: U :: i64 0 :: un 5 (i64 0 :: V.list 2 l456 :: i64 z457 :: vb b458 :: un 11 []), σ := [] }
def R27v1_0.St : R27v1_0 → VX × S → Prop
  | .e0, p => ∃ l456 : List (List V), ∃ z457 : Int, ∃ b458 : Bool, p = (VX.exit 0, s27v1_0_0 l456 z457 b458)
def L27v1_0 : Nat → List (List V) → Option R27v1_0
  | 0, _ => none
  | n + 1, l446 =>
    if 0 < (↑(List.length l446) : Int) then
     ((l446[(0 : Nat)]?).bind W34.dec).bind fun e455 =>
     none -- none
    else
     some (R27v1_0.e0)
theorem L27v1_0_ok (m : Nat) : ∀ (n : Nat) (l446 : List (List V)) (r : R27v1_0), L27v1_0 n l446 = some r → ∃ st, loopFrom Try.prog X (call Try.prog X O0 100000 (m + 0)) 27 (0) 100000 B27v1 0 n ({ T := V.list 2 l446 :: V.nilS :: U :: U :: U :: i64 0 :: un 20 [], σ := [] }) = some st ∧ r.St st
  | 0, _, r, h => by cases h
  | n + 1, l446, r, h => by
    rw [L27v1_0] at h
    rcases ite_eq h with ⟨h0, h⟩ | ⟨h0, h⟩
    · skip
      obtain ⟨e455, h1, h⟩ := Option.bind_eq_some_iff.mp h
      cases h
    · skip
      cases h
      exact ⟨_, round_out (gs := [.f]) (notIn []) (by kernel_rfl) rfl (And.intro (decide_eq_false h0) True.intro) n, l446, (↑(List.length l446) : Int), decide (0 < (↑(List.length l446) : Int)), rfl⟩
inductive A27v1 where
  | a0 (b454 : Bool)
@[reducible] def A27v1.out : A27v1 → V × Store
  | .a0 b454 => (vb b454, [])
def F27v1 (l443 : List (List V)) : Option A27v1 :=
  if ((↑(List.length l443) : Int) != 0) = true then
   some (A27v1.a0 (false))
  else
   (L27v1_0 100000 (l443)).bind fun r => match r with
   | .e0 =>
    some (A27v1.a0 (true))
theorem F27v1_ok (m : Nat) (l443 : List (List V)) (r : A27v1) (h : F27v1 l443 = some r) : call Try.prog X O0 100000 (m + 1) 27 ([V.list 2 l443, V.nilS]) ([]) = some r.out := by
  unfold F27v1 at h
  rcases ite_eq h with ⟨h0, h⟩ | ⟨h0, h⟩
  · skip
    cases h
    exact call_pathL (gs := [.t]) (notIn []) rfl rfl (by kernel_rfl) (And.intro h0 True.intro)
  · skip
    obtain ⟨r1, h1, h⟩ := Option.bind_eq_some_iff.mp h
    obtain ⟨st1, h1, hr1⟩ := L27v1_0_ok m 100000 (l443) r1 h1
    have h1 : loopRun Try.prog X (call Try.prog X O0 100000 (m + 0)) 27 (0) 100000 B27v1 0 ({ T := V.list 2 l443 :: V.nilS :: U :: U :: vb false :: i64 0 :: V.list 2 l443 :: i64 (↑(List.length l443) : Int) :: V.nilS :: i64 0 :: vb ((↑(List.length l443) : Int) != 0) :: un 15 [], σ := [] }) = some st1 := by
      rw [loopRun_from, show prep (0) (X.keep 27 0) ({ T := V.list 2 l443 :: V.nilS :: U :: U :: vb false :: i64 0 :: V.list 2 l443 :: i64 (↑(List.length l443) : Int) :: V.nilS :: i64 0 :: vb ((↑(List.length l443) : Int) != 0) :: un 15 [], σ := [] }) = { T := V.list 2 l443 :: V.nilS :: U :: U :: U :: i64 0 :: un 20 [], σ := [] } by kernel_rfl]
      exact h1
    cases r1 with
    | e0 =>
      obtain ⟨l459, z460, b461, rfl⟩ := hr1
      cases h
      exact call_pathL (gs := [.f, .lp (VX.exit 0) (s27v1_0_0 l459 z460 b461)]) (notIn []) rfl rfl (by kernel_rfl) (And.intro (Bool.eq_false_iff.mpr h0) (And.intro h1 True.intro))
/-! ## 27 -/
noncomputable abbrev B27v2 : Code := (Try.f27.body).getD .skip
inductive R27v2_0 where
  | e0
@[reducible] def s27v2_0_0 (l490 : List (List V)) : S := { T := V.nilS :: V.list 2 l490 :: U :: U :: U :: i64 0 :: un 5 (i64 0 :: V.nilS :: i64 0 :: vb false :: un 11 []), σ := [] }
def R27v2_0.St : R27v2_0 → VX × S → Prop
  | .e0, p => ∃ l490 : List (List V), p = (VX.exit 0, s27v2_0_0 l490)
def L27v2_0 : Nat → List (List V) → Option R27v2_0
  | 0, _ => none
  | n + 1, l486 =>
    some (R27v2_0.e0)
theorem L27v2_0_ok (m : Nat) : ∀ (n : Nat) (l486 : List (List V)) (r : R27v2_0), L27v2_0 n l486 = some r → ∃ st, loopFrom Try.prog X (call Try.prog X O0 100000 (m + 0)) 27 (0) 100000 B27v2 0 n ({ T := V.nilS :: V.list 2 l486 :: U :: U :: U :: i64 0 :: un 20 [], σ := [] }) = some st ∧ r.St st
  | 0, _, r, h => by cases h
  | n + 1, l486, r, h => by
    rw [L27v2_0] at h
    cases h
    exact ⟨_, round_out (gs := [.a]) (notIn []) (by kernel_rfl) rfl True.intro n, l486, rfl⟩
inductive A27v2 where
  | a0 (b489 : Bool)
@[reducible] def A27v2.out : A27v2 → V × Store
  | .a0 b489 => (vb b489, [])
def F27v2 (l483 : List (List V)) : Option A27v2 :=
  if (0 != (↑(List.length l483) : Int)) = true then
   some (A27v2.a0 (false))
  else
   (L27v2_0 100000 (l483)).bind fun r => match r with
   | .e0 =>
    some (A27v2.a0 (true))
theorem F27v2_ok (m : Nat) (l483 : List (List V)) (r : A27v2) (h : F27v2 l483 = some r) : call Try.prog X O0 100000 (m + 1) 27 ([V.nilS, V.list 2 l483]) ([]) = some r.out := by
  unfold F27v2 at h
  rcases ite_eq h with ⟨h0, h⟩ | ⟨h0, h⟩
  · skip
    cases h
    exact call_pathL (gs := [.t]) (notIn []) rfl rfl (by kernel_rfl) (And.intro h0 True.intro)
  · skip
    obtain ⟨r1, h1, h⟩ := Option.bind_eq_some_iff.mp h
    obtain ⟨st1, h1, hr1⟩ := L27v2_0_ok m 100000 (l483) r1 h1
    have h1 : loopRun Try.prog X (call Try.prog X O0 100000 (m + 0)) 27 (0) 100000 B27v2 0 ({ T := V.nilS :: V.list 2 l483 :: U :: U :: vb false :: i64 0 :: V.nilS :: i64 0 :: V.list 2 l483 :: i64 (↑(List.length l483) : Int) :: vb (0 != (↑(List.length l483) : Int)) :: un 15 [], σ := [] }) = some st1 := by
      rw [loopRun_from, show prep (0) (X.keep 27 0) ({ T := V.nilS :: V.list 2 l483 :: U :: U :: vb false :: i64 0 :: V.nilS :: i64 0 :: V.list 2 l483 :: i64 (↑(List.length l483) : Int) :: vb (0 != (↑(List.length l483) : Int)) :: un 15 [], σ := [] }) = { T := V.nilS :: V.list 2 l483 :: U :: U :: U :: i64 0 :: un 20 [], σ := [] } by kernel_rfl]
      exact h1
    cases r1 with
    | e0 =>
      obtain ⟨l491, rfl⟩ := hr1
      cases h
      exact call_pathL (gs := [.f, .lp (VX.exit 0) (s27v2_0_0 l491)]) (notIn []) rfl rfl (by kernel_rfl) (And.intro (Bool.eq_false_iff.mpr h0) (And.intro h1 True.intro))
/-! ## 27 -/
noncomputable abbrev B27v3 : Code := (Try.f27.body).getD .skip
inductive R27v3_0 where
  | e0
@[reducible] def s27v3_0_0 : S := { T := V.nilS :: V.nilS :: U :: U :: U :: i64 0 :: un 5 (i64 0 :: V.nilS :: i64 0 :: vb false :: un 11 []), σ := [] }
def R27v3_0.St : R27v3_0 → VX × S → Prop
  | .e0, p => p = (VX.exit 0, s27v3_0_0)
def L27v3_0 : Nat → Option R27v3_0
  | 0 => none
  | n + 1 =>
    some (R27v3_0.e0)
theorem L27v3_0_ok (m : Nat) : ∀ (n : Nat) (r : R27v3_0), L27v3_0 n = some r → ∃ st, loopFrom Try.prog X (call Try.prog X O0 100000 (m + 0)) 27 (0) 100000 B27v3 0 n ({ T := V.nilS :: V.nilS :: U :: U :: U :: i64 0 :: un 20 [], σ := [] }) = some st ∧ r.St st
  | 0, r, h => by cases h
  | n + 1, r, h => by
    rw [L27v3_0] at h
    cases h
    exact ⟨_, round_out (gs := [.a]) (notIn []) (by kernel_rfl) rfl True.intro n, rfl⟩
inductive A27v3 where
  | a0 (b513 : Bool)
@[reducible] def A27v3.out : A27v3 → V × Store
  | .a0 b513 => (vb b513, [])
def F27v3 : Option A27v3 :=
  (L27v3_0 100000).bind fun r => match r with
  | .e0 =>
   some (A27v3.a0 (true))
theorem F27v3_ok (m : Nat) (r : A27v3) (h : F27v3 = some r) : call Try.prog X O0 100000 (m + 1) 27 ([V.nilS, V.nilS]) ([]) = some r.out := by
  unfold F27v3 at h
  obtain ⟨r0, h0, h⟩ := Option.bind_eq_some_iff.mp h
  obtain ⟨st0, h0, hr0⟩ := L27v3_0_ok m 100000 r0 h0
  have h0 : loopRun Try.prog X (call Try.prog X O0 100000 (m + 0)) 27 (0) 100000 B27v3 0 ({ T := V.nilS :: V.nilS :: U :: U :: vb false :: i64 0 :: V.nilS :: i64 0 :: V.nilS :: i64 0 :: vb false :: un 15 [], σ := [] }) = some st0 := by
    rw [loopRun_from, show prep (0) (X.keep 27 0) ({ T := V.nilS :: V.nilS :: U :: U :: vb false :: i64 0 :: V.nilS :: i64 0 :: V.nilS :: i64 0 :: vb false :: un 15 [], σ := [] }) = { T := V.nilS :: V.nilS :: U :: U :: U :: i64 0 :: un 20 [], σ := [] } by kernel_rfl]
    exact h0
  cases r0 with
  | e0 =>
    obtain ⟨rfl⟩ := hr0
    cases h
    exact call_pathL (gs := [.a, .lp (VX.exit 0) (s27v3_0_0)]) (notIn []) rfl rfl (by kernel_rfl) (And.intro h0 True.intro)
/-! ## 32 -/
noncomputable abbrev B32 : Code := (Try.f32.body).getD .skip
inductive R32_0 where
  | e0
  | e1
  | e2
  | e3
  | e4
  | e5
  | e6
  | e7
  | e8
@[reducible] def s32_0_0 (l607 : List (List V)) (l608 : List (List V)) (z609 : Int) (z610 : Int) (b611 : Bool) (b612 : Bool) (l613 : List (List V)) (b614 : Bool) (l615 : List (List V)) (b616 : Bool) : S := { T := V.list 2 l607 :: V.list 2 l608 :: U :: U :: vb false :: i64 z609 :: un 5 [i64 z609, V.list 2 l607, i64 z610, vb b611, U, U, V.list 2 l607, i64 z609, V.pp [vb b612, V.list 2 l613], V.pp [vb b612, V.list 2 l613], vb b612, V.list 2 l608, i64 z609, V.pp [vb b614, V.list 2 l615], V.pp [vb b614, V.list 2 l615], vb b614, vb b616, vb b616, E, E, E, E, E, E, E, E, E, E, E, E, vb true], σ := [] }
@[reducible] def s32_0_1 (l618 : List (List V)) (l619 : List (List V)) (z620 : Int) (z621 : Int) (b622 : Bool) (b623 : Bool) (l624 : List (List V)) (b625 : Bool) (l626 : List (List V)) (b627 : Bool) (b628 : Bool) (b629 : Bool) : S := { T := V.list 2 l618 :: V.list 2 l619 :: U :: U :: vb false :: i64 z620 :: un 5 [i64 z620, V.list 2 l618, i64 z621, vb b622, U, U, V.list 2 l618, i64 z620, V.pp [vb b623, V.list 2 l624], V.pp [vb b623, V.list 2 l624], vb b623, V.list 2 l619, i64 z620, V.pp [vb b625, V.list 2 l626], V.pp [vb b625, V.list 2 l626], vb b625, vb b627, vb b627, V.list 2 l618, i64 z620, V.pp [vb b623, V.list 2 l624], V.pp [V.list 2 l624], V.list 2 l624, V.list 2 l619, i64 z620, V.pp [vb b625, V.list 2 l626], V.pp [V.list 2 l626], V.list 2 l626, vb b628, vb b629, vb b629], σ := [] }
@[reducible] def s32_0_2 (l631 : List (List V)) (l632 : List (List V)) (z633 : Int) (z634 : Int) (b635 : Bool) (b636 : Bool) (l637 : List (List V)) (b638 : Bool) (b639 : Bool) : S := { T := V.list 2 l631 :: V.list 2 l632 :: U :: U :: vb false :: i64 z633 :: un 5 [i64 z633, V.list 2 l631, i64 z634, vb b635, U, U, V.list 2 l631, i64 z633, V.pp [vb b636, V.list 2 l637], V.pp [vb b636, V.list 2 l637], vb b636, V.list 2 l632, i64 z633, V.pp [vb b638, V.nilS], V.pp [vb b638, V.nilS], vb b638, vb b639, vb b639, E, E, E, E, E, E, E, E, E, E, E, E, vb true], σ := [] }
@[reducible] def s32_0_3 (l641 : List (List V)) (l642 : List (List V)) (z643 : Int) (z644 : Int) (b645 : Bool) (b646 : Bool) (l647 : List (List V)) (b648 : Bool) (b649 : Bool) (b650 : Bool) (b651 : Bool) : S := { T := V.list 2 l641 :: V.list 2 l642 :: U :: U :: vb false :: i64 z643 :: un 5 [i64 z643, V.list 2 l641, i64 z644, vb b645, U, U, V.list 2 l641, i64 z643, V.pp [vb b646, V.list 2 l647], V.pp [vb b646, V.list 2 l647], vb b646, V.list 2 l642, i64 z643, V.pp [vb b648, V.nilS], V.pp [vb b648, V.nilS], vb b648, vb b649, vb b649, V.list 2 l641, i64 z643, V.pp [vb b646, V.list 2 l647], V.pp [V.list 2 l647], V.list 2 l647, V.list 2 l642, i64 z643, V.pp [vb b648, V.nilS], V.pp [V.nilS], V.nilS, vb b650, vb b651, vb b651], σ := [] }
@[reducible] def s32_0_4 (l654 : List (List V)) (l655 : List (List V)) (z656 : Int) (z657 : Int) (b658 : Bool) (b659 : Bool) (b660 : Bool) (l661 : List (List V)) (b662 : Bool) : S := { T := V.list 2 l654 :: V.list 2 l655 :: U :: U :: vb false :: i64 z656 :: un 5 [i64 z656, V.list 2 l654, i64 z657, vb b658, U, U, V.list 2 l654, i64 z656, V.pp [vb b659, V.nilS], V.pp [vb b659, V.nilS], vb b659, V.list 2 l655, i64 z656, V.pp [vb b660, V.list 2 l661], V.pp [vb b660, V.list 2 l661], vb b660, vb b662, vb b662, E, E, E, E, E, E, E, E, E, E, E, E, vb true], σ := [] }
@[reducible] def s32_0_5 (l664 : List (List V)) (l665 : List (List V)) (z666 : Int) (z667 : Int) (b668 : Bool) (b669 : Bool) (b670 : Bool) (l671 : List (List V)) (b672 : Bool) (b673 : Bool) (b674 : Bool) : S := { T := V.list 2 l664 :: V.list 2 l665 :: U :: U :: vb false :: i64 z666 :: un 5 [i64 z666, V.list 2 l664, i64 z667, vb b668, U, U, V.list 2 l664, i64 z666, V.pp [vb b669, V.nilS], V.pp [vb b669, V.nilS], vb b669, V.list 2 l665, i64 z666, V.pp [vb b670, V.list 2 l671], V.pp [vb b670, V.list 2 l671], vb b670, vb b672, vb b672, V.list 2 l664, i64 z666, V.pp [vb b669, V.nilS], V.pp [V.nilS], V.nilS, V.list 2 l665, i64 z666, V.pp [vb b670, V.list 2 l671], V.pp [V.list 2 l671], V.list 2 l671, vb b673, vb b674, vb b674], σ := [] }
@[reducible] def s32_0_6 (l676 : List (List V)) (l677 : List (List V)) (z678 : Int) (z679 : Int) (b680 : Bool) (b681 : Bool) (b682 : Bool) (b683 : Bool) : S := { T := V.list 2 l676 :: V.list 2 l677 :: U :: U :: vb false :: i64 z678 :: un 5 [i64 z678, V.list 2 l676, i64 z679, vb b680, U, U, V.list 2 l676, i64 z678, V.pp [vb b681, V.nilS], V.pp [vb b681, V.nilS], vb b681, V.list 2 l677, i64 z678, V.pp [vb b682, V.nilS], V.pp [vb b682, V.nilS], vb b682, vb b683, vb b683, E, E, E, E, E, E, E, E, E, E, E, E, vb true], σ := [] }
@[reducible] def s32_0_7 (l685 : List (List V)) (l686 : List (List V)) (z687 : Int) (z688 : Int) (b689 : Bool) (b690 : Bool) (b691 : Bool) (b692 : Bool) (b693 : Bool) (b694 : Bool) : S := { T := V.list 2 l685 :: V.list 2 l686 :: U :: U :: vb false :: i64 z687 :: un 5 [i64 z687, V.list 2 l685, i64 z688, vb b689, U, U, V.list 2 l685, i64 z687, V.pp [vb b690, V.nilS], V.pp [vb b690, V.nilS], vb b690, V.list 2 l686, i64 z687, V.pp [vb b691, V.nilS], V.pp [vb b691, V.nilS], vb b691, vb b692, vb b692, V.list 2 l685, i64 z687, V.pp [vb b690, V.nilS], V.pp [V.nilS], V.nilS, V.list 2 l686, i64 z687, V.pp [vb b691, V.nilS], V.pp [V.nilS], V.nilS, vb b693, vb b694, vb b694], σ := [] }
@[reducible] def s32_0_8 (l695 : List (List V)) (l696 : List (List V)) (z697 : Int) (z698 : Int) (b699 : Bool) : S := { T := V.list 2 l695 :: V.list 2 l696 :: U :: U :: U :: i64 z697 :: un 5 (i64 z697 :: V.list 2 l695 :: i64 z698 :: vb b699 :: un 27 []), σ := [] }
def R32_0.St : R32_0 → VX × S → Prop
  | .e0, p => ∃ l607 : List (List V), ∃ l608 : List (List V), ∃ z609 : Int, ∃ z610 : Int, ∃ b611 : Bool, ∃ b612 : Bool, ∃ l613 : List (List V), ∃ b614 : Bool, ∃ l615 : List (List V), ∃ b616 : Bool, p = (VX.ret, s32_0_0 l607 l608 z609 z610 b611 b612 l613 b614 l615 b616)
  | .e1, p => ∃ l618 : List (List V), ∃ l619 : List (List V), ∃ z620 : Int, ∃ z621 : Int, ∃ b622 : Bool, ∃ b623 : Bool, ∃ l624 : List (List V), ∃ b625 : Bool, ∃ l626 : List (List V), ∃ b627 : Bool, ∃ b628 : Bool, ∃ b629 : Bool, p = (VX.ret, s32_0_1 l618 l619 z620 z621 b622 b623 l624 b625 l626 b627 b628 b629)
  | .e2, p => ∃ l631 : List (List V), ∃ l632 : List (List V), ∃ z633 : Int, ∃ z634 : Int, ∃ b635 : Bool, ∃ b636 : Bool, ∃ l637 : List (List V), ∃ b638 : Bool, ∃ b639 : Bool, p = (VX.ret, s32_0_2 l631 l632 z633 z634 b635 b636 l637 b638 b639)
  | .e3, p => ∃ l641 : List (List V), ∃ l642 : List (List V), ∃ z643 : Int, ∃ z644 : Int, ∃ b645 : Bool, ∃ b646 : Bool, ∃ l647 : List (List V), ∃ b648 : Bool, ∃ b649 : Bool, ∃ b650 : Bool, ∃ b651 : Bool, p = (VX.ret, s32_0_3 l641 l642 z643 z644 b645 b646 l647 b648 b649 b650 b651)
  | .e4, p => ∃ l654 : List (List V), ∃ l655 : List (List V), ∃ z656 : Int, ∃ z657 : Int, ∃ b658 : Bool, ∃ b659 : Bool, ∃ b660 : Bool, ∃ l661 : List (List V), ∃ b662 : Bool, p = (VX.ret, s32_0_4 l654 l655 z656 z657 b658 b659 b660 l661 b662)
  | .e5, p => ∃ l664 : List (List V), ∃ l665 : List (List V), ∃ z666 : Int, ∃ z667 : Int, ∃ b668 : Bool, ∃ b669 : Bool, ∃ b670 : Bool, ∃ l671 : List (List V), ∃ b672 : Bool, ∃ b673 : Bool, ∃ b674 : Bool, p = (VX.ret, s32_0_5 l664 l665 z666 z667 b668 b669 b670 l671 b672 b673 b674)
  | .e6, p => ∃ l676 : List (List V), ∃ l677 : List (List V), ∃ z678 : Int, ∃ z679 : Int, ∃ b680 : Bool, ∃ b681 : Bool, ∃ b682 : Bool, ∃ b683 : Bool, p = (VX.ret, s32_0_6 l676 l677 z678 z679 b680 b681 b682 b683)
  | .e7, p => ∃ l685 : List (List V), ∃ l686 : List (List V), ∃ z687 : Int, ∃ z688 : Int, ∃ b689 : Bool, ∃ b690 : Bool, ∃ b691 : Bool, ∃ b692 : Bool, ∃ b693 : Bool, ∃ b694 : Bool, p = (VX.ret, s32_0_7 l685 l686 z687 z688 b689 b690 b691 b692 b693 b694)
  | .e8, p => ∃ l695 : List (List V), ∃ l696 : List (List V), ∃ z697 : Int, ∃ z698 : Int, ∃ b699 : Bool, p = (VX.exit 0, s32_0_8 l695 l696 z697 z698 b699)
def L32_0 : Nat → List (List V) → List (List V) → Int → Option R32_0
  | 0, _, _, _ => none
  | n + 1, l431, l432, z433 =>
    if z433 < (↑(List.length l431) : Int) then
     if 0 ≤ z433 then
      orE ((l431[Int.toNat z433]?).bind W39.dec) (fun e605 =>
       orE ((l432[Int.toNat z433]?).bind W39.dec) (fun e606 =>
        if (!e605.c0 == e606.c0) = true then
         some (R32_0.e0)
        else
         (F27 (e605.2) (e606.2)).bind fun r => match r with
         | .a0 b617 =>
          if (!b617) = true then
           some (R32_0.e1)
          else
           L32_0 n (l431) (l432) (w64 (z433 + 1))
       )
       (
        ((l432[Int.toNat z433]?).bind W39n.dec).bind fun e630 =>
        if (!e605.c0 == e630.c0) = true then
         some (R32_0.e2)
        else
         (F27v1 (e605.2)).bind fun r => match r with
         | .a0 b640 =>
          if (!b640) = true then
           some (R32_0.e3)
          else
           L32_0 n (l431) (l432) (w64 (z433 + 1))
       )
      )
      (
       ((l431[Int.toNat z433]?).bind W39n.dec).bind fun e652 =>
       orE ((l432[Int.toNat z433]?).bind W39.dec) (fun e653 =>
        if (!e652.c0 == e653.c0) = true then
         some (R32_0.e4)
        else
         (F27v2 (e653.2)).bind fun r => match r with
         | .a0 b663 =>
          if (!b663) = true then
           some (R32_0.e5)
          else
           L32_0 n (l431) (l432) (w64 (z433 + 1))
       )
       (
        ((l432[Int.toNat z433]?).bind W39n.dec).bind fun e675 =>
        if (!e652.c0 == e675.c0) = true then
         some (R32_0.e6)
        else
         (F27v3).bind fun r => match r with
         | .a0 b684 =>
          if (!b684) = true then
           some (R32_0.e7)
          else
           L32_0 n (l431) (l432) (w64 (z433 + 1))
       )
      )
     else
      none -- none
    else
     some (R32_0.e8)
theorem L32_0_ok (m : Nat) : ∀ (n : Nat) (l431 : List (List V)) (l432 : List (List V)) (z433 : Int) (r : R32_0), L32_0 n l431 l432 z433 = some r → ∃ st, loopFrom Try.prog X (call Try.prog X O0 100000 (m + 1)) 32 (0) 100000 B32 0 n ({ T := V.list 2 l431 :: V.list 2 l432 :: U :: U :: U :: i64 z433 :: un 36 [], σ := [] }) = some st ∧ r.St st
  | 0, _, _, _, r, h => by cases h
  | n + 1, l431, l432, z433, r, h => by
    rw [L32_0] at h
    rcases ite_eq h with ⟨h0, h⟩ | ⟨h0, h⟩
    · skip
      rcases ite_eq h with ⟨h1, h⟩ | ⟨h1, h⟩
      · skip
        rcases orE_eq h with ⟨e605, h2, h⟩ | ⟨h2, h⟩
        · skip
          rcases orE_eq h with ⟨e606, h3, h⟩ | ⟨h3, h⟩
          · skip
            rcases ite_eq h with ⟨h4, h⟩ | ⟨h4, h⟩
            · skip
              cases h
              exact ⟨_, round_out (gs := [.t, .t, .el (W39.cells e605), .t, .el (W39.cells e606), .t, .t, .t, .t, .t, .t, .t, .t, .t, .t, .t, .t, .t, .ft [⟨0, [], []⟩, ⟨1, [], []⟩, ⟨2, [], []⟩, ⟨3, [], []⟩, ⟨4, [], []⟩, ⟨5, [], []⟩, ⟨6, [], []⟩, ⟨7, [], []⟩, ⟨8, [], []⟩, ⟨9, [], []⟩, ⟨10, [], []⟩, ⟨11, [], []⟩, ⟨12, [], []⟩, ⟨13, [], []⟩, ⟨14, [], []⟩, ⟨15, [], []⟩, ⟨16, [], []⟩, ⟨17, [], []⟩, ⟨18, [], []⟩, ⟨19, [], []⟩, ⟨20, [], []⟩, ⟨21, [], []⟩, ⟨22, [], []⟩, ⟨23, [], []⟩, ⟨24, [], []⟩], .a]) (notIn []) (by kernel_rfl) rfl (And.intro (decide_eq_true h0) (And.intro (decide_eq_true h1) (And.intro (W39.dec_ok h2) (And.intro (decide_eq_true h1) (And.intro (W39.dec_ok h3) (And.intro h4 (And.intro h4 (And.intro h4 (And.intro h4 (And.intro h4 (And.intro h4 (And.intro h4 (And.intro h4 (And.intro h4 (And.intro h4 (And.intro h4 (And.intro h4 (And.intro h4 (And.intro (Eq.refl ([⟨0, [], []⟩, ⟨1, [], []⟩, ⟨2, [], []⟩, ⟨3, [], []⟩, ⟨4, [], []⟩, ⟨5, [], []⟩, ⟨6, [], []⟩, ⟨7, [], []⟩, ⟨8, [], []⟩, ⟨9, [], []⟩, ⟨10, [], []⟩, ⟨11, [], []⟩, ⟨12, [], []⟩, ⟨13, [], []⟩, ⟨14, [], []⟩, ⟨15, [], []⟩, ⟨16, [], []⟩, ⟨17, [], []⟩, ⟨18, [], []⟩, ⟨19, [], []⟩, ⟨20, [], []⟩, ⟨21, [], []⟩, ⟨22, [], []⟩, ⟨23, [], []⟩, ⟨24, [], []⟩] : List Foot)) True.intro))))))))))))))))))) n, l431, l432, z433, (↑(List.length l431) : Int), decide (z433 < (↑(List.length l431) : Int)), e605.c0, e605.2, e606.c0, e606.2, !e605.c0 == e606.c0, rfl⟩
            · skip
              obtain ⟨r5, h5, h⟩ := Option.bind_eq_some_iff.mp h
              have h5 := F27_ok (m + 0) (e605.2) (e606.2) r5 h5
              cases r5 with
              | a0 b617 =>
                rcases ite_eq h with ⟨h6, h⟩ | ⟨h6, h⟩
                · skip
                  cases h
                  exact ⟨_, round_out (gs := [.t, .t, .el (W39.cells e605), .t, .el (W39.cells e606), .f, .f, .f, .t, .el (W39.cells e605), .f, .f, .f, .f, .f, .t, .el (W39.cells e606), .f, .f, .f, .an (vb b617) [], .f, .f, .ft [⟨0, [], []⟩, ⟨1, [], []⟩, ⟨2, [], []⟩, ⟨3, [], []⟩, ⟨4, [], []⟩, ⟨5, [], []⟩, ⟨6, [], []⟩, ⟨7, [], []⟩, ⟨8, [], []⟩, ⟨9, [], []⟩, ⟨10, [], []⟩, ⟨11, [], []⟩, ⟨12, [], []⟩, ⟨13, [], []⟩, ⟨14, [], []⟩, ⟨15, [], []⟩, ⟨16, [], []⟩, ⟨17, [], []⟩, ⟨18, [], []⟩, ⟨19, [], []⟩, ⟨20, [], []⟩, ⟨21, [], []⟩, ⟨22, [], []⟩, ⟨23, [], []⟩, ⟨24, [], []⟩], .t]) (notIn []) (by kernel_rfl) rfl (And.intro (decide_eq_true h0) (And.intro (decide_eq_true h1) (And.intro (W39.dec_ok h2) (And.intro (decide_eq_true h1) (And.intro (W39.dec_ok h3) (And.intro (Bool.eq_false_iff.mpr h4) (And.intro (Bool.eq_false_iff.mpr h4) (And.intro (Bool.eq_false_iff.mpr h4) (And.intro (decide_eq_true h1) (And.intro (W39.dec_ok h2) (And.intro (Bool.eq_false_iff.mpr h4) (And.intro (Bool.eq_false_iff.mpr h4) (And.intro (Bool.eq_false_iff.mpr h4) (And.intro (Bool.eq_false_iff.mpr h4) (And.intro (Bool.eq_false_iff.mpr h4) (And.intro (decide_eq_true h1) (And.intro (W39.dec_ok h3) (And.intro (Bool.eq_false_iff.mpr h4) (And.intro (Bool.eq_false_iff.mpr h4) (And.intro (Bool.eq_false_iff.mpr h4) (And.intro h5 (And.intro (Bool.eq_false_iff.mpr h4) (And.intro (Bool.eq_false_iff.mpr h4) (And.intro (Eq.refl ([⟨0, [], []⟩, ⟨1, [], []⟩, ⟨2, [], []⟩, ⟨3, [], []⟩, ⟨4, [], []⟩, ⟨5, [], []⟩, ⟨6, [], []⟩, ⟨7, [], []⟩, ⟨8, [], []⟩, ⟨9, [], []⟩, ⟨10, [], []⟩, ⟨11, [], []⟩, ⟨12, [], []⟩, ⟨13, [], []⟩, ⟨14, [], []⟩, ⟨15, [], []⟩, ⟨16, [], []⟩, ⟨17, [], []⟩, ⟨18, [], []⟩, ⟨19, [], []⟩, ⟨20, [], []⟩, ⟨21, [], []⟩, ⟨22, [], []⟩, ⟨23, [], []⟩, ⟨24, [], []⟩] : List Foot)) (And.intro h6 True.intro))))))))))))))))))))))))) n, l431, l432, z433, (↑(List.length l431) : Int), decide (z433 < (↑(List.length l431) : Int)), e605.c0, e605.2, e606.c0, e606.2, !e605.c0 == e606.c0, b617, !b617, rfl⟩
                · skip
                  obtain ⟨st, hs, hr⟩ := L32_0_ok m n (l431) (l432) (w64 (z433 + 1)) r h
                  exact ⟨st, (round_on (gs := [.t, .t, .el (W39.cells e605), .t, .el (W39.cells e606), .f, .f, .f, .t, .el (W39.cells e605), .f, .f, .f, .f, .f, .t, .el (W39.cells e606), .f, .f, .f, .an (vb b617) [], .f, .f, .ft [⟨0, [], []⟩, ⟨1, [], []⟩, ⟨2, [], []⟩, ⟨3, [], []⟩, ⟨4, [], []⟩, ⟨5, [], []⟩, ⟨6, [], []⟩, ⟨7, [], []⟩, ⟨8, [], []⟩, ⟨9, [], []⟩, ⟨10, [], []⟩, ⟨11, [], []⟩, ⟨12, [], []⟩, ⟨13, [], []⟩, ⟨14, [], []⟩, ⟨15, [], []⟩, ⟨16, [], []⟩, ⟨17, [], []⟩, ⟨18, [], []⟩, ⟨19, [], []⟩, ⟨20, [], []⟩, ⟨21, [], []⟩, ⟨22, [], []⟩, ⟨23, [], []⟩, ⟨24, [], []⟩], .f]) (notIn []) (by kernel_rfl) (And.intro (decide_eq_true h0) (And.intro (decide_eq_true h1) (And.intro (W39.dec_ok h2) (And.intro (decide_eq_true h1) (And.intro (W39.dec_ok h3) (And.intro (Bool.eq_false_iff.mpr h4) (And.intro (Bool.eq_false_iff.mpr h4) (And.intro (Bool.eq_false_iff.mpr h4) (And.intro (decide_eq_true h1) (And.intro (W39.dec_ok h2) (And.intro (Bool.eq_false_iff.mpr h4) (And.intro (Bool.eq_false_iff.mpr h4) (And.intro (Bool.eq_false_iff.mpr h4) (And.intro (Bool.eq_false_iff.mpr h4) (And.intro (Bool.eq_false_iff.mpr h4) (And.intro (decide_eq_true h1) (And.intro (W39.dec_ok h3) (And.intro (Bool.eq_false_iff.mpr h4) (And.intro (Bool.eq_false_iff.mpr h4) (And.intro (Bool.eq_false_iff.mpr h4) (And.intro h5 (And.intro (Bool.eq_false_iff.mpr h4) (And.intro (Bool.eq_false_iff.mpr h4) (And.intro (Eq.refl ([⟨0, [], []⟩, ⟨1, [], []⟩, ⟨2, [], []⟩, ⟨3, [], []⟩, ⟨4, [], []⟩, ⟨5, [], []⟩, ⟨6, [], []⟩, ⟨7, [], []⟩, ⟨8, [], []⟩, ⟨9, [], []⟩, ⟨10, [], []⟩, ⟨11, [], []⟩, ⟨12, [], []⟩, ⟨13, [], []⟩, ⟨14, [], []⟩, ⟨15, [], []⟩, ⟨16, [], []⟩, ⟨17, [], []⟩, ⟨18, [], []⟩, ⟨19, [], []⟩, ⟨20, [], []⟩, ⟨21, [], []⟩, ⟨22, [], []⟩, ⟨23, [], []⟩, ⟨24, [], []⟩] : List Foot)) (And.intro (Bool.eq_false_iff.mpr h6) True.intro))))))))))))))))))))))))) n).trans hs, hr⟩
          · skip
            obtain ⟨e630, h4, h⟩ := Option.bind_eq_some_iff.mp h
            rcases ite_eq h with ⟨h5, h⟩ | ⟨h5, h⟩
            · skip
              cases h
              exact ⟨_, round_out (gs := [.t, .t, .el (W39.cells e605), .t, .el (W39n.cells e630), .t, .t, .t, .t, .t, .t, .t, .t, .t, .t, .t, .t, .t, .ft [⟨0, [], []⟩, ⟨1, [], []⟩, ⟨2, [], []⟩, ⟨3, [], []⟩, ⟨4, [], []⟩, ⟨5, [], []⟩, ⟨6, [], []⟩, ⟨7, [], []⟩, ⟨8, [], []⟩, ⟨9, [], []⟩, ⟨10, [], []⟩, ⟨11, [], []⟩, ⟨12, [], []⟩, ⟨13, [], []⟩, ⟨14, [], []⟩, ⟨15, [], []⟩, ⟨16, [], []⟩, ⟨17, [], []⟩, ⟨18, [], []⟩, ⟨19, [], []⟩, ⟨20, [], []⟩, ⟨21, [], []⟩, ⟨22, [], []⟩, ⟨23, [], []⟩, ⟨24, [], []⟩], .a]) (notIn []) (by kernel_rfl) rfl (And.intro (decide_eq_true h0) (And.intro (decide_eq_true h1) (And.intro (W39.dec_ok h2) (And.intro (decide_eq_true h1) (And.intro (W39n.dec_ok h4) (And.intro h5 (And.intro h5 (And.intro h5 (And.intro h5 (And.intro h5 (And.intro h5 (And.intro h5 (And.intro h5 (And.intro h5 (And.intro h5 (And.intro h5 (And.intro h5 (And.intro h5 (And.intro (Eq.refl ([⟨0, [], []⟩, ⟨1, [], []⟩, ⟨2, [], []⟩, ⟨3, [], []⟩, ⟨4, [], []⟩, ⟨5, [], []⟩, ⟨6, [], []⟩, ⟨7, [], []⟩, ⟨8, [], []⟩, ⟨9, [], []⟩, ⟨10, [], []⟩, ⟨11, [], []⟩, ⟨12, [], []⟩, ⟨13, [], []⟩, ⟨14, [], []⟩, ⟨15, [], []⟩, ⟨16, [], []⟩, ⟨17, [], []⟩, ⟨18, [], []⟩, ⟨19, [], []⟩, ⟨20, [], []⟩, ⟨21, [], []⟩, ⟨22, [], []⟩, ⟨23, [], []⟩, ⟨24, [], []⟩] : List Foot)) True.intro))))))))))))))))))) n, l431, l432, z433, (↑(List.length l431) : Int), decide (z433 < (↑(List.length l431) : Int)), e605.c0, e605.2, e630.c0, !e605.c0 == e630.c0, rfl⟩
            · skip
              obtain ⟨r6, h6, h⟩ := Option.bind_eq_some_iff.mp h
              have h6 := F27v1_ok (m + 0) (e605.2) r6 h6
              cases r6 with
              | a0 b640 =>
                rcases ite_eq h with ⟨h7, h⟩ | ⟨h7, h⟩
                · skip
                  cases h
                  exact ⟨_, round_out (gs := [.t, .t, .el (W39.cells e605), .t, .el (W39n.cells e630), .f, .f, .f, .t, .el (W39.cells e605), .f, .f, .f, .f, .f, .t, .el (W39n.cells e630), .f, .f, .f, .an (vb b640) [], .f, .f, .ft [⟨0, [], []⟩, ⟨1, [], []⟩, ⟨2, [], []⟩, ⟨3, [], []⟩, ⟨4, [], []⟩, ⟨5, [], []⟩, ⟨6, [], []⟩, ⟨7, [], []⟩, ⟨8, [], []⟩, ⟨9, [], []⟩, ⟨10, [], []⟩, ⟨11, [], []⟩, ⟨12, [], []⟩, ⟨13, [], []⟩, ⟨14, [], []⟩, ⟨15, [], []⟩, ⟨16, [], []⟩, ⟨17, [], []⟩, ⟨18, [], []⟩, ⟨19, [], []⟩, ⟨20, [], []⟩, ⟨21, [], []⟩, ⟨22, [], []⟩, ⟨23, [], []⟩, ⟨24, [], []⟩], .t]) (notIn []) (by kernel_rfl) rfl (And.intro (decide_eq_true h0) (And.intro (decide_eq_true h1) (And.intro (W39.dec_ok h2) (And.intro (decide_eq_true h1) (And.intro (W39n.dec_ok h4) (And.intro (Bool.eq_false_iff.mpr h5) (And.intro (Bool.eq_false_iff.mpr h5) (And.intro (Bool.eq_false_iff.mpr h5) (And.intro (decide_eq_true h1) (And.intro (W39.dec_ok h2) (And.intro (Bool.eq_false_iff.mpr h5) (And.intro (Bool.eq_false_iff.mpr h5) (And.intro (Bool.eq_false_iff.mpr h5) (And.intro (Bool.eq_false_iff.mpr h5) (And.intro (Bool.eq_false_iff.mpr h5) (And.intro (decide_eq_true h1) (And.intro (W39n.dec_ok h4) (And.intro (Bool.eq_false_iff.mpr h5) (And.intro (Bool.eq_false_iff.mpr h5) (And.intro (Bool.eq_false_iff.mpr h5) (And.intro h6 (And.intro (Bool.eq_false_iff.mpr h5) (And.intro (Bool.eq_false_iff.mpr h5) (And.intro (Eq.refl ([⟨0, [], []⟩, ⟨1, [], []⟩, ⟨2, [], []⟩, ⟨3, [], []⟩, ⟨4, [], []⟩, ⟨5, [], []⟩, ⟨6, [], []⟩, ⟨7, [], []⟩, ⟨8, [], []⟩, ⟨9, [], []⟩, ⟨10, [], []⟩, ⟨11, [], []⟩, ⟨12, [], []⟩, ⟨13, [], []⟩, ⟨14, [], []⟩, ⟨15, [], []⟩, ⟨16, [], []⟩, ⟨17, [], []⟩, ⟨18, [], []⟩, ⟨19, [], []⟩, ⟨20, [], []⟩, ⟨21, [], []⟩, ⟨22, [], []⟩, ⟨23, [], []⟩, ⟨24, [], []⟩] : List Foot)) (And.intro h7 True.intro))))))))))))))))))))))))) n, l431, l432, z433, (↑(List.length l431) : Int), decide (z433 < (↑(List.length l431) : Int)), e605.c0, e605.2, e630.c0, !e605.c0 == e630.c0, b640, !b640, rfl⟩
                · skip
                  obtain ⟨st, hs, hr⟩ := L32_0_ok m n (l431) (l432) (w64 (z433 + 1)) r h
                  exact ⟨st, (round_on (gs := [.t, .t, .el (W39.cells e605), .t, .el (W39n.cells e630), .f, .f, .f, .t, .el (W39.cells e605), .f, .f, .f, .f, .f, .t, .el (W39n.cells e630), .f, .f, .f, .an (vb b640) [], .f, .f, .ft [⟨0, [], []⟩, ⟨1, [], []⟩, ⟨2, [], []⟩, ⟨3, [], []⟩, ⟨4, [], []⟩, ⟨5, [], []⟩, ⟨6, [], []⟩, ⟨7, [], []⟩, ⟨8, [], []⟩, ⟨9, [], []⟩, ⟨10, [], []⟩, ⟨11, [], []⟩, ⟨12, [], []⟩, ⟨13, [], []⟩, ⟨14, [], []⟩, ⟨15, [], []⟩, ⟨16, [], []⟩, ⟨17, [], []⟩, ⟨18, [], []⟩, ⟨19, [], []⟩, ⟨20, [], []⟩, ⟨21, [], []⟩, ⟨22, [], []⟩, ⟨23, [], []⟩, ⟨24, [], []⟩], .f]) (notIn []) (by kernel_rfl) (And.intro (decide_eq_true h0) (And.intro (decide_eq_true h1) (And.intro (W39.dec_ok h2) (And.intro (decide_eq_true h1) (And.intro (W39n.dec_ok h4) (And.intro (Bool.eq_false_iff.mpr h5) (And.intro (Bool.eq_false_iff.mpr h5) (And.intro (Bool.eq_false_iff.mpr h5) (And.intro (decide_eq_true h1) (And.intro (W39.dec_ok h2) (And.intro (Bool.eq_false_iff.mpr h5) (And.intro (Bool.eq_false_iff.mpr h5) (And.intro (Bool.eq_false_iff.mpr h5) (And.intro (Bool.eq_false_iff.mpr h5) (And.intro (Bool.eq_false_iff.mpr h5) (And.intro (decide_eq_true h1) (And.intro (W39n.dec_ok h4) (And.intro (Bool.eq_false_iff.mpr h5) (And.intro (Bool.eq_false_iff.mpr h5) (And.intro (Bool.eq_false_iff.mpr h5) (And.intro h6 (And.intro (Bool.eq_false_iff.mpr h5) (And.intro (Bool.eq_false_iff.mpr h5) (And.intro (Eq.refl ([⟨0, [], []⟩, ⟨1, [], []⟩, ⟨2, [], []⟩, ⟨3, [], []⟩, ⟨4, [], []⟩, ⟨5, [], []⟩, ⟨6, [], []⟩, ⟨7, [], []⟩, ⟨8, [], []⟩, ⟨9, [], []⟩, ⟨10, [], []⟩, ⟨11, [], []⟩, ⟨12, [], []⟩, ⟨13, [], []⟩, ⟨14, [], []⟩, ⟨15, [], []⟩, ⟨16, [], []⟩, ⟨17, [], []⟩, ⟨18, [], []⟩, ⟨19, [], []⟩, ⟨20, [], []⟩, ⟨21, [], []⟩, ⟨22, [], []⟩, ⟨23, [], []⟩, ⟨24, [], []⟩] : List Foot)) (And.intro (Bool.eq_false_iff.mpr h7) True.intro))))))))))))))))))))))))) n).trans hs, hr⟩
        · skip
          obtain ⟨e652, h3, h⟩ := Option.bind_eq_some_iff.mp h
          rcases orE_eq h with ⟨e653, h4, h⟩ | ⟨h4, h⟩
          · skip
            rcases ite_eq h with ⟨h5, h⟩ | ⟨h5, h⟩
            · skip
              cases h
              exact ⟨_, round_out (gs := [.t, .t, .el (W39n.cells e652), .t, .el (W39.cells e653), .t, .t, .t, .t, .t, .t, .t, .t, .t, .t, .t, .t, .t, .ft [⟨0, [], []⟩, ⟨1, [], []⟩, ⟨2, [], []⟩, ⟨3, [], []⟩, ⟨4, [], []⟩, ⟨5, [], []⟩, ⟨6, [], []⟩, ⟨7, [], []⟩, ⟨8, [], []⟩, ⟨9, [], []⟩, ⟨10, [], []⟩, ⟨11, [], []⟩, ⟨12, [], []⟩, ⟨13, [], []⟩, ⟨14, [], []⟩, ⟨15, [], []⟩, ⟨16, [], []⟩, ⟨17, [], []⟩, ⟨18, [], []⟩, ⟨19, [], []⟩, ⟨20, [], []⟩, ⟨21, [], []⟩, ⟨22, [], []⟩, ⟨23, [], []⟩, ⟨24, [], []⟩], .a]) (notIn []) (by kernel_rfl) rfl (And.intro (decide_eq_true h0) (And.intro (decide_eq_true h1) (And.intro (W39n.dec_ok h3) (And.intro (decide_eq_true h1) (And.intro (W39.dec_ok h4) (And.intro h5 (And.intro h5 (And.intro h5 (And.intro h5 (And.intro h5 (And.intro h5 (And.intro h5 (And.intro h5 (And.intro h5 (And.intro h5 (And.intro h5 (And.intro h5 (And.intro h5 (And.intro (Eq.refl ([⟨0, [], []⟩, ⟨1, [], []⟩, ⟨2, [], []⟩, ⟨3, [], []⟩, ⟨4, [], []⟩, ⟨5, [], []⟩, ⟨6, [], []⟩, ⟨7, [], []⟩, ⟨8, [], []⟩, ⟨9, [], []⟩, ⟨10, [], []⟩, ⟨11, [], []⟩, ⟨12, [], []⟩, ⟨13, [], []⟩, ⟨14, [], []⟩, ⟨15, [], []⟩, ⟨16, [], []⟩, ⟨17, [], []⟩, ⟨18, [], []⟩, ⟨19, [], []⟩, ⟨20, [], []⟩, ⟨21, [], []⟩, ⟨22, [], []⟩, ⟨23, [], []⟩, ⟨24, [], []⟩] : List Foot)) True.intro))))))))))))))))))) n, l431, l432, z433, (↑(List.length l431) : Int), decide (z433 < (↑(List.length l431) : Int)), e652.c0, e653.c0, e653.2, !e652.c0 == e653.c0, rfl⟩
            · skip
              obtain ⟨r6, h6, h⟩ := Option.bind_eq_some_iff.mp h
              have h6 := F27v2_ok (m + 0) (e653.2) r6 h6
              cases r6 with
              | a0 b663 =>
                rcases ite_eq h with ⟨h7, h⟩ | ⟨h7, h⟩
                · skip
                  cases h
                  exact ⟨_, round_out (gs := [.t, .t, .el (W39n.cells e652), .t, .el (W39.cells e653), .f, .f, .f, .t, .el (W39n.cells e652), .f, .f, .f, .f, .f, .t, .el (W39.cells e653), .f, .f, .f, .an (vb b663) [], .f, .f, .ft [⟨0, [], []⟩, ⟨1, [], []⟩, ⟨2, [], []⟩, ⟨3, [], []⟩, ⟨4, [], []⟩, ⟨5, [], []⟩, ⟨6, [], []⟩, ⟨7, [], []⟩, ⟨8, [], []⟩, ⟨9, [], []⟩, ⟨10, [], []⟩, ⟨11, [], []⟩, ⟨12, [], []⟩, ⟨13, [], []⟩, ⟨14, [], []⟩, ⟨15, [], []⟩, ⟨16, [], []⟩, ⟨17, [], []⟩, ⟨18, [], []⟩, ⟨19, [], []⟩, ⟨20, [], []⟩, ⟨21, [], []⟩, ⟨22, [], []⟩, ⟨23, [], []⟩, ⟨24, [], []⟩], .t]) (notIn []) (by kernel_rfl) rfl (And.intro (decide_eq_true h0) (And.intro (decide_eq_true h1) (And.intro (W39n.dec_ok h3) (And.intro (decide_eq_true h1) (And.intro (W39.dec_ok h4) (And.intro (Bool.eq_false_iff.mpr h5) (And.intro (Bool.eq_false_iff.mpr h5) (And.intro (Bool.eq_false_iff.mpr h5) (And.intro (decide_eq_true h1) (And.intro (W39n.dec_ok h3) (And.intro (Bool.eq_false_iff.mpr h5) (And.intro (Bool.eq_false_iff.mpr h5) (And.intro (Bool.eq_false_iff.mpr h5) (And.intro (Bool.eq_false_iff.mpr h5) (And.intro (Bool.eq_false_iff.mpr h5) (And.intro (decide_eq_true h1) (And.intro (W39.dec_ok h4) (And.intro (Bool.eq_false_iff.mpr h5) (And.intro (Bool.eq_false_iff.mpr h5) (And.intro (Bool.eq_false_iff.mpr h5) (And.intro h6 (And.intro (Bool.eq_false_iff.mpr h5) (And.intro (Bool.eq_false_iff.mpr h5) (And.intro (Eq.refl ([⟨0, [], []⟩, ⟨1, [], []⟩, ⟨2, [], []⟩, ⟨3, [], []⟩, ⟨4, [], []⟩, ⟨5, [], []⟩, ⟨6, [], []⟩, ⟨7, [], []⟩, ⟨8, [], []⟩, ⟨9, [], []⟩, ⟨10, [], []⟩, ⟨11, [], []⟩, ⟨12, [], []⟩, ⟨13, [], []⟩, ⟨14, [], []⟩, ⟨15, [], []⟩, ⟨16, [], []⟩, ⟨17, [], []⟩, ⟨18, [], []⟩, ⟨19, [], []⟩, ⟨20, [], []⟩, ⟨21, [], []⟩, ⟨22, [], []⟩, ⟨23, [], []⟩, ⟨24, [], []⟩] : List Foot)) (And.intro h7 True.intro))))))))))))))))))))))))) n, l431, l432, z433, (↑(List.length l431) : Int), decide (z433 < (↑(List.length l431) : Int)), e652.c0, e653.c0, e653.2, !e652.c0 == e653.c0, b663, !b663, rfl⟩
                · skip
                  obtain ⟨st, hs, hr⟩ := L32_0_ok m n (l431) (l432) (w64 (z433 + 1)) r h
                  exact ⟨st, (round_on (gs := [.t, .t, .el (W39n.cells e652), .t, .el (W39.cells e653), .f, .f, .f, .t, .el (W39n.cells e652), .f, .f, .f, .f, .f, .t, .el (W39.cells e653), .f, .f, .f, .an (vb b663) [], .f, .f, .ft [⟨0, [], []⟩, ⟨1, [], []⟩, ⟨2, [], []⟩, ⟨3, [], []⟩, ⟨4, [], []⟩, ⟨5, [], []⟩, ⟨6, [], []⟩, ⟨7, [], []⟩, ⟨8, [], []⟩, ⟨9, [], []⟩, ⟨10, [], []⟩, ⟨11, [], []⟩, ⟨12, [], []⟩, ⟨13, [], []⟩, ⟨14, [], []⟩, ⟨15, [], []⟩, ⟨16, [], []⟩, ⟨17, [], []⟩, ⟨18, [], []⟩, ⟨19, [], []⟩, ⟨20, [], []⟩, ⟨21, [], []⟩, ⟨22, [], []⟩, ⟨23, [], []⟩, ⟨24, [], []⟩], .f]) (notIn []) (by kernel_rfl) (And.intro (decide_eq_true h0) (And.intro (decide_eq_true h1) (And.intro (W39n.dec_ok h3) (And.intro (decide_eq_true h1) (And.intro (W39.dec_ok h4) (And.intro (Bool.eq_false_iff.mpr h5) (And.intro (Bool.eq_false_iff.mpr h5) (And.intro (Bool.eq_false_iff.mpr h5) (And.intro (decide_eq_true h1) (And.intro (W39n.dec_ok h3) (And.intro (Bool.eq_false_iff.mpr h5) (And.intro (Bool.eq_false_iff.mpr h5) (And.intro (Bool.eq_false_iff.mpr h5) (And.intro (Bool.eq_false_iff.mpr h5) (And.intro (Bool.eq_false_iff.mpr h5) (And.intro (decide_eq_true h1) (And.intro (W39.dec_ok h4) (And.intro (Bool.eq_false_iff.mpr h5) (And.intro (Bool.eq_false_iff.mpr h5) (And.intro (Bool.eq_false_iff.mpr h5) (And.intro h6 (And.intro (Bool.eq_false_iff.mpr h5) (And.intro (Bool.eq_false_iff.mpr h5) (And.intro (Eq.refl ([⟨0, [], []⟩, ⟨1, [], []⟩, ⟨2, [], []⟩, ⟨3, [], []⟩, ⟨4, [], []⟩, ⟨5, [], []⟩, ⟨6, [], []⟩, ⟨7, [], []⟩, ⟨8, [], []⟩, ⟨9, [], []⟩, ⟨10, [], []⟩, ⟨11, [], []⟩, ⟨12, [], []⟩, ⟨13, [], []⟩, ⟨14, [], []⟩, ⟨15, [], []⟩, ⟨16, [], []⟩, ⟨17, [], []⟩, ⟨18, [], []⟩, ⟨19, [], []⟩, ⟨20, [], []⟩, ⟨21, [], []⟩, ⟨22, [], []⟩, ⟨23, [], []⟩, ⟨24, [], []⟩] : List Foot)) (And.intro (Bool.eq_false_iff.mpr h7) True.intro))))))))))))))))))))))))) n).trans hs, hr⟩
          · skip
            obtain ⟨e675, h5, h⟩ := Option.bind_eq_some_iff.mp h
            rcases ite_eq h with ⟨h6, h⟩ | ⟨h6, h⟩
            · skip
              cases h
              exact ⟨_, round_out (gs := [.t, .t, .el (W39n.cells e652), .t, .el (W39n.cells e675), .t, .t, .t, .t, .t, .t, .t, .t, .t, .t, .t, .t, .t, .ft [⟨0, [], []⟩, ⟨1, [], []⟩, ⟨2, [], []⟩, ⟨3, [], []⟩, ⟨4, [], []⟩, ⟨5, [], []⟩, ⟨6, [], []⟩, ⟨7, [], []⟩, ⟨8, [], []⟩, ⟨9, [], []⟩, ⟨10, [], []⟩, ⟨11, [], []⟩, ⟨12, [], []⟩, ⟨13, [], []⟩, ⟨14, [], []⟩, ⟨15, [], []⟩, ⟨16, [], []⟩, ⟨17, [], []⟩, ⟨18, [], []⟩, ⟨19, [], []⟩, ⟨20, [], []⟩, ⟨21, [], []⟩, ⟨22, [], []⟩, ⟨23, [], []⟩, ⟨24, [], []⟩], .a]) (notIn []) (by kernel_rfl) rfl (And.intro (decide_eq_true h0) (And.intro (decide_eq_true h1) (And.intro (W39n.dec_ok h3) (And.intro (decide_eq_true h1) (And.intro (W39n.dec_ok h5) (And.intro h6 (And.intro h6 (And.intro h6 (And.intro h6 (And.intro h6 (And.intro h6 (And.intro h6 (And.intro h6 (And.intro h6 (And.intro h6 (And.intro h6 (And.intro h6 (And.intro h6 (And.intro (Eq.refl ([⟨0, [], []⟩, ⟨1, [], []⟩, ⟨2, [], []⟩, ⟨3, [], []⟩, ⟨4, [], []⟩, ⟨5, [], []⟩, ⟨6, [], []⟩, ⟨7, [], []⟩, ⟨8, [], []⟩, ⟨9, [], []⟩, ⟨10, [], []⟩, ⟨11, [], []⟩, ⟨12, [], []⟩, ⟨13, [], []⟩, ⟨14, [], []⟩, ⟨15, [], []⟩, ⟨16, [], []⟩, ⟨17, [], []⟩, ⟨18, [], []⟩, ⟨19, [], []⟩, ⟨20, [], []⟩, ⟨21, [], []⟩, ⟨22, [], []⟩, ⟨23, [], []⟩, ⟨24, [], []⟩] : List Foot)) True.intro))))))))))))))))))) n, l431, l432, z433, (↑(List.length l431) : Int), decide (z433 < (↑(List.length l431) : Int)), e652.c0, e675.c0, !e652.c0 == e675.c0, rfl⟩
            · skip
              obtain ⟨r7, h7, h⟩ := Option.bind_eq_some_iff.mp h
              have h7 := F27v3_ok (m + 0) r7 h7
              cases r7 with
              | a0 b684 =>
                rcases ite_eq h with ⟨h8, h⟩ | ⟨h8, h⟩
                · skip
                  cases h
                  exact ⟨_, round_out (gs := [.t, .t, .el (W39n.cells e652), .t, .el (W39n.cells e675), .f, .f, .f, .t, .el (W39n.cells e652), .f, .f, .f, .f, .f, .t, .el (W39n.cells e675), .f, .f, .f, .an (vb b684) [], .f, .f, .ft [⟨0, [], []⟩, ⟨1, [], []⟩, ⟨2, [], []⟩, ⟨3, [], []⟩, ⟨4, [], []⟩, ⟨5, [], []⟩, ⟨6, [], []⟩, ⟨7, [], []⟩, ⟨8, [], []⟩, ⟨9, [], []⟩, ⟨10, [], []⟩, ⟨11, [], []⟩, ⟨12, [], []⟩, ⟨13, [], []⟩, ⟨14, [], []⟩, ⟨15, [], []⟩, ⟨16, [], []⟩, ⟨17, [], []⟩, ⟨18, [], []⟩, ⟨19, [], []⟩, ⟨20, [], []⟩, ⟨21, [], []⟩, ⟨22, [], []⟩, ⟨23, [], []⟩, ⟨24, [], []⟩], .t]) (notIn []) (by kernel_rfl) rfl (And.intro (decide_eq_true h0) (And.intro (decide_eq_true h1) (And.intro (W39n.dec_ok h3) (And.intro (decide_eq_true h1) (And.intro (W39n.dec_ok h5) (And.intro (Bool.eq_false_iff.mpr h6) (And.intro (Bool.eq_false_iff.mpr h6) (And.intro (Bool.eq_false_iff.mpr h6) (And.intro (decide_eq_true h1) (And.intro (W39n.dec_ok h3) (And.intro (Bool.eq_false_iff.mpr h6) (And.intro (Bool.eq_false_iff.mpr h6) (And.intro (Bool.eq_false_iff.mpr h6) (And.intro (Bool.eq_false_iff.mpr h6) (And.intro (Bool.eq_false_iff.mpr h6) (And.intro (decide_eq_true h1) (And.intro (W39n.dec_ok h5) (And.intro (Bool.eq_false_iff.mpr h6) (And.intro (Bool.eq_false_iff.mpr h6) (And.intro (Bool.eq_false_iff.mpr h6) (And.intro h7 (And.intro (Bool.eq_false_iff.mpr h6) (And.intro (Bool.eq_false_iff.mpr h6) (And.intro (Eq.refl ([⟨0, [], []⟩, ⟨1, [], []⟩, ⟨2, [], []⟩, ⟨3, [], []⟩, ⟨4, [], []⟩, ⟨5, [], []⟩, ⟨6, [], []⟩, ⟨7, [], []⟩, ⟨8, [], []⟩, ⟨9, [], []⟩, ⟨10, [], []⟩, ⟨11, [], []⟩, ⟨12, [], []⟩, ⟨13, [], []⟩, ⟨14, [], []⟩, ⟨15, [], []⟩, ⟨16, [], []⟩, ⟨17, [], []⟩, ⟨18, [], []⟩, ⟨19, [], []⟩, ⟨20, [], []⟩, ⟨21, [], []⟩, ⟨22, [], []⟩, ⟨23, [], []⟩, ⟨24, [], []⟩] : List Foot)) (And.intro h8 True.intro))))))))))))))))))))))))) n, l431, l432, z433, (↑(List.length l431) : Int), decide (z433 < (↑(List.length l431) : Int)), e652.c0, e675.c0, !e652.c0 == e675.c0, b684, !b684, rfl⟩
                · skip
                  obtain ⟨st, hs, hr⟩ := L32_0_ok m n (l431) (l432) (w64 (z433 + 1)) r h
                  exact ⟨st, (round_on (gs := [.t, .t, .el (W39n.cells e652), .t, .el (W39n.cells e675), .f, .f, .f, .t, .el (W39n.cells e652), .f, .f, .f, .f, .f, .t, .el (W39n.cells e675), .f, .f, .f, .an (vb b684) [], .f, .f, .ft [⟨0, [], []⟩, ⟨1, [], []⟩, ⟨2, [], []⟩, ⟨3, [], []⟩, ⟨4, [], []⟩, ⟨5, [], []⟩, ⟨6, [], []⟩, ⟨7, [], []⟩, ⟨8, [], []⟩, ⟨9, [], []⟩, ⟨10, [], []⟩, ⟨11, [], []⟩, ⟨12, [], []⟩, ⟨13, [], []⟩, ⟨14, [], []⟩, ⟨15, [], []⟩, ⟨16, [], []⟩, ⟨17, [], []⟩, ⟨18, [], []⟩, ⟨19, [], []⟩, ⟨20, [], []⟩, ⟨21, [], []⟩, ⟨22, [], []⟩, ⟨23, [], []⟩, ⟨24, [], []⟩], .f]) (notIn []) (by kernel_rfl) (And.intro (decide_eq_true h0) (And.intro (decide_eq_true h1) (And.intro (W39n.dec_ok h3) (And.intro (decide_eq_true h1) (And.intro (W39n.dec_ok h5) (And.intro (Bool.eq_false_iff.mpr h6) (And.intro (Bool.eq_false_iff.mpr h6) (And.intro (Bool.eq_false_iff.mpr h6) (And.intro (decide_eq_true h1) (And.intro (W39n.dec_ok h3) (And.intro (Bool.eq_false_iff.mpr h6) (And.intro (Bool.eq_false_iff.mpr h6) (And.intro (Bool.eq_false_iff.mpr h6) (And.intro (Bool.eq_false_iff.mpr h6) (And.intro (Bool.eq_false_iff.mpr h6) (And.intro (decide_eq_true h1) (And.intro (W39n.dec_ok h5) (And.intro (Bool.eq_false_iff.mpr h6) (And.intro (Bool.eq_false_iff.mpr h6) (And.intro (Bool.eq_false_iff.mpr h6) (And.intro h7 (And.intro (Bool.eq_false_iff.mpr h6) (And.intro (Bool.eq_false_iff.mpr h6) (And.intro (Eq.refl ([⟨0, [], []⟩, ⟨1, [], []⟩, ⟨2, [], []⟩, ⟨3, [], []⟩, ⟨4, [], []⟩, ⟨5, [], []⟩, ⟨6, [], []⟩, ⟨7, [], []⟩, ⟨8, [], []⟩, ⟨9, [], []⟩, ⟨10, [], []⟩, ⟨11, [], []⟩, ⟨12, [], []⟩, ⟨13, [], []⟩, ⟨14, [], []⟩, ⟨15, [], []⟩, ⟨16, [], []⟩, ⟨17, [], []⟩, ⟨18, [], []⟩, ⟨19, [], []⟩, ⟨20, [], []⟩, ⟨21, [], []⟩, ⟨22, [], []⟩, ⟨23, [], []⟩, ⟨24, [], []⟩] : List Foot)) (And.intro (Bool.eq_false_iff.mpr h8) True.intro))))))))))))))))))))))))) n).trans hs, hr⟩
      · skip
        cases h
    · skip
      cases h
      exact ⟨_, round_out (gs := [.f]) (notIn []) (by kernel_rfl) rfl (And.intro (decide_eq_false h0) True.intro) n, l431, l432, z433, (↑(List.length l431) : Int), decide (z433 < (↑(List.length l431) : Int)), rfl⟩
inductive A32 where
  | a0 (b604 : Bool)
@[reducible] def A32.out : A32 → V × Store
  | .a0 b604 => (vb b604, [])
def F32 (l332 : List (List V)) (l333 : List (List V)) : Option A32 :=
  if ((↑(List.length l332) : Int) != (↑(List.length l333) : Int)) = true then
   some (A32.a0 (false))
  else
   (L32_0 100000 (l332) (l333) (0)).bind fun r => match r with
   | .e0 =>
    some (A32.a0 (false))
   | .e1 =>
    some (A32.a0 (false))
   | .e2 =>
    some (A32.a0 (false))
   | .e3 =>
    some (A32.a0 (false))
   | .e4 =>
    some (A32.a0 (false))
   | .e5 =>
    some (A32.a0 (false))
   | .e6 =>
    some (A32.a0 (false))
   | .e7 =>
    some (A32.a0 (false))
   | .e8 =>
    some (A32.a0 (true))
theorem F32_ok (m : Nat) (l332 : List (List V)) (l333 : List (List V)) (r : A32) (h : F32 l332 l333 = some r) : call Try.prog X O0 100000 (m + 2) 32 ([V.list 2 l332, V.list 2 l333]) ([]) = some r.out := by
  unfold F32 at h
  rcases ite_eq h with ⟨h0, h⟩ | ⟨h0, h⟩
  · skip
    cases h
    exact call_pathL (gs := [.t]) (notIn []) rfl rfl (by kernel_rfl) (And.intro h0 True.intro)
  · skip
    obtain ⟨r1, h1, h⟩ := Option.bind_eq_some_iff.mp h
    obtain ⟨st1, h1, hr1⟩ := L32_0_ok m 100000 (l332) (l333) (0) r1 h1
    have h1 : loopRun Try.prog X (call Try.prog X O0 100000 (m + 1)) 32 (0) 100000 B32 0 ({ T := V.list 2 l332 :: V.list 2 l333 :: U :: U :: vb false :: i64 0 :: V.list 2 l332 :: i64 (↑(List.length l332) : Int) :: V.list 2 l333 :: i64 (↑(List.length l333) : Int) :: vb ((↑(List.length l332) : Int) != (↑(List.length l333) : Int)) :: un 31 [], σ := [] }) = some st1 := by
      rw [loopRun_from, show prep (0) (X.keep 32 0) ({ T := V.list 2 l332 :: V.list 2 l333 :: U :: U :: vb false :: i64 0 :: V.list 2 l332 :: i64 (↑(List.length l332) : Int) :: V.list 2 l333 :: i64 (↑(List.length l333) : Int) :: vb ((↑(List.length l332) : Int) != (↑(List.length l333) : Int)) :: un 31 [], σ := [] }) = { T := V.list 2 l332 :: V.list 2 l333 :: U :: U :: U :: i64 0 :: un 36 [], σ := [] } by kernel_rfl]
      exact h1
    cases r1 with
    | e0 =>
      obtain ⟨l700, l701, z702, z703, b704, b705, l706, b707, l708, b709, rfl⟩ := hr1
      cases h
      exact call_pathL (gs := [.f, .lp (VX.ret) (s32_0_0 l700 l701 z702 z703 b704 b705 l706 b707 l708 b709)]) (notIn []) rfl rfl (by kernel_rfl) (And.intro (Bool.eq_false_iff.mpr h0) (And.intro h1 True.intro))
    | e1 =>
      obtain ⟨l710, l711, z712, z713, b714, b715, l716, b717, l718, b719, b720, b721, rfl⟩ := hr1
      cases h
      exact call_pathL (gs := [.f, .lp (VX.ret) (s32_0_1 l710 l711 z712 z713 b714 b715 l716 b717 l718 b719 b720 b721)]) (notIn []) rfl rfl (by kernel_rfl) (And.intro (Bool.eq_false_iff.mpr h0) (And.intro h1 True.intro))
    | e2 =>
      obtain ⟨l722, l723, z724, z725, b726, b727, l728, b729, b730, rfl⟩ := hr1
      cases h
      exact call_pathL (gs := [.f, .lp (VX.ret) (s32_0_2 l722 l723 z724 z725 b726 b727 l728 b729 b730)]) (notIn []) rfl rfl (by kernel_rfl) (And.intro (Bool.eq_false_iff.mpr h0) (And.intro h1 True.intro))
    | e3 =>
      obtain ⟨l731, l732, z733, z734, b735, b736, l737, b738, b739, b740, b741, rfl⟩ := hr1
      cases h
      exact call_pathL (gs := [.f, .lp (VX.ret) (s32_0_3 l731 l732 z733 z734 b735 b736 l737 b738 b739 b740 b741)]) (notIn []) rfl rfl (by kernel_rfl) (And.intro (Bool.eq_false_iff.mpr h0) (And.intro h1 True.intro))
    | e4 =>
      obtain ⟨l742, l743, z744, z745, b746, b747, b748, l749, b750, rfl⟩ := hr1
      cases h
      exact call_pathL (gs := [.f, .lp (VX.ret) (s32_0_4 l742 l743 z744 z745 b746 b747 b748 l749 b750)]) (notIn []) rfl rfl (by kernel_rfl) (And.intro (Bool.eq_false_iff.mpr h0) (And.intro h1 True.intro))
    | e5 =>
      obtain ⟨l751, l752, z753, z754, b755, b756, b757, l758, b759, b760, b761, rfl⟩ := hr1
      cases h
      exact call_pathL (gs := [.f, .lp (VX.ret) (s32_0_5 l751 l752 z753 z754 b755 b756 b757 l758 b759 b760 b761)]) (notIn []) rfl rfl (by kernel_rfl) (And.intro (Bool.eq_false_iff.mpr h0) (And.intro h1 True.intro))
    | e6 =>
      obtain ⟨l762, l763, z764, z765, b766, b767, b768, b769, rfl⟩ := hr1
      cases h
      exact call_pathL (gs := [.f, .lp (VX.ret) (s32_0_6 l762 l763 z764 z765 b766 b767 b768 b769)]) (notIn []) rfl rfl (by kernel_rfl) (And.intro (Bool.eq_false_iff.mpr h0) (And.intro h1 True.intro))
    | e7 =>
      obtain ⟨l770, l771, z772, z773, b774, b775, b776, b777, b778, b779, rfl⟩ := hr1
      cases h
      exact call_pathL (gs := [.f, .lp (VX.ret) (s32_0_7 l770 l771 z772 z773 b774 b775 b776 b777 b778 b779)]) (notIn []) rfl rfl (by kernel_rfl) (And.intro (Bool.eq_false_iff.mpr h0) (And.intro h1 True.intro))
    | e8 =>
      obtain ⟨l780, l781, z782, z783, b784, rfl⟩ := hr1
      cases h
      exact call_pathL (gs := [.f, .lp (VX.exit 0) (s32_0_8 l780 l781 z782 z783 b784)]) (notIn []) rfl rfl (by kernel_rfl) (And.intro (Bool.eq_false_iff.mpr h0) (And.intro h1 True.intro))
/-! ## 38 -/
inductive A38 where
  | a0 (b786 : Bool)
@[reducible] def A38.out : A38 → V × Store
  | .a0 b786 => (vb b786, [])
def F38 (b176 : Bool) (z177 : Int) (z178 : Int) : Option A38 :=
  (F23 (b176)).bind fun r => match r with
  | .a0 z207 =>
   (F29 (b176)).bind fun r => match r with
   | .a0 z234 =>
    if (z207 == z234) = true then
     bnd (F26 (b176)) fun z235 =>
     bnd (F58 (b176)) fun z236 =>
     if (z235 == z236) = true then
      (F24 (b176) (z177) (z178)).bind fun r => match r with
      | .a0 b284 =>
       (F70 (b176) (z177) (z178)).bind fun r => match r with
       | .a0 b331 =>
        (F32 ([[vb b284, V.nilS]]) ([[vb b331, V.nilS]])).bind fun r => match r with
        | .a0 b785 =>
         some (A38.a0 (b785))
     else
      some (A38.a0 (false))
    else
     some (A38.a0 (false))
theorem F38_ok (m : Nat) (b176 : Bool) (z177 : Int) (z178 : Int) (r : A38) (h : F38 b176 z177 z178 = some r) : call Try.prog X O0 100000 (m + 4) 38 ([V.agg [vb b176, V.nilS], i64 z177, i64 z178]) ([]) = some r.out := by
  unfold F38 at h
  obtain ⟨r0, h0, h⟩ := Option.bind_eq_some_iff.mp h
  have h0 := F23_ok (m + 1) (b176) r0 h0
  cases r0 with
  | a0 z207 =>
    obtain ⟨r1, h1, h⟩ := Option.bind_eq_some_iff.mp h
    have h1 := F29_ok (m + 1) (b176) r1 h1
    cases r1 with
    | a0 z234 =>
      rcases ite_eq h with ⟨h2, h⟩ | ⟨h2, h⟩
      · skip
        obtain ⟨z235, h3, h⟩ := bnd_eq h
        obtain ⟨z236, h4, h⟩ := bnd_eq h
        rcases ite_eq h with ⟨h5, h⟩ | ⟨h5, h⟩
        · skip
          obtain ⟨r6, h6, h⟩ := Option.bind_eq_some_iff.mp h
          have h6 := F24_ok (m + 0) (b176) (z177) (z178) r6 h6
          cases r6 with
          | a0 b284 =>
            obtain ⟨r7, h7, h⟩ := Option.bind_eq_some_iff.mp h
            have h7 := F70_ok (m + 0) (b176) (z177) (z178) r7 h7
            cases r7 with
            | a0 b331 =>
              obtain ⟨r8, h8, h⟩ := Option.bind_eq_some_iff.mp h
              have h8 := F32_ok (m + 1) ([[vb b284, V.nilS]]) ([[vb b331, V.nilS]]) r8 h8
              cases r8 with
              | a0 b785 =>
                cases h
                exact call_pathL (gs := [.a, .an (i64 z207) [], .a, .an (i64 z234) [], .t, .a, .t, .an (i64 z235) [], .t, .a, .t, .an (i64 z236) [], .t, .t, .t, .a, .t, .t, .t, .an (V.agg [vb b284, V.nilS]) [], .t, .t, .a, .t, .t, .t, .an (V.agg [vb b331, V.nilS]) [], .t, .t, .a, .a, .an (vb b785) [], .t, .ft [⟨0, [0], []⟩, ⟨1, [], []⟩, ⟨2, [0], []⟩, ⟨3, [], []⟩, ⟨4, [], []⟩, ⟨5, [], []⟩, ⟨6, [0], []⟩, ⟨7, [], []⟩, ⟨8, [0], []⟩, ⟨9, [], []⟩, ⟨10, [], []⟩, ⟨11, [], []⟩, ⟨12, [], []⟩, ⟨13, [0], []⟩, ⟨14, [], []⟩, ⟨15, [], []⟩, ⟨16, [], []⟩, ⟨17, [2], [2]⟩, ⟨18, [0], []⟩, ⟨19, [], []⟩, ⟨20, [], []⟩, ⟨21, [], []⟩, ⟨22, [4], [4]⟩, ⟨23, [2, 4], []⟩, ⟨24, [], []⟩, ⟨25, [], []⟩]]) (notIn []) rfl rfl (by kernel_rfl) (And.intro h0 (And.intro h1 (And.intro h2 (And.intro h2 (And.intro (F26_ok (m + 2) (b176) z235 h3) (And.intro h2 (And.intro h2 (And.intro (F58_ok (m + 2) (b176) z236 h4) (And.intro h2 (And.intro h2 (And.intro h5 (And.intro h5 (And.intro h5 (And.intro h5 (And.intro h6 (And.intro h5 (And.intro h5 (And.intro h5 (And.intro h5 (And.intro h5 (And.intro h7 (And.intro h5 (And.intro h5 (And.intro h8 (And.intro h5 (And.intro (Eq.refl ([⟨0, [0], []⟩, ⟨1, [], []⟩, ⟨2, [0], []⟩, ⟨3, [], []⟩, ⟨4, [], []⟩, ⟨5, [], []⟩, ⟨6, [0], []⟩, ⟨7, [], []⟩, ⟨8, [0], []⟩, ⟨9, [], []⟩, ⟨10, [], []⟩, ⟨11, [], []⟩, ⟨12, [], []⟩, ⟨13, [0], []⟩, ⟨14, [], []⟩, ⟨15, [], []⟩, ⟨16, [], []⟩, ⟨17, [2], [2]⟩, ⟨18, [0], []⟩, ⟨19, [], []⟩, ⟨20, [], []⟩, ⟨21, [], []⟩, ⟨22, [4], [4]⟩, ⟨23, [2, 4], []⟩, ⟨24, [], []⟩, ⟨25, [], []⟩] : List Foot)) True.intro))))))))))))))))))))))))))
        · skip
          cases h
          exact call_pathL (gs := [.a, .an (i64 z207) [], .a, .an (i64 z234) [], .t, .a, .t, .an (i64 z235) [], .t, .a, .t, .an (i64 z236) [], .t, .t, .f, .f, .f, .f, .f, .f, .f, .f, .f, .f, .f, .f, .ft [⟨0, [0], []⟩, ⟨1, [], []⟩, ⟨2, [0], []⟩, ⟨3, [], []⟩, ⟨4, [], []⟩, ⟨5, [], []⟩, ⟨6, [0], []⟩, ⟨7, [], []⟩, ⟨8, [0], []⟩, ⟨9, [], []⟩, ⟨10, [], []⟩, ⟨11, [], []⟩, ⟨12, [], []⟩, ⟨13, [], []⟩, ⟨14, [], []⟩, ⟨15, [], []⟩, ⟨16, [], []⟩, ⟨17, [], []⟩, ⟨18, [], []⟩, ⟨19, [], []⟩, ⟨20, [], []⟩, ⟨21, [], []⟩, ⟨22, [], []⟩, ⟨23, [], []⟩, ⟨24, [], []⟩, ⟨25, [], []⟩]]) (notIn []) rfl rfl (by kernel_rfl) (And.intro h0 (And.intro h1 (And.intro h2 (And.intro h2 (And.intro (F26_ok (m + 2) (b176) z235 h3) (And.intro h2 (And.intro h2 (And.intro (F58_ok (m + 2) (b176) z236 h4) (And.intro h2 (And.intro h2 (And.intro (Bool.eq_false_iff.mpr h5) (And.intro (Bool.eq_false_iff.mpr h5) (And.intro (Bool.eq_false_iff.mpr h5) (And.intro (Bool.eq_false_iff.mpr h5) (And.intro (Bool.eq_false_iff.mpr h5) (And.intro (Bool.eq_false_iff.mpr h5) (And.intro (Bool.eq_false_iff.mpr h5) (And.intro (Bool.eq_false_iff.mpr h5) (And.intro (Bool.eq_false_iff.mpr h5) (And.intro (Bool.eq_false_iff.mpr h5) (And.intro (Bool.eq_false_iff.mpr h5) (And.intro (Bool.eq_false_iff.mpr h5) (And.intro (Eq.refl ([⟨0, [0], []⟩, ⟨1, [], []⟩, ⟨2, [0], []⟩, ⟨3, [], []⟩, ⟨4, [], []⟩, ⟨5, [], []⟩, ⟨6, [0], []⟩, ⟨7, [], []⟩, ⟨8, [0], []⟩, ⟨9, [], []⟩, ⟨10, [], []⟩, ⟨11, [], []⟩, ⟨12, [], []⟩, ⟨13, [], []⟩, ⟨14, [], []⟩, ⟨15, [], []⟩, ⟨16, [], []⟩, ⟨17, [], []⟩, ⟨18, [], []⟩, ⟨19, [], []⟩, ⟨20, [], []⟩, ⟨21, [], []⟩, ⟨22, [], []⟩, ⟨23, [], []⟩, ⟨24, [], []⟩, ⟨25, [], []⟩] : List Foot)) True.intro)))))))))))))))))))))))
      · skip
        cases h
        exact call_pathL (gs := [.a, .an (i64 z207) [], .a, .an (i64 z234) [], .f, .f, .f, .f, .f, .f, .a, .a, .a, .a, .a, .a, .a, .a, .a, .a, .a, .a, .ft [⟨0, [0], []⟩, ⟨1, [], []⟩, ⟨2, [0], []⟩, ⟨3, [], []⟩, ⟨4, [], []⟩, ⟨5, [], []⟩, ⟨6, [], []⟩, ⟨7, [], []⟩, ⟨8, [], []⟩, ⟨9, [], []⟩, ⟨10, [], []⟩, ⟨11, [], []⟩, ⟨12, [], []⟩, ⟨13, [], []⟩, ⟨14, [], []⟩, ⟨15, [], []⟩, ⟨16, [], []⟩, ⟨17, [], []⟩, ⟨18, [], []⟩, ⟨19, [], []⟩, ⟨20, [], []⟩, ⟨21, [], []⟩, ⟨22, [], []⟩, ⟨23, [], []⟩, ⟨24, [], []⟩, ⟨25, [], []⟩]]) (notIn []) rfl rfl (by kernel_rfl) (And.intro h0 (And.intro h1 (And.intro (Bool.eq_false_iff.mpr h2) (And.intro (Bool.eq_false_iff.mpr h2) (And.intro (Bool.eq_false_iff.mpr h2) (And.intro (Bool.eq_false_iff.mpr h2) (And.intro (Bool.eq_false_iff.mpr h2) (And.intro (Bool.eq_false_iff.mpr h2) (And.intro (Eq.refl ([⟨0, [0], []⟩, ⟨1, [], []⟩, ⟨2, [0], []⟩, ⟨3, [], []⟩, ⟨4, [], []⟩, ⟨5, [], []⟩, ⟨6, [], []⟩, ⟨7, [], []⟩, ⟨8, [], []⟩, ⟨9, [], []⟩, ⟨10, [], []⟩, ⟨11, [], []⟩, ⟨12, [], []⟩, ⟨13, [], []⟩, ⟨14, [], []⟩, ⟨15, [], []⟩, ⟨16, [], []⟩, ⟨17, [], []⟩, ⟨18, [], []⟩, ⟨19, [], []⟩, ⟨20, [], []⟩, ⟨21, [], []⟩, ⟨22, [], []⟩, ⟨23, [], []⟩, ⟨24, [], []⟩, ⟨25, [], []⟩] : List Foot)) True.intro)))))))))
/-! ## 26 -/
def F26v1 (b797 : Bool) (l798 : List (List V)) : Int :=
  if (b797) = true then
   if (↑(List.length l798) : Int) ≥ 2 then
    (↑(List.length l798) : Int)
   else
    if w64 ((↑(List.length l798) : Int) - 1) > 0 then w64 ((↑(List.length l798) : Int) - 1) else 0
  else
   if w64 ((↑(List.length l798) : Int) - 1) > 0 then w64 ((↑(List.length l798) : Int) - 1) else 0
theorem F26v1_ok (m : Nat) (b797 : Bool) (l798 : List (List V)) (z801 : Int) (h : F26v1 b797 l798 = z801) : call Try.prog X O0 100000 (m + 1) 26 ([V.agg [vb b797, V.list 2 l798]]) ([]) = some (i64 z801, []) := by
  unfold F26v1 at h
  rcases ite_eq h with ⟨h0, h⟩ | ⟨h0, h⟩
  · skip
    rcases ite_eq h with ⟨h1, h⟩ | ⟨h1, h⟩
    · skip
      subst h
      exact call_pathL (gs := [.a, .a, .t, .t, .t, .t]) (notIn []) rfl rfl (by kernel_rfl) (And.intro h0 (And.intro h0 (And.intro h0 (And.intro (decide_eq_true h1) True.intro))))
    · skip
      subst h
      exact call_pathL (gs := [.a, .a, .t, .t, .t, .f]) (notIn []) rfl rfl (by kernel_rfl) (And.intro h0 (And.intro h0 (And.intro h0 (And.intro (decide_eq_false h1) True.intro))))
  · skip
    subst h
    exact call_pathL (gs := [.a, .a, .f, .f, .f, .a]) (notIn []) rfl rfl (by kernel_rfl) (And.intro (Bool.eq_false_iff.mpr h0) (And.intro (Bool.eq_false_iff.mpr h0) (And.intro (Bool.eq_false_iff.mpr h0) True.intro)))
/-! ## 98 -/
def F98 (z814 : Int) : Int :=
  bnd (F90 (z814) (-536870912) (536870912)) fun z816 =>
  z816
theorem F98_ok (m : Nat) (z814 : Int) (z818 : Int) (h : F98 z814 = z818) : call Try.prog X O0 100000 (m + 2) 98 ([i64 z814]) ([]) = some (i64 z818, []) := by
  unfold F98 at h
  obtain ⟨z816, h0, h⟩ := bnd_eq h
  subst h
  exact call_pathL (gs := [.an (i64 z816) []]) (notIn []) rfl rfl (by kernel_rfl) (And.intro (F90_ok (m + 0) (z814) (-536870912) (536870912) z816 h0) True.intro)
/-! ## 71 -/
inductive A71 where
  | a0 (z821 : Int) (z822 : Int)
@[reducible] def A71.out : A71 → V × Store
  | .a0 z821 z822 => (V.agg [i64 z821, i64 z822], [])
def F71 (z811 : Int) (z812 : Int) : Option A71 :=
  bnd (F98 (z811)) fun z819 =>
  bnd (F98 (z812)) fun z820 =>
  some (A71.a0 (z819) (z820))
theorem F71_ok (m : Nat) (z811 : Int) (z812 : Int) (r : A71) (h : F71 z811 z812 = some r) : call Try.prog X O0 100000 (m + 3) 71 ([V.agg [i64 z811, i64 z812]]) ([]) = some r.out := by
  unfold F71 at h
  obtain ⟨z819, h0, h⟩ := bnd_eq h
  obtain ⟨z820, h1, h⟩ := bnd_eq h
  cases h
  exact call_pathL (gs := [.a, .an (i64 z819) [], .a, .an (i64 z820) [], .a, .ft [⟨0, [0], []⟩, ⟨1, [0], []⟩, ⟨2, [], []⟩, ⟨3, [0], []⟩, ⟨4, [0], []⟩, ⟨5, [], []⟩, ⟨6, [], []⟩, ⟨7, [1], [1]⟩]]) (notIn []) rfl rfl (by kernel_rfl) (And.intro (F98_ok (m + 0) (z811) z819 h0) (And.intro (F98_ok (m + 0) (z812) z820 h1) (And.intro (Eq.refl ([⟨0, [0], []⟩, ⟨1, [0], []⟩, ⟨2, [], []⟩, ⟨3, [0], []⟩, ⟨4, [0], []⟩, ⟨5, [], []⟩, ⟨6, [], []⟩, ⟨7, [1], [1]⟩] : List Foot)) True.intro)))
/-! ## 111 -/
noncomputable abbrev B111 : Code := (Try.f111.body).getD .skip
inductive R111_0 where
  | e0 (z840 : Int)
@[reducible] def s111_0_0 (z839 : Int) (z840 : Int) (z841 : Int) (b842 : Bool) : S := { T := V.int IntKind.u64 z839 :: U :: U :: V.int IntKind.u64 z840 :: V.int IntKind.u64 z841 :: U :: V.int IntKind.u64 z841 :: vb b842 :: un 13 [], σ := [] }
def R111_0.St : R111_0 → VX × S → Prop
  | .e0 z840, p => ∃ z839 : Int, ∃ z841 : Int, ∃ b842 : Bool, p = (VX.exit 0, s111_0_0 z839 z840 z841 b842)
def L111_0 : Nat → Int → Int → Int → Option R111_0
  | 0, _, _, _ => none
  | n + 1, z836, z837, z838 =>
    if z838 > 0 then
     if IntKind.wrap IntKind.u64 (IntKind.wrap IntKind.u64 (↑(BitVec.toNat (BitVec.ofInt (IntKind.bits IntKind.u64) z837 ||| BitVec.ofInt (IntKind.bits IntKind.u64) z838)) : Int) * IntKind.wrap IntKind.u64 (↑(BitVec.toNat (BitVec.ofInt (IntKind.bits IntKind.u64) z837 ||| BitVec.ofInt (IntKind.bits IntKind.u64) z838)) : Int)) ≤ z836 then
      L111_0 n (z836) (IntKind.wrap IntKind.u64 (↑(BitVec.toNat (BitVec.ofInt (IntKind.bits IntKind.u64) z837 ||| BitVec.ofInt (IntKind.bits IntKind.u64) z838)) : Int)) (Int.fdiv z838 2)
     else
      L111_0 n (z836) (z837) (Int.fdiv z838 2)
    else
     some (R111_0.e0 (z837))
theorem L111_0_ok (m : Nat) : ∀ (n : Nat) (z836 : Int) (z837 : Int) (z838 : Int) (r : R111_0), L111_0 n z836 z837 z838 = some r → ∃ st, loopFrom Try.prog X (call Try.prog X O0 100000 (m + 0)) 111 (0) 100000 B111 0 n ({ T := V.int IntKind.u64 z836 :: U :: U :: V.int IntKind.u64 z837 :: V.int IntKind.u64 z838 :: un 16 [], σ := [] }) = some st ∧ r.St st
  | 0, _, _, _, r, h => by cases h
  | n + 1, z836, z837, z838, r, h => by
    rw [L111_0] at h
    rcases ite_eq h with ⟨h0, h⟩ | ⟨h0, h⟩
    · skip
      rcases ite_eq h with ⟨h1, h⟩ | ⟨h1, h⟩
      · skip
        obtain ⟨st, hs, hr⟩ := L111_0_ok m n (z836) (IntKind.wrap IntKind.u64 (↑(BitVec.toNat (BitVec.ofInt (IntKind.bits IntKind.u64) z837 ||| BitVec.ofInt (IntKind.bits IntKind.u64) z838)) : Int)) (Int.fdiv z838 2) r h
        exact ⟨st, (round_on (gs := [.t, .t]) (notIn []) (by kernel_rfl) (And.intro (decide_eq_true h0) (And.intro (decide_eq_true h1) True.intro)) n).trans hs, hr⟩
      · skip
        obtain ⟨st, hs, hr⟩ := L111_0_ok m n (z836) (z837) (Int.fdiv z838 2) r h
        exact ⟨st, (round_on (gs := [.t, .f]) (notIn []) (by kernel_rfl) (And.intro (decide_eq_true h0) (And.intro (decide_eq_false h1) True.intro)) n).trans hs, hr⟩
    · skip
      cases h
      exact ⟨_, round_out (gs := [.f]) (notIn []) (by kernel_rfl) rfl (And.intro (decide_eq_false h0) True.intro) n, z836, z838, decide (z838 > 0), rfl⟩
inductive A111 where
  | a0 (z847 : Int)
@[reducible] def A111.out : A111 → V × Store
  | .a0 z847 => (i64 z847, [])
def F111 (z833 : Int) : Option A111 :=
  (L111_0 100000 (z833) (0) (2147483648)).bind fun r => match r with
  | .e0 z844 =>
   some (A111.a0 (w64 z844))
theorem F111_ok (m : Nat) (z833 : Int) (r : A111) (h : F111 z833 = some r) : call Try.prog X O0 100000 (m + 1) 111 ([V.int IntKind.u64 z833]) ([]) = some r.out := by
  unfold F111 at h
  obtain ⟨r0, h0, h⟩ := Option.bind_eq_some_iff.mp h
  obtain ⟨st0, h0, hr0⟩ := L111_0_ok m 100000 (z833) (0) (2147483648) r0 h0
  have h0 : loopRun Try.prog X (call Try.prog X O0 100000 (m + 0)) 111 (0) 100000 B111 0 ({ T := V.int IntKind.u64 z833 :: U :: i64 0 :: V.int IntKind.u64 0 :: V.int IntKind.u64 2147483648 :: un 16 [], σ := [] }) = some st0 := by
    rw [loopRun_from, show prep (0) (X.keep 111 0) ({ T := V.int IntKind.u64 z833 :: U :: i64 0 :: V.int IntKind.u64 0 :: V.int IntKind.u64 2147483648 :: un 16 [], σ := [] }) = { T := V.int IntKind.u64 z833 :: U :: U :: V.int IntKind.u64 0 :: V.int IntKind.u64 2147483648 :: un 16 [], σ := [] } by kernel_rfl]
    exact h0
  cases r0 with
  | e0 z844 =>
    obtain ⟨z843, z845, b846, rfl⟩ := hr0
    cases h
    exact call_pathL (gs := [.lp (VX.exit 0) (s111_0_0 z843 z844 z845 b846)]) (notIn []) rfl rfl (by kernel_rfl) (And.intro h0 True.intro)
/-! ## 89 -/
inductive A89 where
  | a0 (z850 : Int)
@[reducible] def A89.out : A89 → V × Store
  | .a0 z850 => (i64 z850, [])
def F89 (z828 : Int) (z829 : Int) : Option A89 :=
  bnd (F90 (z828) (-1073741824) (1073741824)) fun z831 =>
  bnd (F90 (z829) (-1073741824) (1073741824)) fun z832 =>
  (F111 (IntKind.wrap IntKind.u64 (w64 (w64 (z831 * z831) + w64 (z832 * z832))))).bind fun r => match r with
  | .a0 z848 =>
   bnd (F57 (z848)) fun z849 =>
   some (A89.a0 (z849))
theorem F89_ok (m : Nat) (z828 : Int) (z829 : Int) (r : A89) (h : F89 z828 z829 = some r) : call Try.prog X O0 100000 (m + 3) 89 ([i64 z828, i64 z829]) ([]) = some r.out := by
  unfold F89 at h
  obtain ⟨z831, h0, h⟩ := bnd_eq h
  obtain ⟨z832, h1, h⟩ := bnd_eq h
  obtain ⟨r2, h2, h⟩ := Option.bind_eq_some_iff.mp h
  have h2 := F111_ok (m + 1) (IntKind.wrap IntKind.u64 (w64 (w64 (z831 * z831) + w64 (z832 * z832)))) r2 h2
  cases r2 with
  | a0 z848 =>
    obtain ⟨z849, h3, h⟩ := bnd_eq h
    cases h
    exact call_pathL (gs := [.an (i64 z831) [], .an (i64 z832) [], .an (i64 z848) [], .an (i64 z849) []]) (notIn []) rfl rfl (by kernel_rfl) (And.intro (F90_ok (m + 1) (z828) (-1073741824) (1073741824) z831 h0) (And.intro (F90_ok (m + 1) (z829) (-1073741824) (1073741824) z832 h1) (And.intro h2 (And.intro (F57_ok (m + 0) (z848) z849 h3) True.intro))))
/-! ## 55 -/
inductive A55v1 where
  | a0 (z852 : Int) (z853 : Int) (z854 : Int) (z855 : Int) (z856 : Int)
@[reducible] def A55v1.out : A55v1 → V × Store
  | .a0 z852 z853 z854 z855 z856 => (V.tup [V.agg [i64 z852, i64 z853], V.agg [i64 z854, i64 z855], i64 z856], [])
def F55v1 (b806 : Bool) (l807 : List (List V)) (z808 : Int) : Option A55v1 :=
  if 0 ≤ z808 then
   ((l807[Int.toNat z808]?).bind W34.dec).bind fun e810 =>
   (F71 (e810.c0) (e810.c1)).bind fun r => match r with
   | .a0 z823 z824 =>
    if (↑(List.length l807) : Int) = 0 then
     none -- none
    else
     if 0 ≤ Int.tmod (w64 (z808 + 1)) (↑(List.length l807) : Int) then
      ((l807[Int.toNat (Int.tmod (w64 (z808 + (1 : Int))) (↑(List.length l807) : Int))]?).bind W34.dec).bind fun e825 =>
      (F71 (e825.c0) (e825.c1)).bind fun r => match r with
      | .a0 z826 z827 =>
       (F89 (w64 (z826 - z823)) (w64 (z827 - z824))).bind fun r => match r with
       | .a0 z851 =>
        some (A55v1.a0 (z823) (z824) (z826) (z827) (z851))
     else
      none -- none
  else
   none -- none
theorem F55v1_ok (m : Nat) (b806 : Bool) (l807 : List (List V)) (z808 : Int) (r : A55v1) (h : F55v1 b806 l807 z808 = some r) : call Try.prog X O0 100000 (m + 4) 55 ([V.agg [vb b806, V.list 2 l807], i64 z808]) ([]) = some r.out := by
  unfold F55v1 at h
  rcases ite_eq h with ⟨h0, h⟩ | ⟨h0, h⟩
  · skip
    obtain ⟨e810, h1, h⟩ := Option.bind_eq_some_iff.mp h
    obtain ⟨r2, h2, h⟩ := Option.bind_eq_some_iff.mp h
    have h2 := F71_ok (m + 0) (e810.c0) (e810.c1) r2 h2
    cases r2 with
    | a0 z823 z824 =>
      rcases ite_eq h with ⟨h3, h⟩ | ⟨h3, h⟩
      · skip
        cases h
      · skip
        rcases ite_eq h with ⟨h4, h⟩ | ⟨h4, h⟩
        · skip
          obtain ⟨e825, h5, h⟩ := Option.bind_eq_some_iff.mp h
          obtain ⟨r6, h6, h⟩ := Option.bind_eq_some_iff.mp h
          have h6 := F71_ok (m + 0) (e825.c0) (e825.c1) r6 h6
          cases r6 with
          | a0 z826 z827 =>
            obtain ⟨r7, h7, h⟩ := Option.bind_eq_some_iff.mp h
            have h7 := F89_ok (m + 0) (w64 (z826 - z823)) (w64 (z827 - z824)) r7 h7
            cases r7 with
            | a0 z851 =>
              cases h
              exact call_pathL (gs := [.a, .t, .el (W34.cells e810), .an (V.agg [i64 z823, i64 z824]) [], .a, .a, .f, .t, .el (W34.cells e825), .an (V.agg [i64 z826, i64 z827]) [], .a, .a, .ft [⟨0, [0], []⟩, ⟨1, [0], []⟩, ⟨2, [], []⟩, ⟨3, [], []⟩, ⟨4, [], []⟩, ⟨5, [], []⟩, ⟨6, [0], []⟩, ⟨7, [0], []⟩, ⟨8, [], []⟩, ⟨9, [], []⟩, ⟨10, [0], []⟩, ⟨11, [0], []⟩, ⟨12, [], []⟩, ⟨13, [], []⟩, ⟨14, [], []⟩, ⟨15, [], []⟩, ⟨16, [], []⟩, ⟨17, [3], [3]⟩, ⟨18, [4], [4]⟩, ⟨19, [3], [3]⟩, ⟨20, [4], [4]⟩], .a, .a, .a, .a, .a, .a, .an (i64 z851) [], .a, .a, .ft [⟨0, [3], []⟩, ⟨1, [4], []⟩, ⟨2, [4], []⟩, ⟨3, [4], []⟩, ⟨4, [3], []⟩, ⟨5, [3], []⟩, ⟨6, [], []⟩, ⟨7, [4], []⟩, ⟨8, [4], []⟩, ⟨9, [3], []⟩, ⟨10, [3], []⟩, ⟨11, [], []⟩, ⟨12, [], []⟩, ⟨13, [1], [1]⟩, ⟨14, [2], [2]⟩, ⟨15, [], []⟩]]) (notIn []) rfl rfl (by kernel_rfl) (And.intro (decide_eq_true h0) (And.intro (W34.dec_ok h1) (And.intro h2 (And.intro (decide_eq_false h3) (And.intro (decide_eq_true h4) (And.intro (W34.dec_ok h5) (And.intro h6 (And.intro (Eq.refl ([⟨0, [0], []⟩, ⟨1, [0], []⟩, ⟨2, [], []⟩, ⟨3, [], []⟩, ⟨4, [], []⟩, ⟨5, [], []⟩, ⟨6, [0], []⟩, ⟨7, [0], []⟩, ⟨8, [], []⟩, ⟨9, [], []⟩, ⟨10, [0], []⟩, ⟨11, [0], []⟩, ⟨12, [], []⟩, ⟨13, [], []⟩, ⟨14, [], []⟩, ⟨15, [], []⟩, ⟨16, [], []⟩, ⟨17, [3], [3]⟩, ⟨18, [4], [4]⟩, ⟨19, [3], [3]⟩, ⟨20, [4], [4]⟩] : List Foot)) (And.intro h7 (And.intro (Eq.refl ([⟨0, [3], []⟩, ⟨1, [4], []⟩, ⟨2, [4], []⟩, ⟨3, [4], []⟩, ⟨4, [3], []⟩, ⟨5, [3], []⟩, ⟨6, [], []⟩, ⟨7, [4], []⟩, ⟨8, [4], []⟩, ⟨9, [3], []⟩, ⟨10, [3], []⟩, ⟨11, [], []⟩, ⟨12, [], []⟩, ⟨13, [1], [1]⟩, ⟨14, [2], [2]⟩, ⟨15, [], []⟩] : List Foot)) True.intro))))))))))
        · skip
          cases h
  · skip
    cases h
/-! ## 56 -/
def F56 (z862 : Int) (z863 : Int) : Int :=
  bnd (F57 (z862)) fun z865 =>
  bnd (F57 (z863)) fun z866 =>
  bnd (F57 (w64 (z865 + z866))) fun z867 =>
  z867
theorem F56_ok (m : Nat) (z862 : Int) (z863 : Int) (z869 : Int) (h : F56 z862 z863 = z869) : call Try.prog X O0 100000 (m + 3) 56 ([i64 z862, i64 z863]) ([]) = some (i64 z869, []) := by
  unfold F56 at h
  obtain ⟨z865, h0, h⟩ := bnd_eq h
  obtain ⟨z866, h1, h⟩ := bnd_eq h
  obtain ⟨z867, h2, h⟩ := bnd_eq h
  subst h
  exact call_pathL (gs := [.an (i64 z865) [], .an (i64 z866) [], .an (i64 z867) []]) (notIn []) rfl rfl (by kernel_rfl) (And.intro (F57_ok (m + 0) (z862) z865 h0) (And.intro (F57_ok (m + 0) (z863) z866 h1) (And.intro (F57_ok (m + 0) (w64 (z865 + z866)) z867 h2) True.intro)))
/-! ## 23 -/
noncomputable abbrev B23v1 : Code := (Try.f23.body).getD .skip
inductive R23v1_0 where
  | e0 (z892 : Int)
@[reducible] def s23v1_0_0 (z892 : Int) (z893 : Int) (z894 : Int) (b895 : Bool) (b896 : Bool) (l897 : List (List V)) : S := { T := U :: V.ptr 0 0 0 :: U :: i64 z892 :: un 5 (i64 z893 :: i64 z894 :: vb b895 :: un 13 []), σ := [Ob.cells true false 2 [[vb b896, V.list 2 l897]]] }
def R23v1_0.St : R23v1_0 → VX × S → Prop
  | .e0 z892, p => ∃ z893 : Int, ∃ z894 : Int, ∃ b895 : Bool, ∃ b896 : Bool, ∃ l897 : List (List V), p = (VX.exit 0, s23v1_0_0 z892 z893 z894 b895 b896 l897)
def L23v1_0 : Nat → Int → Int → Int → Bool → List (List V) → Option R23v1_0
  | 0, _, _, _, _, _ => none
  | n + 1, z871, z872, z873, b874, l875 =>
    if z873 < z872 then
     (F55v1 (b874) (l875) (z873)).bind fun r => match r with
     | .a0 z886 z887 z888 z889 z890 =>
      bnd (F56 (z871) (z890)) fun z891 =>
      L23v1_0 n (z891) (z872) (w64 (z873 + 1)) (b874) (l875)
    else
     some (R23v1_0.e0 (z871))
theorem L23v1_0_ok (m : Nat) : ∀ (n : Nat) (z871 : Int) (z872 : Int) (z873 : Int) (b874 : Bool) (l875 : List (List V)) (r : R23v1_0), L23v1_0 n z871 z872 z873 b874 l875 = some r → ∃ st, loopFrom Try.prog X (call Try.prog X O0 100000 (m + 4)) 23 (0) 100000 B23v1 0 n ({ T := U :: V.ptr 0 0 0 :: U :: i64 z871 :: un 5 (i64 z872 :: i64 z873 :: un 14 []), σ := [Ob.cells true false 2 [[vb b874, V.list 2 l875]]] }) = some st ∧ r.St st
  | 0, _, _, _, _, _, r, h => by cases h
  | n + 1, z871, z872, z873, b874, l875, r, h => by
    rw [L23v1_0] at h
    rcases ite_eq h with ⟨h0, h⟩ | ⟨h0, h⟩
    · skip
      obtain ⟨r1, h1, h⟩ := Option.bind_eq_some_iff.mp h
      have h1 := F55v1_ok (m + 0) (b874) (l875) (z873) r1 h1
      cases r1 with
      | a0 z886 z887 z888 z889 z890 =>
        obtain ⟨z891, h2, h⟩ := bnd_eq h
        obtain ⟨st, hs, hr⟩ := L23v1_0_ok m n (z891) (z872) (w64 (z873 + 1)) (b874) (l875) r h
        exact ⟨st, (round_on (gs := [.t, .a, .an (V.tup [V.agg [i64 z886, i64 z887], V.agg [i64 z888, i64 z889], i64 z890]) [], .a, .a, .an (i64 z891) []]) (notIn []) (by kernel_rfl) (And.intro (decide_eq_true h0) (And.intro h1 (And.intro (F56_ok (m + 1) (z871) (z890) z891 h2) True.intro))) n).trans hs, hr⟩
    · skip
      cases h
      exact ⟨_, round_out (gs := [.f]) (notIn []) (by kernel_rfl) rfl (And.intro (decide_eq_false h0) True.intro) n, z872, z873, decide (z873 < z872), b874, l875, rfl⟩
inductive A23v1 where
  | a0 (z904 : Int)
@[reducible] def A23v1.out : A23v1 → V × Store
  | .a0 z904 => (i64 z904, [])
def F23v1 (b794 : Bool) (l795 : List (List V)) : Option A23v1 :=
  bnd (F26v1 (b794) (l795)) fun z885 =>
  (L23v1_0 100000 (0) (z885) (0) (b794) (l795)).bind fun r => match r with
  | .e0 z898 =>
   some (A23v1.a0 (z898))
theorem F23v1_ok (m : Nat) (b794 : Bool) (l795 : List (List V)) (r : A23v1) (h : F23v1 b794 l795 = some r) : call Try.prog X O0 100000 (m + 5) 23 ([V.agg [vb b794, V.list 2 l795]]) ([]) = some r.out := by
  unfold F23v1 at h
  obtain ⟨z885, h0, h⟩ := bnd_eq h
  obtain ⟨r1, h1, h⟩ := Option.bind_eq_some_iff.mp h
  obtain ⟨st1, h1, hr1⟩ := L23v1_0_ok m 100000 (0) (z885) (0) (b794) (l795) r1 h1
  have h1 : loopRun Try.prog X (call Try.prog X O0 100000 (m + 4)) 23 (0) 100000 B23v1 0 ({ T := V.agg [vb b794, V.list 2 l795] :: V.ptr 0 0 0 :: i64 0 :: i64 0 :: un 4 (V.agg [vb b794, V.list 2 l795] :: i64 z885 :: i64 0 :: un 14 []), σ := [Ob.cells true false 2 [[vb b794, V.list 2 l795]]] }) = some st1 := by
    rw [loopRun_from, show prep (0) (X.keep 23 0) ({ T := V.agg [vb b794, V.list 2 l795] :: V.ptr 0 0 0 :: i64 0 :: i64 0 :: un 4 (V.agg [vb b794, V.list 2 l795] :: i64 z885 :: i64 0 :: un 14 []), σ := [Ob.cells true false 2 [[vb b794, V.list 2 l795]]] }) = { T := U :: V.ptr 0 0 0 :: U :: i64 0 :: un 5 (i64 z885 :: i64 0 :: un 14 []), σ := [Ob.cells true false 2 [[vb b794, V.list 2 l795]]] } by kernel_rfl]
    exact h1
  cases r1 with
  | e0 z898 =>
    obtain ⟨z899, z900, b901, b902, l903, rfl⟩ := hr1
    cases h
    exact call_pathL (gs := [.a, .an (i64 z885) [], .lp (VX.exit 0) (s23v1_0_0 z898 z899 z900 b901 b902 l903)]) (notIn []) rfl rfl (by kernel_rfl) (And.intro (F26v1_ok (m + 3) (b794) (l795) z885 h0) (And.intro h1 True.intro))
/-! ## 58 -/
def F58v1 (b911 : Bool) (l912 : List (List V)) : Int :=
  if (↑(List.length l912) : Int) < 2 then
   0
  else
   if (b911) = true then
    (↑(List.length l912) : Int)
   else
    w64 ((↑(List.length l912) : Int) - 1)
theorem F58v1_ok (m : Nat) (b911 : Bool) (l912 : List (List V)) (z915 : Int) (h : F58v1 b911 l912 = z915) : call Try.prog X O0 100000 (m + 1) 58 ([V.agg [vb b911, V.list 2 l912]]) ([]) = some (i64 z915, []) := by
  unfold F58v1 at h
  rcases ite_eq h with ⟨h0, h⟩ | ⟨h0, h⟩
  · skip
    subst h
    exact call_pathL (gs := [.a, .t]) (notIn []) rfl rfl (by kernel_rfl) (And.intro (decide_eq_true h0) True.intro)
  · skip
    rcases ite_eq h with ⟨h1, h⟩ | ⟨h1, h⟩
    · skip
      subst h
      exact call_pathL (gs := [.a, .f, .a, .t]) (notIn []) rfl rfl (by kernel_rfl) (And.intro (decide_eq_false h0) (And.intro h1 True.intro))
    · skip
      subst h
      exact call_pathL (gs := [.a, .f, .a, .f]) (notIn []) rfl rfl (by kernel_rfl) (And.intro (decide_eq_false h0) (And.intro (Bool.eq_false_iff.mpr h1) True.intro))
/-! ## 100 -/
def F100 (z925 : Int) : Int :=
  bnd (F101 (z925) (-536870912) (536870912)) fun z927 =>
  z927
theorem F100_ok (m : Nat) (z925 : Int) (z929 : Int) (h : F100 z925 = z929) : call Try.prog X O0 100000 (m + 2) 100 ([i64 z925]) ([]) = some (i64 z929, []) := by
  unfold F100 at h
  obtain ⟨z927, h0, h⟩ := bnd_eq h
  subst h
  exact call_pathL (gs := [.an (i64 z927) []]) (notIn []) rfl rfl (by kernel_rfl) (And.intro (F101_ok (m + 0) (z925) (-536870912) (536870912) z927 h0) True.intro)
/-! ## 73 -/
inductive A73 where
  | a0 (z932 : Int) (z933 : Int)
@[reducible] def A73.out : A73 → V × Store
  | .a0 z932 z933 => (V.agg [i64 z932, i64 z933], [])
def F73 (z922 : Int) (z923 : Int) : Option A73 :=
  bnd (F100 (z922)) fun z930 =>
  bnd (F100 (z923)) fun z931 =>
  some (A73.a0 (z930) (z931))
theorem F73_ok (m : Nat) (z922 : Int) (z923 : Int) (r : A73) (h : F73 z922 z923 = some r) : call Try.prog X O0 100000 (m + 3) 73 ([V.agg [i64 z922, i64 z923]]) ([]) = some r.out := by
  unfold F73 at h
  obtain ⟨z930, h0, h⟩ := bnd_eq h
  obtain ⟨z931, h1, h⟩ := bnd_eq h
  cases h
  exact call_pathL (gs := [.a, .an (i64 z930) [], .a, .an (i64 z931) [], .a, .ft [⟨0, [0], []⟩, ⟨1, [0], []⟩, ⟨2, [], []⟩, ⟨3, [0], []⟩, ⟨4, [0], []⟩, ⟨5, [], []⟩, ⟨6, [], []⟩, ⟨7, [1], [1]⟩]]) (notIn []) rfl rfl (by kernel_rfl) (And.intro (F100_ok (m + 0) (z922) z930 h0) (And.intro (F100_ok (m + 0) (z923) z931 h1) (And.intro (Eq.refl ([⟨0, [0], []⟩, ⟨1, [0], []⟩, ⟨2, [], []⟩, ⟨3, [0], []⟩, ⟨4, [0], []⟩, ⟨5, [], []⟩, ⟨6, [], []⟩, ⟨7, [1], [1]⟩] : List Foot)) True.intro)))
/-! ## 59 -/
inductive A59v1 where
  | a0 (z939 : Int) (z940 : Int) (z941 : Int) (z942 : Int)
@[reducible] def A59v1.out : A59v1 → V × Store
  | .a0 z939 z940 z941 z942 => (V.tup [V.agg [i64 z939, i64 z940], V.agg [i64 z941, i64 z942]], [])
def F59v1 (b917 : Bool) (l918 : List (List V)) (z919 : Int) : Option A59v1 :=
  if 0 ≤ z919 then
   ((l918[Int.toNat z919]?).bind W34.dec).bind fun e921 =>
   (F73 (e921.c0) (e921.c1)).bind fun r => match r with
   | .a0 z934 z935 =>
    if (↑(List.length l918) : Int) = 0 then
     none -- none
    else
     if 0 ≤ Int.tmod (w64 (z919 + 1)) (↑(List.length l918) : Int) then
      ((l918[Int.toNat (Int.tmod (w64 (z919 + (1 : Int))) (↑(List.length l918) : Int))]?).bind W34.dec).bind fun e936 =>
      (F73 (e936.c0) (e936.c1)).bind fun r => match r with
      | .a0 z937 z938 =>
       some (A59v1.a0 (z934) (z935) (z937) (z938))
     else
      none -- none
  else
   none -- none
theorem F59v1_ok (m : Nat) (b917 : Bool) (l918 : List (List V)) (z919 : Int) (r : A59v1) (h : F59v1 b917 l918 z919 = some r) : call Try.prog X O0 100000 (m + 4) 59 ([V.agg [vb b917, V.list 2 l918], i64 z919]) ([]) = some r.out := by
  unfold F59v1 at h
  rcases ite_eq h with ⟨h0, h⟩ | ⟨h0, h⟩
  · skip
    obtain ⟨e921, h1, h⟩ := Option.bind_eq_some_iff.mp h
    obtain ⟨r2, h2, h⟩ := Option.bind_eq_some_iff.mp h
    have h2 := F73_ok (m + 0) (e921.c0) (e921.c1) r2 h2
    cases r2 with
    | a0 z934 z935 =>
      rcases ite_eq h with ⟨h3, h⟩ | ⟨h3, h⟩
      · skip
        cases h
      · skip
        rcases ite_eq h with ⟨h4, h⟩ | ⟨h4, h⟩
        · skip
          obtain ⟨e936, h5, h⟩ := Option.bind_eq_some_iff.mp h
          obtain ⟨r6, h6, h⟩ := Option.bind_eq_some_iff.mp h
          have h6 := F73_ok (m + 0) (e936.c0) (e936.c1) r6 h6
          cases r6 with
          | a0 z937 z938 =>
            cases h
            exact call_pathL (gs := [.a, .t, .el (W34.cells e921), .an (V.agg [i64 z934, i64 z935]) [], .a, .a, .f, .t, .el (W34.cells e936), .an (V.agg [i64 z937, i64 z938]) [], .a, .a, .ft [⟨0, [0], []⟩, ⟨1, [0], []⟩, ⟨2, [], []⟩, ⟨3, [], []⟩, ⟨4, [], []⟩, ⟨5, [], []⟩, ⟨6, [0], []⟩, ⟨7, [0], []⟩, ⟨8, [], []⟩, ⟨9, [], []⟩, ⟨10, [0], []⟩, ⟨11, [0], []⟩, ⟨12, [], []⟩, ⟨13, [], []⟩, ⟨14, [], []⟩, ⟨15, [], []⟩, ⟨16, [], []⟩, ⟨17, [1], [1]⟩, ⟨18, [2], [2]⟩]]) (notIn []) rfl rfl (by kernel_rfl) (And.intro (decide_eq_true h0) (And.intro (W34.dec_ok h1) (And.intro h2 (And.intro (decide_eq_false h3) (And.intro (decide_eq_true h4) (And.intro (W34.dec_ok h5) (And.intro h6 (And.intro (Eq.refl ([⟨0, [0], []⟩, ⟨1, [0], []⟩, ⟨2, [], []⟩, ⟨3, [], []⟩, ⟨4, [], []⟩, ⟨5, [], []⟩, ⟨6, [0], []⟩, ⟨7, [0], []⟩, ⟨8, [], []⟩, ⟨9, [], []⟩, ⟨10, [0], []⟩, ⟨11, [0], []⟩, ⟨12, [], []⟩, ⟨13, [], []⟩, ⟨14, [], []⟩, ⟨15, [], []⟩, ⟨16, [], []⟩, ⟨17, [1], [1]⟩, ⟨18, [2], [2]⟩] : List Foot)) True.intro))))))))
        · skip
          cases h
  · skip
    cases h
/-! ## 112 -/
noncomputable abbrev B112 : Code := (Try.f112.body).getD .skip
inductive R112_0 where
  | e0 (z964 : Int)
@[reducible] def s112_0_0 (z963 : Int) (z964 : Int) (z965 : Int) (b966 : Bool) : S := { T := V.int IntKind.u64 z963 :: U :: U :: V.int IntKind.u64 z964 :: V.int IntKind.u64 z965 :: V.int IntKind.u64 z965 :: vb b966 :: un 15 [], σ := [] }
def R112_0.St : R112_0 → VX × S → Prop
  | .e0 z964, p => ∃ z963 : Int, ∃ z965 : Int, ∃ b966 : Bool, p = (VX.exit 0, s112_0_0 z963 z964 z965 b966)
def L112_0 : Nat → Int → Int → Int → Option R112_0
  | 0, _, _, _ => none
  | n + 1, z960, z961, z962 =>
    if z962 > 0 then
     if IntKind.wrap IntKind.u64 (IntKind.wrap IntKind.u64 (z961 + z962) * IntKind.wrap IntKind.u64 (z961 + z962)) ≤ z960 then
      L112_0 n (z960) (IntKind.wrap IntKind.u64 (z961 + z962)) (IntKind.wrap IntKind.u64 (Int.tdiv z962 2))
     else
      L112_0 n (z960) (z961) (IntKind.wrap IntKind.u64 (Int.tdiv z962 2))
    else
     some (R112_0.e0 (z961))
theorem L112_0_ok (m : Nat) : ∀ (n : Nat) (z960 : Int) (z961 : Int) (z962 : Int) (r : R112_0), L112_0 n z960 z961 z962 = some r → ∃ st, loopFrom Try.prog X (call Try.prog X O0 100000 (m + 0)) 112 (0) 100000 B112 0 n ({ T := V.int IntKind.u64 z960 :: U :: U :: V.int IntKind.u64 z961 :: V.int IntKind.u64 z962 :: un 17 [], σ := [] }) = some st ∧ r.St st
  | 0, _, _, _, r, h => by cases h
  | n + 1, z960, z961, z962, r, h => by
    rw [L112_0] at h
    rcases ite_eq h with ⟨h0, h⟩ | ⟨h0, h⟩
    · skip
      rcases ite_eq h with ⟨h1, h⟩ | ⟨h1, h⟩
      · skip
        obtain ⟨st, hs, hr⟩ := L112_0_ok m n (z960) (IntKind.wrap IntKind.u64 (z961 + z962)) (IntKind.wrap IntKind.u64 (Int.tdiv z962 2)) r h
        exact ⟨st, (round_on (gs := [.t, .t, .a]) (notIn []) (by kernel_rfl) (And.intro (decide_eq_true h0) (And.intro (decide_eq_true h1) True.intro)) n).trans hs, hr⟩
      · skip
        obtain ⟨st, hs, hr⟩ := L112_0_ok m n (z960) (z961) (IntKind.wrap IntKind.u64 (Int.tdiv z962 2)) r h
        exact ⟨st, (round_on (gs := [.t, .f, .a]) (notIn []) (by kernel_rfl) (And.intro (decide_eq_true h0) (And.intro (decide_eq_false h1) True.intro)) n).trans hs, hr⟩
    · skip
      cases h
      exact ⟨_, round_out (gs := [.f]) (notIn []) (by kernel_rfl) rfl (And.intro (decide_eq_false h0) True.intro) n, z960, z962, decide (z962 > 0), rfl⟩
inductive A112 where
  | a0 (z971 : Int)
@[reducible] def A112.out : A112 → V × Store
  | .a0 z971 => (V.int IntKind.u64 z971, [])
def F112 (z957 : Int) : Option A112 :=
  (L112_0 100000 (z957) (0) (2147483648)).bind fun r => match r with
  | .e0 z968 =>
   some (A112.a0 (z968))
theorem F112_ok (m : Nat) (z957 : Int) (r : A112) (h : F112 z957 = some r) : call Try.prog X O0 100000 (m + 1) 112 ([V.int IntKind.u64 z957]) ([]) = some r.out := by
  unfold F112 at h
  obtain ⟨r0, h0, h⟩ := Option.bind_eq_some_iff.mp h
  obtain ⟨st0, h0, hr0⟩ := L112_0_ok m 100000 (z957) (0) (2147483648) r0 h0
  have h0 : loopRun Try.prog X (call Try.prog X O0 100000 (m + 0)) 112 (0) 100000 B112 0 ({ T := V.int IntKind.u64 z957 :: U :: V.int IntKind.u64 0 :: V.int IntKind.u64 0 :: V.int IntKind.u64 2147483648 :: un 17 [], σ := [] }) = some st0 := by
    rw [loopRun_from, show prep (0) (X.keep 112 0) ({ T := V.int IntKind.u64 z957 :: U :: V.int IntKind.u64 0 :: V.int IntKind.u64 0 :: V.int IntKind.u64 2147483648 :: un 17 [], σ := [] }) = { T := V.int IntKind.u64 z957 :: U :: U :: V.int IntKind.u64 0 :: V.int IntKind.u64 2147483648 :: un 17 [], σ := [] } by kernel_rfl]
    exact h0
  cases r0 with
  | e0 z968 =>
    obtain ⟨z967, z969, b970, rfl⟩ := hr0
    cases h
    exact call_pathL (gs := [.lp (VX.exit 0) (s112_0_0 z967 z968 z969 b970)]) (notIn []) rfl rfl (by kernel_rfl) (And.intro h0 True.intro)
/-! ## 91 -/
inductive A91 where
  | a0 (z973 : Int)
@[reducible] def A91.out : A91 → V × Store
  | .a0 z973 => (i64 z973, [])
def F91 (z952 : Int) (z953 : Int) : Option A91 :=
  bnd (F101 (z952) (-1073741824) (1073741824)) fun z955 =>
  bnd (F101 (z953) (-1073741824) (1073741824)) fun z956 =>
  (F112 (IntKind.wrap IntKind.u64 (IntKind.wrap IntKind.u64 (w64 (z955 * z955)) + IntKind.wrap IntKind.u64 (w64 (z956 * z956))))).bind fun r => match r with
  | .a0 z972 =>
   some (A91.a0 (w64 z972))
theorem F91_ok (m : Nat) (z952 : Int) (z953 : Int) (r : A91) (h : F91 z952 z953 = some r) : call Try.prog X O0 100000 (m + 2) 91 ([i64 z952, i64 z953]) ([]) = some r.out := by
  unfold F91 at h
  obtain ⟨z955, h0, h⟩ := bnd_eq h
  obtain ⟨z956, h1, h⟩ := bnd_eq h
  obtain ⟨r2, h2, h⟩ := Option.bind_eq_some_iff.mp h
  have h2 := F112_ok (m + 0) (IntKind.wrap IntKind.u64 (IntKind.wrap IntKind.u64 (w64 (z955 * z955)) + IntKind.wrap IntKind.u64 (w64 (z956 * z956)))) r2 h2
  cases r2 with
  | a0 z972 =>
    cases h
    exact call_pathL (gs := [.an (i64 z955) [], .an (i64 z956) [], .an (V.int IntKind.u64 z972) []]) (notIn []) rfl rfl (by kernel_rfl) (And.intro (F101_ok (m + 0) (z952) (-1073741824) (1073741824) z955 h0) (And.intro (F101_ok (m + 0) (z953) (-1073741824) (1073741824) z956 h1) (And.intro h2 True.intro)))
/-! ## 61 -/
inductive A61 where
  | a0 (z975 : Int)
@[reducible] def A61.out : A61 → V × Store
  | .a0 z975 => (i64 z975, [])
def F61 (z947 : Int) (z948 : Int) (z949 : Int) (z950 : Int) : Option A61 :=
  (F91 (w64 (z949 - z947)) (w64 (z950 - z948))).bind fun r => match r with
  | .a0 z974 =>
   some (A61.a0 (z974))
theorem F61_ok (m : Nat) (z947 : Int) (z948 : Int) (z949 : Int) (z950 : Int) (r : A61) (h : F61 z947 z948 z949 z950 = some r) : call Try.prog X O0 100000 (m + 3) 61 ([V.agg [i64 z947, i64 z948], V.agg [i64 z949, i64 z950]]) ([]) = some r.out := by
  unfold F61 at h
  obtain ⟨r0, h0, h⟩ := Option.bind_eq_some_iff.mp h
  have h0 := F91_ok (m + 0) (w64 (z949 - z947)) (w64 (z950 - z948)) r0 h0
  cases r0 with
  | a0 z974 =>
    cases h
    exact call_pathL (gs := [.a, .a, .a, .a, .an (i64 z974) []]) (notIn []) rfl rfl (by kernel_rfl) (And.intro h0 True.intro)
/-! ## 60 -/
def F60 (z977 : Int) (z978 : Int) : Int :=
  bnd (F74 (z977)) fun z980 =>
  bnd (F74 (z978)) fun z981 =>
  bnd (F74 (w64 (z980 + z981))) fun z982 =>
  z982
theorem F60_ok (m : Nat) (z977 : Int) (z978 : Int) (z984 : Int) (h : F60 z977 z978 = z984) : call Try.prog X O0 100000 (m + 3) 60 ([i64 z977, i64 z978]) ([]) = some (i64 z984, []) := by
  unfold F60 at h
  obtain ⟨z980, h0, h⟩ := bnd_eq h
  obtain ⟨z981, h1, h⟩ := bnd_eq h
  obtain ⟨z982, h2, h⟩ := bnd_eq h
  subst h
  exact call_pathL (gs := [.an (i64 z980) [], .an (i64 z981) [], .an (i64 z982) []]) (notIn []) rfl rfl (by kernel_rfl) (And.intro (F74_ok (m + 0) (z977) z980 h0) (And.intro (F74_ok (m + 0) (z978) z981 h1) (And.intro (F74_ok (m + 0) (w64 (z980 + z981)) z982 h2) True.intro)))
/-! ## 29 -/
noncomputable abbrev B29v1 : Code := (Try.f29.body).getD .skip
inductive R29v1_0 where
  | e0 (z1006 : Int)
@[reducible] def s29v1_0_0 (z1006 : Int) (z1007 : Int) (b1008 : Bool) (l1009 : List (List V)) (z1010 : Int) (b1011 : Bool) : S := { T := U :: V.ptr 0 0 0 :: U :: i64 z1006 :: i64 z1007 :: U :: U :: i64 z1007 :: V.agg [vb b1008, V.list 2 l1009] :: i64 z1010 :: vb b1011 :: un 14 [], σ := [Ob.cells true false 2 [[vb b1008, V.list 2 l1009]]] }
def R29v1_0.St : R29v1_0 → VX × S → Prop
  | .e0 z1006, p => ∃ z1007 : Int, ∃ b1008 : Bool, ∃ l1009 : List (List V), ∃ z1010 : Int, ∃ b1011 : Bool, p = (VX.exit 0, s29v1_0_0 z1006 z1007 b1008 l1009 z1010 b1011)
def L29v1_0 : Nat → Int → Int → Bool → List (List V) → Option R29v1_0
  | 0, _, _, _, _ => none
  | n + 1, z986, z987, b988, l989 =>
    bnd (F58v1 (b988) (l989)) fun z999 =>
    if z987 < z999 then
     (F59v1 (b988) (l989) (z987)).bind fun r => match r with
     | .a0 z1000 z1001 z1002 z1003 =>
      (F61 (z1000) (z1001) (z1002) (z1003)).bind fun r => match r with
      | .a0 z1004 =>
       bnd (F60 (z986) (z1004)) fun z1005 =>
       L29v1_0 n (z1005) (w64 (z987 + 1)) (b988) (l989)
    else
     some (R29v1_0.e0 (z986))
theorem L29v1_0_ok (m : Nat) : ∀ (n : Nat) (z986 : Int) (z987 : Int) (b988 : Bool) (l989 : List (List V)) (r : R29v1_0), L29v1_0 n z986 z987 b988 l989 = some r → ∃ st, loopFrom Try.prog X (call Try.prog X O0 100000 (m + 4)) 29 (0) 100000 B29v1 0 n ({ T := U :: V.ptr 0 0 0 :: U :: i64 z986 :: i64 z987 :: un 20 [], σ := [Ob.cells true false 2 [[vb b988, V.list 2 l989]]] }) = some st ∧ r.St st
  | 0, _, _, _, _, r, h => by cases h
  | n + 1, z986, z987, b988, l989, r, h => by
    rw [L29v1_0] at h
    obtain ⟨z999, h0, h⟩ := bnd_eq h
    rcases ite_eq h with ⟨h1, h⟩ | ⟨h1, h⟩
    · skip
      obtain ⟨r2, h2, h⟩ := Option.bind_eq_some_iff.mp h
      have h2 := F59v1_ok (m + 0) (b988) (l989) (z987) r2 h2
      cases r2 with
      | a0 z1000 z1001 z1002 z1003 =>
        obtain ⟨r3, h3, h⟩ := Option.bind_eq_some_iff.mp h
        have h3 := F61_ok (m + 1) (z1000) (z1001) (z1002) (z1003) r3 h3
        cases r3 with
        | a0 z1004 =>
          obtain ⟨z1005, h4, h⟩ := bnd_eq h
          obtain ⟨st, hs, hr⟩ := L29v1_0_ok m n (z1005) (w64 (z987 + 1)) (b988) (l989) r h
          exact ⟨st, (round_on (gs := [.a, .an (i64 z999) [], .t, .a, .an (V.tup [V.agg [i64 z1000, i64 z1001], V.agg [i64 z1002, i64 z1003]]) [], .a, .a, .a, .a, .an (i64 z1004) [], .an (i64 z1005) []]) (notIn []) (by kernel_rfl) (And.intro (F58v1_ok (m + 3) (b988) (l989) z999 h0) (And.intro (decide_eq_true h1) (And.intro h2 (And.intro h3 (And.intro (F60_ok (m + 1) (z986) (z1004) z1005 h4) True.intro))))) n).trans hs, hr⟩
    · skip
      cases h
      exact ⟨_, round_out (gs := [.a, .an (i64 z999) [], .f]) (notIn []) (by kernel_rfl) rfl (And.intro (F58v1_ok (m + 3) (b988) (l989) z999 h0) (And.intro (decide_eq_false h1) True.intro)) n, z987, b988, l989, z999, decide (z987 < z999), rfl⟩
inductive A29v1 where
  | a0 (z1018 : Int)
@[reducible] def A29v1.out : A29v1 → V × Store
  | .a0 z1018 => (i64 z1018, [])
def F29v1 (b906 : Bool) (l907 : List (List V)) : Option A29v1 :=
  (L29v1_0 100000 (0) (0) (b906) (l907)).bind fun r => match r with
  | .e0 z1012 =>
   some (A29v1.a0 (z1012))
theorem F29v1_ok (m : Nat) (b906 : Bool) (l907 : List (List V)) (r : A29v1) (h : F29v1 b906 l907 = some r) : call Try.prog X O0 100000 (m + 5) 29 ([V.agg [vb b906, V.list 2 l907]]) ([]) = some r.out := by
  unfold F29v1 at h
  obtain ⟨r0, h0, h⟩ := Option.bind_eq_some_iff.mp h
  obtain ⟨st0, h0, hr0⟩ := L29v1_0_ok m 100000 (0) (0) (b906) (l907) r0 h0
  have h0 : loopRun Try.prog X (call Try.prog X O0 100000 (m + 4)) 29 (0) 100000 B29v1 0 ({ T := V.agg [vb b906, V.list 2 l907] :: V.ptr 0 0 0 :: i64 0 :: i64 0 :: i64 0 :: un 20 [], σ := [Ob.cells true false 2 [[vb b906, V.list 2 l907]]] }) = some st0 := by
    rw [loopRun_from, show prep (0) (X.keep 29 0) ({ T := V.agg [vb b906, V.list 2 l907] :: V.ptr 0 0 0 :: i64 0 :: i64 0 :: i64 0 :: un 20 [], σ := [Ob.cells true false 2 [[vb b906, V.list 2 l907]]] }) = { T := U :: V.ptr 0 0 0 :: U :: i64 0 :: i64 0 :: un 20 [], σ := [Ob.cells true false 2 [[vb b906, V.list 2 l907]]] } by kernel_rfl]
    exact h0
  cases r0 with
  | e0 z1012 =>
    obtain ⟨z1013, b1014, l1015, z1016, b1017, rfl⟩ := hr0
    cases h
    exact call_pathL (gs := [.lp (VX.exit 0) (s29v1_0_0 z1012 z1013 b1014 l1015 z1016 b1017)]) (notIn []) rfl rfl (by kernel_rfl) (And.intro h0 True.intro)
/-! ## 72 -/
inductive A72 where
  | a0 (z1060 : Int)
@[reducible] def A72.out : A72 → V × Store
  | .a0 z1060 => (i64 z1060, [])
def F72 (z1055 : Int) (z1056 : Int) : Option A72 :=
  bnd (F57 (z1055)) fun z1058 =>
  bnd (F57 (z1056)) fun z1059 =>
  if (z1059 == 0) = true then
   some (A72.a0 (0))
  else
   if z1059 = 0 then
    none -- none
   else
    if (Int.tmod (w64 (z1058 * 65536)) z1059 != 0) = true then
     if (!decide (w64 (z1058 * 65536) < 0) == decide (z1059 < 0)) = true then
      bnd (F57 (w64 (w64 (Int.tdiv (w64 (z1058 * 65536)) z1059) - 1))) fun z1061 =>
      some (A72.a0 (z1061))
     else
      bnd (F57 (w64 (Int.tdiv (w64 (z1058 * 65536)) z1059))) fun z1062 =>
      some (A72.a0 (z1062))
    else
     bnd (F57 (w64 (Int.tdiv (w64 (z1058 * 65536)) z1059))) fun z1063 =>
     some (A72.a0 (z1063))
theorem F72_ok (m : Nat) (z1055 : Int) (z1056 : Int) (r : A72) (h : F72 z1055 z1056 = some r) : call Try.prog X O0 100000 (m + 3) 72 ([i64 z1055, i64 z1056]) ([]) = some r.out := by
  unfold F72 at h
  obtain ⟨z1058, h0, h⟩ := bnd_eq h
  obtain ⟨z1059, h1, h⟩ := bnd_eq h
  rcases ite_eq h with ⟨h2, h⟩ | ⟨h2, h⟩
  · skip
    cases h
    exact call_pathL (gs := [.an (i64 z1058) [], .an (i64 z1059) [], .t]) (notIn []) rfl rfl (by kernel_rfl) (And.intro (F57_ok (m + 0) (z1055) z1058 h0) (And.intro (F57_ok (m + 0) (z1056) z1059 h1) (And.intro h2 True.intro)))
  · skip
    rcases ite_eq h with ⟨h3, h⟩ | ⟨h3, h⟩
    · skip
      cases h
    · skip
      rcases ite_eq h with ⟨h4, h⟩ | ⟨h4, h⟩
      · skip
        rcases ite_eq h with ⟨h5, h⟩ | ⟨h5, h⟩
        · skip
          obtain ⟨z1061, h6, h⟩ := bnd_eq h
          cases h
          exact call_pathL (gs := [.an (i64 z1058) [], .an (i64 z1059) [], .f, .f, .f, .t, .t, .t, .t, .t, .t, .t, .an (i64 z1061) []]) (notIn []) rfl rfl (by kernel_rfl) (And.intro (F57_ok (m + 0) (z1055) z1058 h0) (And.intro (F57_ok (m + 0) (z1056) z1059 h1) (And.intro (Bool.eq_false_iff.mpr h2) (And.intro (decide_eq_false h3) (And.intro (decide_eq_false h3) (And.intro h4 (And.intro h4 (And.intro h4 (And.intro h4 (And.intro h4 (And.intro h4 (And.intro h5 (And.intro (F57_ok (m + 0) (w64 (w64 (Int.tdiv (w64 (z1058 * 65536)) z1059) - 1)) z1061 h6) True.intro)))))))))))))
        · skip
          obtain ⟨z1062, h6, h⟩ := bnd_eq h
          cases h
          exact call_pathL (gs := [.an (i64 z1058) [], .an (i64 z1059) [], .f, .f, .f, .t, .t, .t, .t, .t, .t, .f, .an (i64 z1062) []]) (notIn []) rfl rfl (by kernel_rfl) (And.intro (F57_ok (m + 0) (z1055) z1058 h0) (And.intro (F57_ok (m + 0) (z1056) z1059 h1) (And.intro (Bool.eq_false_iff.mpr h2) (And.intro (decide_eq_false h3) (And.intro (decide_eq_false h3) (And.intro h4 (And.intro h4 (And.intro h4 (And.intro h4 (And.intro h4 (And.intro h4 (And.intro (Bool.eq_false_iff.mpr h5) (And.intro (F57_ok (m + 0) (w64 (Int.tdiv (w64 (z1058 * 65536)) z1059)) z1062 h6) True.intro)))))))))))))
      · skip
        obtain ⟨z1063, h5, h⟩ := bnd_eq h
        cases h
        exact call_pathL (gs := [.an (i64 z1058) [], .an (i64 z1059) [], .f, .f, .f, .f, .f, .f, .f, .f, .f, .a, .an (i64 z1063) []]) (notIn []) rfl rfl (by kernel_rfl) (And.intro (F57_ok (m + 0) (z1055) z1058 h0) (And.intro (F57_ok (m + 0) (z1056) z1059 h1) (And.intro (Bool.eq_false_iff.mpr h2) (And.intro (decide_eq_false h3) (And.intro (decide_eq_false h3) (And.intro (Bool.eq_false_iff.mpr h4) (And.intro (Bool.eq_false_iff.mpr h4) (And.intro (Bool.eq_false_iff.mpr h4) (And.intro (Bool.eq_false_iff.mpr h4) (And.intro (Bool.eq_false_iff.mpr h4) (And.intro (Bool.eq_false_iff.mpr h4) (And.intro (F57_ok (m + 0) (w64 (Int.tdiv (w64 (z1058 * 65536)) z1059)) z1063 h5) True.intro))))))))))))
/-! ## 96 -/
inductive A96 where
  | a0 (z1082 : Int) (z1083 : Int)
@[reducible] def A96.out : A96 → V × Store
  | .a0 z1082 z1083 => (V.tup [V.int IntKind.u64 z1082, V.int IntKind.u64 z1083], [])
def F96 (z1079 : Int) (z1080 : Int) : Option A96 :=
  some (A96.a0 (IntKind.wrap IntKind.u64 (IntKind.wrap IntKind.u64 (IntKind.wrap IntKind.u64 (Int.fdiv z1079 4294967296 * Int.fdiv z1080 4294967296) + Int.fdiv (IntKind.wrap IntKind.u64 (IntKind.wrap IntKind.u64 (Int.fdiv z1079 4294967296 * IntKind.wrap IntKind.u64 (↑(BitVec.toNat (BitVec.ofInt (IntKind.bits IntKind.u64) z1080 &&& BitVec.ofInt (IntKind.bits IntKind.u64) 4294967295)) : Int)) + Int.fdiv (IntKind.wrap IntKind.u64 (IntKind.wrap IntKind.u64 (↑(BitVec.toNat (BitVec.ofInt (IntKind.bits IntKind.u64) z1079 &&& BitVec.ofInt (IntKind.bits IntKind.u64) 4294967295)) : Int) * IntKind.wrap IntKind.u64 (↑(BitVec.toNat (BitVec.ofInt (IntKind.bits IntKind.u64) z1080 &&& BitVec.ofInt (IntKind.bits IntKind.u64) 4294967295)) : Int))) 4294967296)) 4294967296) + Int.fdiv (IntKind.wrap IntKind.u64 (IntKind.wrap IntKind.u64 (↑(BitVec.toNat (BitVec.ofInt (IntKind.bits IntKind.u64) (IntKind.wrap IntKind.u64 (IntKind.wrap IntKind.u64 (Int.fdiv z1079 4294967296 * IntKind.wrap IntKind.u64 (↑(BitVec.toNat (BitVec.ofInt (IntKind.bits IntKind.u64) z1080 &&& BitVec.ofInt (IntKind.bits IntKind.u64) 4294967295)) : Int)) + Int.fdiv (IntKind.wrap IntKind.u64 (IntKind.wrap IntKind.u64 (↑(BitVec.toNat (BitVec.ofInt (IntKind.bits IntKind.u64) z1079 &&& BitVec.ofInt (IntKind.bits IntKind.u64) 4294967295)) : Int) * IntKind.wrap IntKind.u64 (↑(BitVec.toNat (BitVec.ofInt (IntKind.bits IntKind.u64) z1080 &&& BitVec.ofInt (IntKind.bits IntKind.u64) 4294967295)) : Int))) 4294967296)) &&& BitVec.ofInt (IntKind.bits IntKind.u64) 4294967295)) : Int) + IntKind.wrap IntKind.u64 (IntKind.wrap IntKind.u64 (↑(BitVec.toNat (BitVec.ofInt (IntKind.bits IntKind.u64) z1079 &&& BitVec.ofInt (IntKind.bits IntKind.u64) 4294967295)) : Int) * Int.fdiv z1080 4294967296))) 4294967296)) (IntKind.wrap IntKind.u64 (z1079 * z1080)))
theorem F96_ok (m : Nat) (z1079 : Int) (z1080 : Int) (r : A96) (h : F96 z1079 z1080 = some r) : call Try.prog X O0 100000 (m + 1) 96 ([V.int IntKind.u64 z1079, V.int IntKind.u64 z1080]) ([]) = some r.out := by
  unfold F96 at h
  cases h
  exact call_pathL (gs := []) (notIn []) rfl rfl (by kernel_rfl) True.intro
/-! ## 93 -/
inductive A93 where
  | a0 (z1086 : Int) (z1087 : Int)
@[reducible] def A93.out : A93 → V × Store
  | .a0 z1086 z1087 => (V.tup [V.int IntKind.u64 z1086, V.int IntKind.u64 z1087], [])
def F93 (z1076 : Int) (z1077 : Int) : Option A93 :=
  (F96 (IntKind.wrap IntKind.u64 z1076) (IntKind.wrap IntKind.u64 z1077)).bind fun r => match r with
  | .a0 z1084 z1085 =>
   if z1076 < 0 then
    if z1077 < 0 then
     some (A93.a0 (IntKind.wrap IntKind.u64 (IntKind.wrap IntKind.u64 (z1084 - IntKind.wrap IntKind.u64 z1077) - IntKind.wrap IntKind.u64 z1076)) (z1085))
    else
     some (A93.a0 (IntKind.wrap IntKind.u64 (z1084 - IntKind.wrap IntKind.u64 z1077)) (z1085))
   else
    if z1077 < 0 then
     some (A93.a0 (IntKind.wrap IntKind.u64 (z1084 - IntKind.wrap IntKind.u64 z1076)) (z1085))
    else
     some (A93.a0 (z1084) (z1085))
theorem F93_ok (m : Nat) (z1076 : Int) (z1077 : Int) (r : A93) (h : F93 z1076 z1077 = some r) : call Try.prog X O0 100000 (m + 2) 93 ([i64 z1076, i64 z1077]) ([]) = some r.out := by
  unfold F93 at h
  obtain ⟨r0, h0, h⟩ := Option.bind_eq_some_iff.mp h
  have h0 := F96_ok (m + 0) (IntKind.wrap IntKind.u64 z1076) (IntKind.wrap IntKind.u64 z1077) r0 h0
  cases r0 with
  | a0 z1084 z1085 =>
    rcases ite_eq h with ⟨h1, h⟩ | ⟨h1, h⟩
    · skip
      rcases ite_eq h with ⟨h2, h⟩ | ⟨h2, h⟩
      · skip
        cases h
        exact call_pathL (gs := [.an (V.tup [V.int IntKind.u64 z1084, V.int IntKind.u64 z1085]) [], .t, .t]) (notIn []) rfl rfl (by kernel_rfl) (And.intro h0 (And.intro (decide_eq_true h1) (And.intro (decide_eq_true h2) True.intro)))
      · skip
        cases h
        exact call_pathL (gs := [.an (V.tup [V.int IntKind.u64 z1084, V.int IntKind.u64 z1085]) [], .t, .f]) (notIn []) rfl rfl (by kernel_rfl) (And.intro h0 (And.intro (decide_eq_true h1) (And.intro (decide_eq_false h2) True.intro)))
    · skip
      rcases ite_eq h with ⟨h2, h⟩ | ⟨h2, h⟩
      · skip
        cases h
        exact call_pathL (gs := [.an (V.tup [V.int IntKind.u64 z1084, V.int IntKind.u64 z1085]) [], .f, .t]) (notIn []) rfl rfl (by kernel_rfl) (And.intro h0 (And.intro (decide_eq_false h1) (And.intro (decide_eq_true h2) True.intro)))
      · skip
        cases h
        exact call_pathL (gs := [.an (V.tup [V.int IntKind.u64 z1084, V.int IntKind.u64 z1085]) [], .f, .f]) (notIn []) rfl rfl (by kernel_rfl) (And.intro h0 (And.intro (decide_eq_false h1) (And.intro (decide_eq_false h2) True.intro)))
/-! ## 92 -/
def F92 (z1090 : Int) (z1091 : Int) : Int :=
  if Int.fdiv (w64 z1090) 65536 < -1 then
   -9223372036854775808
  else
   if (Int.fdiv (w64 z1090) 65536 == -1) = true then
    if (Int.fdiv (IntKind.wrap IntKind.u64 (↑(BitVec.toNat (BitVec.ofInt (IntKind.bits IntKind.u64) (IntKind.wrap IntKind.u64 (z1090 * 2 ^ min (Int.toNat 48) (IntKind.bits IntKind.u64))) ||| BitVec.ofInt (IntKind.bits IntKind.u64) (Int.fdiv z1091 (2 ^ min (Int.toNat 16) (IntKind.bits IntKind.u64))))) : Int)) 9223372036854775808 == 0) = true then
     -9223372036854775808
    else
     if Int.fdiv (w64 z1090) 65536 > 0 then
      9223372036854775807
     else
      if (Int.fdiv (w64 z1090) 65536 == 0) = true then
       if (Int.fdiv (IntKind.wrap IntKind.u64 (↑(BitVec.toNat (BitVec.ofInt (IntKind.bits IntKind.u64) (IntKind.wrap IntKind.u64 (z1090 * 2 ^ min (Int.toNat 48) (IntKind.bits IntKind.u64))) ||| BitVec.ofInt (IntKind.bits IntKind.u64) (Int.fdiv z1091 (2 ^ min (Int.toNat 16) (IntKind.bits IntKind.u64))))) : Int)) 9223372036854775808 != 0) = true then
        9223372036854775807
       else
        w64 (IntKind.wrap IntKind.u64 (↑(BitVec.toNat (BitVec.ofInt (IntKind.bits IntKind.u64) (IntKind.wrap IntKind.u64 (z1090 * 2 ^ min (Int.toNat 48) (IntKind.bits IntKind.u64))) ||| BitVec.ofInt (IntKind.bits IntKind.u64) (Int.fdiv z1091 (2 ^ min (Int.toNat 16) (IntKind.bits IntKind.u64))))) : Int))
      else
       w64 (IntKind.wrap IntKind.u64 (↑(BitVec.toNat (BitVec.ofInt (IntKind.bits IntKind.u64) (IntKind.wrap IntKind.u64 (z1090 * 2 ^ min (Int.toNat 48) (IntKind.bits IntKind.u64))) ||| BitVec.ofInt (IntKind.bits IntKind.u64) (Int.fdiv z1091 (2 ^ min (Int.toNat 16) (IntKind.bits IntKind.u64))))) : Int))
   else
    if Int.fdiv (w64 z1090) 65536 > 0 then
     9223372036854775807
    else
     if (Int.fdiv (w64 z1090) 65536 == 0) = true then
      if (Int.fdiv (IntKind.wrap IntKind.u64 (↑(BitVec.toNat (BitVec.ofInt (IntKind.bits IntKind.u64) (IntKind.wrap IntKind.u64 (z1090 * 2 ^ min (Int.toNat 48) (IntKind.bits IntKind.u64))) ||| BitVec.ofInt (IntKind.bits IntKind.u64) (Int.fdiv z1091 (2 ^ min (Int.toNat 16) (IntKind.bits IntKind.u64))))) : Int)) 9223372036854775808 != 0) = true then
       9223372036854775807
      else
       w64 (IntKind.wrap IntKind.u64 (↑(BitVec.toNat (BitVec.ofInt (IntKind.bits IntKind.u64) (IntKind.wrap IntKind.u64 (z1090 * 2 ^ min (Int.toNat 48) (IntKind.bits IntKind.u64))) ||| BitVec.ofInt (IntKind.bits IntKind.u64) (Int.fdiv z1091 (2 ^ min (Int.toNat 16) (IntKind.bits IntKind.u64))))) : Int))
     else
      w64 (IntKind.wrap IntKind.u64 (↑(BitVec.toNat (BitVec.ofInt (IntKind.bits IntKind.u64) (IntKind.wrap IntKind.u64 (z1090 * 2 ^ min (Int.toNat 48) (IntKind.bits IntKind.u64))) ||| BitVec.ofInt (IntKind.bits IntKind.u64) (Int.fdiv z1091 (2 ^ min (Int.toNat 16) (IntKind.bits IntKind.u64))))) : Int))
theorem F92_ok (m : Nat) (z1090 : Int) (z1091 : Int) (z1094 : Int) (h : F92 z1090 z1091 = z1094) : call Try.prog X O0 100000 (m + 1) 92 ([V.int IntKind.u64 z1090, V.int IntKind.u64 z1091]) ([]) = some (i64 z1094, []) := by
  unfold F92 at h
  rcases ite_eq h with ⟨h0, h⟩ | ⟨h0, h⟩
  · skip
    subst h
    exact call_pathL (gs := [.t, .t, .t, .t, .t, .a]) (notIn []) rfl rfl (by kernel_rfl) (And.intro (decide_eq_true h0) (And.intro (decide_eq_true h0) (And.intro (decide_eq_true h0) (And.intro (decide_eq_true h0) (And.intro (decide_eq_true h0) True.intro)))))
  · skip
    rcases ite_eq h with ⟨h1, h⟩ | ⟨h1, h⟩
    · skip
      rcases ite_eq h with ⟨h2, h⟩ | ⟨h2, h⟩
      · skip
        subst h
        exact call_pathL (gs := [.f, .f, .f, .t, .t, .t, .f, .t, .f, .t]) (notIn []) rfl rfl (by kernel_rfl) (And.intro (decide_eq_false h0) (And.intro (decide_eq_false h0) (And.intro (decide_eq_false h0) (And.intro h1 (And.intro h1 (And.intro h1 (And.intro (decide_eq_false h0) (And.intro h1 (And.intro (decide_eq_false h0) (And.intro h2 True.intro))))))))))
      · skip
        rcases ite_eq h with ⟨h3, h⟩ | ⟨h3, h⟩
        · skip
          subst h
          exact call_pathL (gs := [.f, .f, .f, .t, .t, .t, .f, .t, .f, .f, .t, .t, .t, .t, .t, .a]) (notIn []) rfl rfl (by kernel_rfl) (And.intro (decide_eq_false h0) (And.intro (decide_eq_false h0) (And.intro (decide_eq_false h0) (And.intro h1 (And.intro h1 (And.intro h1 (And.intro (decide_eq_false h0) (And.intro h1 (And.intro (decide_eq_false h0) (And.intro (Bool.eq_false_iff.mpr h2) (And.intro (decide_eq_true h3) (And.intro (decide_eq_true h3) (And.intro (decide_eq_true h3) (And.intro (decide_eq_true h3) (And.intro (decide_eq_true h3) True.intro)))))))))))))))
        · skip
          rcases ite_eq h with ⟨h4, h⟩ | ⟨h4, h⟩
          · skip
            rcases ite_eq h with ⟨h5, h⟩ | ⟨h5, h⟩
            · skip
              subst h
              exact call_pathL (gs := [.f, .f, .f, .t, .t, .t, .f, .t, .f, .f, .f, .f, .f, .t, .t, .t, .f, .t, .f, .t]) (notIn []) rfl rfl (by kernel_rfl) (And.intro (decide_eq_false h0) (And.intro (decide_eq_false h0) (And.intro (decide_eq_false h0) (And.intro h1 (And.intro h1 (And.intro h1 (And.intro (decide_eq_false h0) (And.intro h1 (And.intro (decide_eq_false h0) (And.intro (Bool.eq_false_iff.mpr h2) (And.intro (decide_eq_false h3) (And.intro (decide_eq_false h3) (And.intro (decide_eq_false h3) (And.intro h4 (And.intro h4 (And.intro h4 (And.intro (decide_eq_false h3) (And.intro h4 (And.intro (decide_eq_false h3) (And.intro h5 True.intro))))))))))))))))))))
            · skip
              subst h
              exact call_pathL (gs := [.f, .f, .f, .t, .t, .t, .f, .t, .f, .f, .f, .f, .f, .t, .t, .t, .f, .t, .f, .f]) (notIn []) rfl rfl (by kernel_rfl) (And.intro (decide_eq_false h0) (And.intro (decide_eq_false h0) (And.intro (decide_eq_false h0) (And.intro h1 (And.intro h1 (And.intro h1 (And.intro (decide_eq_false h0) (And.intro h1 (And.intro (decide_eq_false h0) (And.intro (Bool.eq_false_iff.mpr h2) (And.intro (decide_eq_false h3) (And.intro (decide_eq_false h3) (And.intro (decide_eq_false h3) (And.intro h4 (And.intro h4 (And.intro h4 (And.intro (decide_eq_false h3) (And.intro h4 (And.intro (decide_eq_false h3) (And.intro (Bool.eq_false_iff.mpr h5) True.intro))))))))))))))))))))
          · skip
            subst h
            exact call_pathL (gs := [.f, .f, .f, .t, .t, .t, .f, .t, .f, .f, .f, .f, .f, .f, .f, .f, .f, .f, .f, .a]) (notIn []) rfl rfl (by kernel_rfl) (And.intro (decide_eq_false h0) (And.intro (decide_eq_false h0) (And.intro (decide_eq_false h0) (And.intro h1 (And.intro h1 (And.intro h1 (And.intro (decide_eq_false h0) (And.intro h1 (And.intro (decide_eq_false h0) (And.intro (Bool.eq_false_iff.mpr h2) (And.intro (decide_eq_false h3) (And.intro (decide_eq_false h3) (And.intro (decide_eq_false h3) (And.intro (Bool.eq_false_iff.mpr h4) (And.intro (Bool.eq_false_iff.mpr h4) (And.intro (Bool.eq_false_iff.mpr h4) (And.intro (decide_eq_false h3) (And.intro (Bool.eq_false_iff.mpr h4) (And.intro (decide_eq_false h3) True.intro)))))))))))))))))))
    · skip
      rcases ite_eq h with ⟨h2, h⟩ | ⟨h2, h⟩
      · skip
        subst h
        exact call_pathL (gs := [.f, .f, .f, .f, .f, .f, .f, .f, .f, .a, .t, .t, .t, .t, .t, .a]) (notIn []) rfl rfl (by kernel_rfl) (And.intro (decide_eq_false h0) (And.intro (decide_eq_false h0) (And.intro (decide_eq_false h0) (And.intro (Bool.eq_false_iff.mpr h1) (And.intro (Bool.eq_false_iff.mpr h1) (And.intro (Bool.eq_false_iff.mpr h1) (And.intro (decide_eq_false h0) (And.intro (Bool.eq_false_iff.mpr h1) (And.intro (decide_eq_false h0) (And.intro (decide_eq_true h2) (And.intro (decide_eq_true h2) (And.intro (decide_eq_true h2) (And.intro (decide_eq_true h2) (And.intro (decide_eq_true h2) True.intro))))))))))))))
      · skip
        rcases ite_eq h with ⟨h3, h⟩ | ⟨h3, h⟩
        · skip
          rcases ite_eq h with ⟨h4, h⟩ | ⟨h4, h⟩
          · skip
            subst h
            exact call_pathL (gs := [.f, .f, .f, .f, .f, .f, .f, .f, .f, .a, .f, .f, .f, .t, .t, .t, .f, .t, .f, .t]) (notIn []) rfl rfl (by kernel_rfl) (And.intro (decide_eq_false h0) (And.intro (decide_eq_false h0) (And.intro (decide_eq_false h0) (And.intro (Bool.eq_false_iff.mpr h1) (And.intro (Bool.eq_false_iff.mpr h1) (And.intro (Bool.eq_false_iff.mpr h1) (And.intro (decide_eq_false h0) (And.intro (Bool.eq_false_iff.mpr h1) (And.intro (decide_eq_false h0) (And.intro (decide_eq_false h2) (And.intro (decide_eq_false h2) (And.intro (decide_eq_false h2) (And.intro h3 (And.intro h3 (And.intro h3 (And.intro (decide_eq_false h2) (And.intro h3 (And.intro (decide_eq_false h2) (And.intro h4 True.intro)))))))))))))))))))
          · skip
            subst h
            exact call_pathL (gs := [.f, .f, .f, .f, .f, .f, .f, .f, .f, .a, .f, .f, .f, .t, .t, .t, .f, .t, .f, .f]) (notIn []) rfl rfl (by kernel_rfl) (And.intro (decide_eq_false h0) (And.intro (decide_eq_false h0) (And.intro (decide_eq_false h0) (And.intro (Bool.eq_false_iff.mpr h1) (And.intro (Bool.eq_false_iff.mpr h1) (And.intro (Bool.eq_false_iff.mpr h1) (And.intro (decide_eq_false h0) (And.intro (Bool.eq_false_iff.mpr h1) (And.intro (decide_eq_false h0) (And.intro (decide_eq_false h2) (And.intro (decide_eq_false h2) (And.intro (decide_eq_false h2) (And.intro h3 (And.intro h3 (And.intro h3 (And.intro (decide_eq_false h2) (And.intro h3 (And.intro (decide_eq_false h2) (And.intro (Bool.eq_false_iff.mpr h4) True.intro)))))))))))))))))))
        · skip
          subst h
          exact call_pathL (gs := [.f, .f, .f, .f, .f, .f, .f, .f, .f, .a, .f, .f, .f, .f, .f, .f, .f, .f, .f, .a]) (notIn []) rfl rfl (by kernel_rfl) (And.intro (decide_eq_false h0) (And.intro (decide_eq_false h0) (And.intro (decide_eq_false h0) (And.intro (Bool.eq_false_iff.mpr h1) (And.intro (Bool.eq_false_iff.mpr h1) (And.intro (Bool.eq_false_iff.mpr h1) (And.intro (decide_eq_false h0) (And.intro (Bool.eq_false_iff.mpr h1) (And.intro (decide_eq_false h0) (And.intro (decide_eq_false h2) (And.intro (decide_eq_false h2) (And.intro (decide_eq_false h2) (And.intro (Bool.eq_false_iff.mpr h3) (And.intro (Bool.eq_false_iff.mpr h3) (And.intro (Bool.eq_false_iff.mpr h3) (And.intro (decide_eq_false h2) (And.intro (Bool.eq_false_iff.mpr h3) (And.intro (decide_eq_false h2) True.intro))))))))))))))))))
/-! ## 63 -/
inductive A63 where
  | a0 (z1097 : Int)
@[reducible] def A63.out : A63 → V × Store
  | .a0 z1097 => (i64 z1097, [])
def F63 (z1071 : Int) (z1072 : Int) : Option A63 :=
  bnd (F57 (z1071)) fun z1074 =>
  bnd (F57 (z1072)) fun z1075 =>
  (F93 (z1074) (z1075)).bind fun r => match r with
  | .a0 z1088 z1089 =>
   bnd (F92 (z1088) (z1089)) fun z1095 =>
   bnd (F57 (z1095)) fun z1096 =>
   some (A63.a0 (z1096))
theorem F63_ok (m : Nat) (z1071 : Int) (z1072 : Int) (r : A63) (h : F63 z1071 z1072 = some r) : call Try.prog X O0 100000 (m + 3) 63 ([i64 z1071, i64 z1072]) ([]) = some r.out := by
  unfold F63 at h
  obtain ⟨z1074, h0, h⟩ := bnd_eq h
  obtain ⟨z1075, h1, h⟩ := bnd_eq h
  obtain ⟨r2, h2, h⟩ := Option.bind_eq_some_iff.mp h
  have h2 := F93_ok (m + 0) (z1074) (z1075) r2 h2
  cases r2 with
  | a0 z1088 z1089 =>
    obtain ⟨z1095, h3, h⟩ := bnd_eq h
    obtain ⟨z1096, h4, h⟩ := bnd_eq h
    cases h
    exact call_pathL (gs := [.an (i64 z1074) [], .an (i64 z1075) [], .an (V.tup [V.int IntKind.u64 z1088, V.int IntKind.u64 z1089]) [], .an (i64 z1095) [], .an (i64 z1096) []]) (notIn []) rfl rfl (by kernel_rfl) (And.intro (F57_ok (m + 0) (z1071) z1074 h0) (And.intro (F57_ok (m + 0) (z1072) z1075 h1) (And.intro h2 (And.intro (F92_ok (m + 1) (z1088) (z1089) z1095 h3) (And.intro (F57_ok (m + 0) (z1095) z1096 h4) True.intro)))))
/-! ## 48 -/
inductive A48 where
  | a0 (z1100 : Int)
@[reducible] def A48.out : A48 → V × Store
  | .a0 z1100 => (i64 z1100, [])
def F48 (z1065 : Int) (z1066 : Int) (z1067 : Int) : Option A48 :=
  bnd (F57 (z1065)) fun z1069 =>
  bnd (F56 (z1066) (w64 (0 - z1069))) fun z1070 =>
  (F63 (z1070) (z1067)).bind fun r => match r with
  | .a0 z1098 =>
   bnd (F56 (z1069) (z1098)) fun z1099 =>
   some (A48.a0 (z1099))
theorem F48_ok (m : Nat) (z1065 : Int) (z1066 : Int) (z1067 : Int) (r : A48) (h : F48 z1065 z1066 z1067 = some r) : call Try.prog X O0 100000 (m + 4) 48 ([i64 z1065, i64 z1066, i64 z1067]) ([]) = some r.out := by
  unfold F48 at h
  obtain ⟨z1069, h0, h⟩ := bnd_eq h
  obtain ⟨z1070, h1, h⟩ := bnd_eq h
  obtain ⟨r2, h2, h⟩ := Option.bind_eq_some_iff.mp h
  have h2 := F63_ok (m + 0) (z1070) (z1067) r2 h2
  cases r2 with
  | a0 z1098 =>
    obtain ⟨z1099, h3, h⟩ := bnd_eq h
    cases h
    exact call_pathL (gs := [.an (i64 z1069) [], .an (i64 z1070) [], .an (i64 z1098) [], .an (i64 z1099) []]) (notIn []) rfl rfl (by kernel_rfl) (And.intro (F57_ok (m + 1) (z1065) z1069 h0) (And.intro (F56_ok (m + 0) (z1066) (w64 (0 - z1069)) z1070 h1) (And.intro h2 (And.intro (F56_ok (m + 0) (z1069) (z1098) z1099 h3) True.intro))))
/-! ## 39 -/
inductive A39 where
  | a0 (z1053 : Int) (z1054 : Int)
@[reducible] def A39.out : A39 → V × Store
  | .a0 z1053 z1054 => (V.agg [i64 z1053, i64 z1054], [])
def F39 (z1042 : Int) (z1043 : Int) (z1044 : Int) (z1045 : Int) (z1046 : Int) (z1047 : Int) : Option A39 :=
  (F71 (z1042) (z1043)).bind fun r => match r with
  | .a0 z1049 z1050 =>
   (F71 (z1044) (z1045)).bind fun r => match r with
   | .a0 z1051 z1052 =>
    if z1046 ≤ 0 then
     some (A39.a0 (z1049) (z1050))
    else
     if z1046 ≥ z1047 then
      some (A39.a0 (z1051) (z1052))
     else
      (F72 (z1046) (z1047)).bind fun r => match r with
      | .a0 z1064 =>
       (F48 (z1049) (z1051) (z1064)).bind fun r => match r with
       | .a0 z1101 =>
        (F48 (z1050) (z1052) (z1064)).bind fun r => match r with
        | .a0 z1102 =>
         some (A39.a0 (z1101) (z1102))
theorem F39_ok (m : Nat) (z1042 : Int) (z1043 : Int) (z1044 : Int) (z1045 : Int) (z1046 : Int) (z1047 : Int) (r : A39) (h : F39 z1042 z1043 z1044 z1045 z1046 z1047 = some r) : call Try.prog X O0 100000 (m + 5) 39 ([V.agg [i64 z1042, i64 z1043], V.agg [i64 z1044, i64 z1045], i64 z1046, i64 z1047]) ([]) = some r.out := by
  unfold F39 at h
  obtain ⟨r0, h0, h⟩ := Option.bind_eq_some_iff.mp h
  have h0 := F71_ok (m + 1) (z1042) (z1043) r0 h0
  cases r0 with
  | a0 z1049 z1050 =>
    obtain ⟨r1, h1, h⟩ := Option.bind_eq_some_iff.mp h
    have h1 := F71_ok (m + 1) (z1044) (z1045) r1 h1
    cases r1 with
    | a0 z1051 z1052 =>
      rcases ite_eq h with ⟨h2, h⟩ | ⟨h2, h⟩
      · skip
        cases h
        exact call_pathL (gs := [.a, .an (V.agg [i64 z1049, i64 z1050]) [], .a, .an (V.agg [i64 z1051, i64 z1052]) [], .a, .a, .ft [⟨0, [0], []⟩, ⟨1, [], []⟩, ⟨2, [1], []⟩, ⟨3, [], []⟩, ⟨4, [0], [0]⟩, ⟨5, [1], [1]⟩], .t, .a, .a]) (notIn []) rfl rfl (by kernel_rfl) (And.intro h0 (And.intro h1 (And.intro (Eq.refl ([⟨0, [0], []⟩, ⟨1, [], []⟩, ⟨2, [1], []⟩, ⟨3, [], []⟩, ⟨4, [0], [0]⟩, ⟨5, [1], [1]⟩] : List Foot)) (And.intro (decide_eq_true h2) True.intro))))
      · skip
        rcases ite_eq h with ⟨h3, h⟩ | ⟨h3, h⟩
        · skip
          cases h
          exact call_pathL (gs := [.a, .an (V.agg [i64 z1049, i64 z1050]) [], .a, .an (V.agg [i64 z1051, i64 z1052]) [], .a, .a, .ft [⟨0, [0], []⟩, ⟨1, [], []⟩, ⟨2, [1], []⟩, ⟨3, [], []⟩, ⟨4, [0], [0]⟩, ⟨5, [1], [1]⟩], .f, .t, .a, .a]) (notIn []) rfl rfl (by kernel_rfl) (And.intro h0 (And.intro h1 (And.intro (Eq.refl ([⟨0, [0], []⟩, ⟨1, [], []⟩, ⟨2, [1], []⟩, ⟨3, [], []⟩, ⟨4, [0], [0]⟩, ⟨5, [1], [1]⟩] : List Foot)) (And.intro (decide_eq_false h2) (And.intro (decide_eq_true h3) True.intro)))))
        · skip
          obtain ⟨r4, h4, h⟩ := Option.bind_eq_some_iff.mp h
          have h4 := F72_ok (m + 1) (z1046) (z1047) r4 h4
          cases r4 with
          | a0 z1064 =>
            obtain ⟨r5, h5, h⟩ := Option.bind_eq_some_iff.mp h
            have h5 := F48_ok (m + 0) (z1049) (z1051) (z1064) r5 h5
            cases r5 with
            | a0 z1101 =>
              obtain ⟨r6, h6, h⟩ := Option.bind_eq_some_iff.mp h
              have h6 := F48_ok (m + 0) (z1050) (z1052) (z1064) r6 h6
              cases r6 with
              | a0 z1102 =>
                cases h
                exact call_pathL (gs := [.a, .an (V.agg [i64 z1049, i64 z1050]) [], .a, .an (V.agg [i64 z1051, i64 z1052]) [], .a, .a, .ft [⟨0, [0], []⟩, ⟨1, [], []⟩, ⟨2, [1], []⟩, ⟨3, [], []⟩, ⟨4, [0], [0]⟩, ⟨5, [1], [1]⟩], .f, .f, .an (i64 z1064) [], .a, .a, .an (i64 z1101) [], .a, .a, .an (i64 z1102) [], .a, .ft [⟨0, [0], []⟩, ⟨1, [0], []⟩, ⟨2, [1], []⟩, ⟨3, [1], []⟩, ⟨4, [], []⟩, ⟨5, [], []⟩, ⟨6, [0], []⟩, ⟨7, [0], []⟩, ⟨8, [1], []⟩, ⟨9, [1], []⟩, ⟨10, [], []⟩, ⟨11, [], []⟩, ⟨12, [], []⟩, ⟨13, [2], [2]⟩]]) (notIn []) rfl rfl (by kernel_rfl) (And.intro h0 (And.intro h1 (And.intro (Eq.refl ([⟨0, [0], []⟩, ⟨1, [], []⟩, ⟨2, [1], []⟩, ⟨3, [], []⟩, ⟨4, [0], [0]⟩, ⟨5, [1], [1]⟩] : List Foot)) (And.intro (decide_eq_false h2) (And.intro (decide_eq_false h3) (And.intro h4 (And.intro h5 (And.intro h6 (And.intro (Eq.refl ([⟨0, [0], []⟩, ⟨1, [0], []⟩, ⟨2, [1], []⟩, ⟨3, [1], []⟩, ⟨4, [], []⟩, ⟨5, [], []⟩, ⟨6, [0], []⟩, ⟨7, [0], []⟩, ⟨8, [1], []⟩, ⟨9, [1], []⟩, ⟨10, [], []⟩, ⟨11, [], []⟩, ⟨12, [], []⟩, ⟨13, [2], [2]⟩] : List Foot)) True.intro)))))))))
/-! ## 24 -/
noncomputable abbrev B24v1 : Code := (Try.f24.body).getD .skip
inductive R24v1_0 where
  | e0
  | e1 (k1228 : Nat) (l1229 : List (List V))
@[reducible] def s24v1_0_0 (z1195 : Int) (z1196 : Int) (z1197 : Int) (z1198 : Int) (z1199 : Int) (b1200 : Bool) (b1201 : Bool) (l1202 : List (List V)) : S := { T := U :: i64 z1195 :: i64 z1196 :: V.ptr 0 0 0 :: U :: U :: V.ptr 1 0 0 :: V.ptr 2 0 0 :: i64 z1197 :: un 13 (i64 z1198 :: i64 z1199 :: vb b1200 :: un 55 []), σ := [Ob.cells true false 2 [[vb b1201, V.list 2 l1202]], Ob.cells true false 2 [[vb false, V.nilS]], Ob.cells true false 2 [[vb false, V.nilS]]] }
@[reducible] def s24v1_0_1 (z1220 : Int) (z1221 : Int) (z1222 : Int) (z1223 : Int) (z1224 : Int) (b1225 : Bool) (b1226 : Bool) (l1227 : List (List V)) (k1228 : Nat) (l1229 : List (List V)) : S := { T := U :: i64 z1220 :: i64 z1221 :: V.ptr 0 0 0 :: U :: U :: V.ptr 1 0 0 :: V.ptr 2 0 0 :: i64 z1222 :: un 13 (i64 z1223 :: i64 z1224 :: vb b1225 :: un 55 []), σ := [Ob.cells true false 2 [[vb b1226, V.list 2 l1227]], Ob.cells true false 2 [[vb false, V.nilS]], Ob.cells true false 2 [[vb false, V.hs 3 0 k1228]], Ob.cells true true 2 l1229] }
def R24v1_0.St : R24v1_0 → VX × S → Prop
  | .e0, p => ∃ z1195 : Int, ∃ z1196 : Int, ∃ z1197 : Int, ∃ z1198 : Int, ∃ z1199 : Int, ∃ b1200 : Bool, ∃ b1201 : Bool, ∃ l1202 : List (List V), p = (VX.exit 0, s24v1_0_0 z1195 z1196 z1197 z1198 z1199 b1200 b1201 l1202)
  | .e1 k1228 l1229, p => ∃ z1220 : Int, ∃ z1221 : Int, ∃ z1222 : Int, ∃ z1223 : Int, ∃ z1224 : Int, ∃ b1225 : Bool, ∃ b1226 : Bool, ∃ l1227 : List (List V), p = (VX.exit 0, s24v1_0_1 z1220 z1221 z1222 z1223 z1224 b1225 b1226 l1227 k1228 l1229)
def L24v1_0s1 : Nat → Int → Int → Int → Int → Int → Bool → List (List V) → Nat → List (List V) → Option R24v1_0
  | 0, _, _, _, _, _, _, _, _, _ => none
  | n + 1, z1140, z1141, z1142, z1143, z1144, b1145, l1146, k1147, l1148 =>
    if z1144 < z1143 then
     (F55v1 (b1145) (l1146) (z1144)).bind fun r => match r with
     | .a0 z1203 z1204 z1205 z1206 z1207 =>
      if z1207 > 0 then
       bnd (F56 (z1142) (z1207)) fun z1208 =>
       if z1208 > z1140 then
        if z1142 < z1141 then
         if ((↑k1147 : Int) == 0) = true then
          (F39 (z1203) (z1204) (z1205) (z1206) (w64 (z1140 - z1142)) (z1207)).bind fun r => match r with
          | .a0 z1209 z1210 =>
           if 0 + k1147 ≤ List.length l1148 ∧ (k1147 + 1) * 16 ≤ 140737488355328 ∧ k1147 + 1 ≤ 140737488355328 then
            (F39 (z1203) (z1204) (z1205) (z1206) (w64 (z1141 - z1142)) (z1207)).bind fun r => match r with
            | .a0 z1211 z1212 =>
             if 0 + (k1147 + 1) ≤ List.length (List.take k1147 l1148 ++ [[i64 z1209, i64 z1210]]) ∧ (k1147 + 1 + 1) * 16 ≤ 140737488355328 ∧ k1147 + 1 + 1 ≤ 140737488355328 then
              bnd (F56 (z1142) (z1207)) fun z1213 =>
              L24v1_0s1 n (z1140) (z1141) (z1213) (z1143) (w64 (z1144 + 1)) (b1145) (l1146) (k1147 + 1 + 1) (List.take (k1147 + 1) (List.take k1147 l1148 ++ [[i64 z1209, i64 z1210]]) ++ [[i64 z1211, i64 z1212]])
             else
              none -- none
           else
            none -- none
         else
          (F39 (z1203) (z1204) (z1205) (z1206) (w64 (z1141 - z1142)) (z1207)).bind fun r => match r with
          | .a0 z1214 z1215 =>
           if 0 + k1147 ≤ List.length l1148 ∧ (k1147 + 1) * 16 ≤ 140737488355328 ∧ k1147 + 1 ≤ 140737488355328 then
            bnd (F56 (z1142) (z1207)) fun z1216 =>
            L24v1_0s1 n (z1140) (z1141) (z1216) (z1143) (w64 (z1144 + 1)) (b1145) (l1146) (k1147 + 1) (List.take k1147 l1148 ++ [[i64 z1214, i64 z1215]])
           else
            none -- none
        else
         bnd (F56 (z1142) (z1207)) fun z1217 =>
         L24v1_0s1 n (z1140) (z1141) (z1217) (z1143) (w64 (z1144 + 1)) (b1145) (l1146) (k1147) (l1148)
       else
        bnd (F56 (z1142) (z1207)) fun z1218 =>
        L24v1_0s1 n (z1140) (z1141) (z1218) (z1143) (w64 (z1144 + 1)) (b1145) (l1146) (k1147) (l1148)
      else
       bnd (F56 (z1142) (z1207)) fun z1219 =>
       L24v1_0s1 n (z1140) (z1141) (z1219) (z1143) (w64 (z1144 + 1)) (b1145) (l1146) (k1147) (l1148)
    else
     some (R24v1_0.e1 (k1147) (l1148))
theorem L24v1_0s1_ok (m : Nat) : ∀ (n : Nat) (z1140 : Int) (z1141 : Int) (z1142 : Int) (z1143 : Int) (z1144 : Int) (b1145 : Bool) (l1146 : List (List V)) (k1147 : Nat) (l1148 : List (List V)) (r : R24v1_0), L24v1_0s1 n z1140 z1141 z1142 z1143 z1144 b1145 l1146 k1147 l1148 = some r → ∃ st, loopFrom Try.prog X (call Try.prog X O0 100000 (m + 5)) 24 (0) 100000 B24v1 0 n ({ T := U :: i64 z1140 :: i64 z1141 :: V.ptr 0 0 0 :: U :: U :: V.ptr 1 0 0 :: V.ptr 2 0 0 :: i64 z1142 :: un 13 (i64 z1143 :: i64 z1144 :: un 56 []), σ := [Ob.cells true false 2 [[vb b1145, V.list 2 l1146]], Ob.cells true false 2 [[vb false, V.nilS]], Ob.cells true false 2 [[vb false, V.hs 3 0 k1147]], Ob.cells true true 2 l1148] }) = some st ∧ r.St st
  | 0, _, _, _, _, _, _, _, _, _, r, h => by cases h
  | n + 1, z1140, z1141, z1142, z1143, z1144, b1145, l1146, k1147, l1148, r, h => by
    rw [L24v1_0s1] at h
    rcases ite_eq h with ⟨h0, h⟩ | ⟨h0, h⟩
    · skip
      obtain ⟨r1, h1, h⟩ := Option.bind_eq_some_iff.mp h
      have h1 := F55v1_ok (m + 1) (b1145) (l1146) (z1144) r1 h1
      cases r1 with
      | a0 z1203 z1204 z1205 z1206 z1207 =>
        rcases ite_eq h with ⟨h2, h⟩ | ⟨h2, h⟩
        · skip
          obtain ⟨z1208, h3, h⟩ := bnd_eq h
          rcases ite_eq h with ⟨h4, h⟩ | ⟨h4, h⟩
          · skip
            rcases ite_eq h with ⟨h5, h⟩ | ⟨h5, h⟩
            · skip
              rcases ite_eq h with ⟨h6, h⟩ | ⟨h6, h⟩
              · skip
                obtain ⟨r7, h7, h⟩ := Option.bind_eq_some_iff.mp h
                have h7 := F39_ok (m + 0) (z1203) (z1204) (z1205) (z1206) (w64 (z1140 - z1142)) (z1207) r7 h7
                cases r7 with
                | a0 z1209 z1210 =>
                  rcases ite_eq h with ⟨h8, h⟩ | ⟨h8, h⟩
                  · skip
                    obtain ⟨r9, h9, h⟩ := Option.bind_eq_some_iff.mp h
                    have h9 := F39_ok (m + 0) (z1203) (z1204) (z1205) (z1206) (w64 (z1141 - z1142)) (z1207) r9 h9
                    cases r9 with
                    | a0 z1211 z1212 =>
                      rcases ite_eq h with ⟨h10, h⟩ | ⟨h10, h⟩
                      · skip
                        obtain ⟨z1213, h11, h⟩ := bnd_eq h
                        obtain ⟨st, hs, hr⟩ := L24v1_0s1_ok m n (z1140) (z1141) (z1213) (z1143) (w64 (z1144 + 1)) (b1145) (l1146) (k1147 + 1 + 1) (List.take (k1147 + 1) (List.take k1147 l1148 ++ [[i64 z1209, i64 z1210]]) ++ [[i64 z1211, i64 z1212]]) r h
                        exact ⟨st, (round_on (gs := [.t, .a, .an (V.tup [V.agg [i64 z1203, i64 z1204], V.agg [i64 z1205, i64 z1206], i64 z1207]) [], .a, .a, .t, .t, .t, .an (i64 z1208) [], .t, .t, .t, .t, .t, .t, .t, .t, .a, .t, .a, .a, .a, .an (V.agg [i64 z1209, i64 z1210]) [], .a, .t, .a, .ft [⟨0, [2], []⟩, ⟨1, [2], []⟩, ⟨2, [7], []⟩, ⟨3, [8], []⟩, ⟨4, [], []⟩, ⟨5, [], []⟩, ⟨6, [], []⟩, ⟨7, [], []⟩, ⟨8, [], []⟩, ⟨9, [9], [9]⟩, ⟨10, [9, 10, 3], [3, 10]⟩, ⟨11, [2], []⟩, ⟨12, [2], [2]⟩], .a, .a, .a, .an (V.agg [i64 z1211, i64 z1212]) [], .a, .t, .a, .ft [⟨0, [2], []⟩, ⟨1, [2], []⟩, ⟨2, [7], []⟩, ⟨3, [8], []⟩, ⟨4, [], []⟩, ⟨5, [], []⟩, ⟨6, [], []⟩, ⟨7, [], []⟩, ⟨8, [], []⟩, ⟨9, [11], [11]⟩, ⟨10, [11, 12, 10], [10, 12]⟩, ⟨11, [2], []⟩, ⟨12, [2], [2]⟩], .an (i64 z1213) []]) (notIn []) (by kernel_rfl) (And.intro (decide_eq_true h0) (And.intro h1 (And.intro (decide_eq_true h2) (And.intro (decide_eq_true h2) (And.intro (decide_eq_true h2) (And.intro (F56_ok (m + 2) (z1142) (z1207) z1208 h3) (And.intro (decide_eq_true h2) (And.intro (decide_eq_true h2) (And.intro (decide_eq_true h2) (And.intro (decide_eq_true h4) (And.intro (decide_eq_true h4) (And.intro (decide_eq_true h4) (And.intro (decide_eq_true h4) (And.intro (decide_eq_true h5) (And.intro h6 (And.intro h7 (And.intro (decide_eq_true h8) (And.intro (Eq.refl ([⟨0, [2], []⟩, ⟨1, [2], []⟩, ⟨2, [7], []⟩, ⟨3, [8], []⟩, ⟨4, [], []⟩, ⟨5, [], []⟩, ⟨6, [], []⟩, ⟨7, [], []⟩, ⟨8, [], []⟩, ⟨9, [9], [9]⟩, ⟨10, [9, 10, 3], [3, 10]⟩, ⟨11, [2], []⟩, ⟨12, [2], [2]⟩] : List Foot)) (And.intro h9 (And.intro (decide_eq_true h10) (And.intro (Eq.refl ([⟨0, [2], []⟩, ⟨1, [2], []⟩, ⟨2, [7], []⟩, ⟨3, [8], []⟩, ⟨4, [], []⟩, ⟨5, [], []⟩, ⟨6, [], []⟩, ⟨7, [], []⟩, ⟨8, [], []⟩, ⟨9, [11], [11]⟩, ⟨10, [11, 12, 10], [10, 12]⟩, ⟨11, [2], []⟩, ⟨12, [2], [2]⟩] : List Foot)) (And.intro (F56_ok (m + 2) (z1142) (z1207) z1213 h11) True.intro)))))))))))))))))))))) n).trans hs, hr⟩
                      · skip
                        cases h
                  · skip
                    cases h
              · skip
                obtain ⟨r7, h7, h⟩ := Option.bind_eq_some_iff.mp h
                have h7 := F39_ok (m + 0) (z1203) (z1204) (z1205) (z1206) (w64 (z1141 - z1142)) (z1207) r7 h7
                cases r7 with
                | a0 z1214 z1215 =>
                  rcases ite_eq h with ⟨h8, h⟩ | ⟨h8, h⟩
                  · skip
                    obtain ⟨z1216, h9, h⟩ := bnd_eq h
                    obtain ⟨st, hs, hr⟩ := L24v1_0s1_ok m n (z1140) (z1141) (z1216) (z1143) (w64 (z1144 + 1)) (b1145) (l1146) (k1147 + 1) (List.take k1147 l1148 ++ [[i64 z1214, i64 z1215]]) r h
                    exact ⟨st, (round_on (gs := [.t, .a, .an (V.tup [V.agg [i64 z1203, i64 z1204], V.agg [i64 z1205, i64 z1206], i64 z1207]) [], .a, .a, .t, .t, .t, .an (i64 z1208) [], .t, .t, .t, .t, .t, .t, .t, .t, .a, .f, .a, .a, .a, .an (V.agg [i64 z1214, i64 z1215]) [], .a, .t, .a, .ft [⟨0, [2], []⟩, ⟨1, [2], []⟩, ⟨2, [7], []⟩, ⟨3, [8], []⟩, ⟨4, [], []⟩, ⟨5, [], []⟩, ⟨6, [], []⟩, ⟨7, [], []⟩, ⟨8, [], []⟩, ⟨9, [9], [9]⟩, ⟨10, [9, 10, 3], [3, 10]⟩, ⟨11, [2], []⟩, ⟨12, [2], [2]⟩], .an (i64 z1216) []]) (notIn []) (by kernel_rfl) (And.intro (decide_eq_true h0) (And.intro h1 (And.intro (decide_eq_true h2) (And.intro (decide_eq_true h2) (And.intro (decide_eq_true h2) (And.intro (F56_ok (m + 2) (z1142) (z1207) z1208 h3) (And.intro (decide_eq_true h2) (And.intro (decide_eq_true h2) (And.intro (decide_eq_true h2) (And.intro (decide_eq_true h4) (And.intro (decide_eq_true h4) (And.intro (decide_eq_true h4) (And.intro (decide_eq_true h4) (And.intro (decide_eq_true h5) (And.intro (Bool.eq_false_iff.mpr h6) (And.intro h7 (And.intro (decide_eq_true h8) (And.intro (Eq.refl ([⟨0, [2], []⟩, ⟨1, [2], []⟩, ⟨2, [7], []⟩, ⟨3, [8], []⟩, ⟨4, [], []⟩, ⟨5, [], []⟩, ⟨6, [], []⟩, ⟨7, [], []⟩, ⟨8, [], []⟩, ⟨9, [9], [9]⟩, ⟨10, [9, 10, 3], [3, 10]⟩, ⟨11, [2], []⟩, ⟨12, [2], [2]⟩] : List Foot)) (And.intro (F56_ok (m + 2) (z1142) (z1207) z1216 h9) True.intro))))))))))))))))))) n).trans hs, hr⟩
                  · skip
                    cases h
            · skip
              obtain ⟨z1217, h6, h⟩ := bnd_eq h
              obtain ⟨st, hs, hr⟩ := L24v1_0s1_ok m n (z1140) (z1141) (z1217) (z1143) (w64 (z1144 + 1)) (b1145) (l1146) (k1147) (l1148) r h
              exact ⟨st, (round_on (gs := [.t, .a, .an (V.tup [V.agg [i64 z1203, i64 z1204], V.agg [i64 z1205, i64 z1206], i64 z1207]) [], .a, .a, .t, .t, .t, .an (i64 z1208) [], .t, .t, .t, .t, .t, .t, .t, .f, .an (i64 z1217) []]) (notIn []) (by kernel_rfl) (And.intro (decide_eq_true h0) (And.intro h1 (And.intro (decide_eq_true h2) (And.intro (decide_eq_true h2) (And.intro (decide_eq_true h2) (And.intro (F56_ok (m + 2) (z1142) (z1207) z1208 h3) (And.intro (decide_eq_true h2) (And.intro (decide_eq_true h2) (And.intro (decide_eq_true h2) (And.intro (decide_eq_true h4) (And.intro (decide_eq_true h4) (And.intro (decide_eq_true h4) (And.intro (decide_eq_true h4) (And.intro (decide_eq_false h5) (And.intro (F56_ok (m + 2) (z1142) (z1207) z1217 h6) True.intro))))))))))))))) n).trans hs, hr⟩
          · skip
            obtain ⟨z1218, h5, h⟩ := bnd_eq h
            obtain ⟨st, hs, hr⟩ := L24v1_0s1_ok m n (z1140) (z1141) (z1218) (z1143) (w64 (z1144 + 1)) (b1145) (l1146) (k1147) (l1148) r h
            exact ⟨st, (round_on (gs := [.t, .a, .an (V.tup [V.agg [i64 z1203, i64 z1204], V.agg [i64 z1205, i64 z1206], i64 z1207]) [], .a, .a, .t, .t, .t, .an (i64 z1208) [], .t, .t, .t, .f, .f, .f, .f, .a, .an (i64 z1218) []]) (notIn []) (by kernel_rfl) (And.intro (decide_eq_true h0) (And.intro h1 (And.intro (decide_eq_true h2) (And.intro (decide_eq_true h2) (And.intro (decide_eq_true h2) (And.intro (F56_ok (m + 2) (z1142) (z1207) z1208 h3) (And.intro (decide_eq_true h2) (And.intro (decide_eq_true h2) (And.intro (decide_eq_true h2) (And.intro (decide_eq_false h4) (And.intro (decide_eq_false h4) (And.intro (decide_eq_false h4) (And.intro (decide_eq_false h4) (And.intro (F56_ok (m + 2) (z1142) (z1207) z1218 h5) True.intro)))))))))))))) n).trans hs, hr⟩
        · skip
          obtain ⟨z1219, h3, h⟩ := bnd_eq h
          obtain ⟨st, hs, hr⟩ := L24v1_0s1_ok m n (z1140) (z1141) (z1219) (z1143) (w64 (z1144 + 1)) (b1145) (l1146) (k1147) (l1148) r h
          exact ⟨st, (round_on (gs := [.t, .a, .an (V.tup [V.agg [i64 z1203, i64 z1204], V.agg [i64 z1205, i64 z1206], i64 z1207]) [], .a, .a, .f, .f, .f, .f, .f, .f, .a, .a, .a, .a, .a, .an (i64 z1219) []]) (notIn []) (by kernel_rfl) (And.intro (decide_eq_true h0) (And.intro h1 (And.intro (decide_eq_false h2) (And.intro (decide_eq_false h2) (And.intro (decide_eq_false h2) (And.intro (decide_eq_false h2) (And.intro (decide_eq_false h2) (And.intro (decide_eq_false h2) (And.intro (F56_ok (m + 2) (z1142) (z1207) z1219 h3) True.intro))))))))) n).trans hs, hr⟩
    · skip
      cases h
      exact ⟨_, round_out (gs := [.f]) (notIn []) (by kernel_rfl) rfl (And.intro (decide_eq_false h0) True.intro) n, z1140, z1141, z1142, z1143, z1144, decide (z1144 < z1143), b1145, l1146, rfl⟩
def L24v1_0 : Nat → Int → Int → Int → Int → Int → Bool → List (List V) → Option R24v1_0
  | 0, _, _, _, _, _, _, _ => none
  | n + 1, z1116, z1117, z1118, z1119, z1120, b1121, l1122 =>
    if z1120 < z1119 then
     (F55v1 (b1121) (l1122) (z1120)).bind fun r => match r with
     | .a0 z1181 z1182 z1183 z1184 z1185 =>
      if z1185 > 0 then
       bnd (F56 (z1118) (z1185)) fun z1186 =>
       if z1186 > z1116 then
        if z1118 < z1117 then
         (F39 (z1181) (z1182) (z1183) (z1184) (w64 (z1116 - z1118)) (z1185)).bind fun r => match r with
         | .a0 z1187 z1188 =>
          (F39 (z1181) (z1182) (z1183) (z1184) (w64 (z1117 - z1118)) (z1185)).bind fun r => match r with
          | .a0 z1189 z1190 =>
           bnd (F56 (z1118) (z1185)) fun z1191 =>
           L24v1_0s1 n (z1116) (z1117) (z1191) (z1119) (w64 (z1120 + 1)) (b1121) (l1122) (2) ([[i64 z1187, i64 z1188], [i64 z1189, i64 z1190]])
        else
         bnd (F56 (z1118) (z1185)) fun z1192 =>
         L24v1_0 n (z1116) (z1117) (z1192) (z1119) (w64 (z1120 + 1)) (b1121) (l1122)
       else
        bnd (F56 (z1118) (z1185)) fun z1193 =>
        L24v1_0 n (z1116) (z1117) (z1193) (z1119) (w64 (z1120 + 1)) (b1121) (l1122)
      else
       bnd (F56 (z1118) (z1185)) fun z1194 =>
       L24v1_0 n (z1116) (z1117) (z1194) (z1119) (w64 (z1120 + 1)) (b1121) (l1122)
    else
     some (R24v1_0.e0)
theorem L24v1_0_ok (m : Nat) : ∀ (n : Nat) (z1116 : Int) (z1117 : Int) (z1118 : Int) (z1119 : Int) (z1120 : Int) (b1121 : Bool) (l1122 : List (List V)) (r : R24v1_0), L24v1_0 n z1116 z1117 z1118 z1119 z1120 b1121 l1122 = some r → ∃ st, loopFrom Try.prog X (call Try.prog X O0 100000 (m + 5)) 24 (0) 100000 B24v1 0 n ({ T := U :: i64 z1116 :: i64 z1117 :: V.ptr 0 0 0 :: U :: U :: V.ptr 1 0 0 :: V.ptr 2 0 0 :: i64 z1118 :: un 13 (i64 z1119 :: i64 z1120 :: un 56 []), σ := [Ob.cells true false 2 [[vb b1121, V.list 2 l1122]], Ob.cells true false 2 [[vb false, V.nilS]], Ob.cells true false 2 [[vb false, V.nilS]]] }) = some st ∧ r.St st
  | 0, _, _, _, _, _, _, _, r, h => by cases h
  | n + 1, z1116, z1117, z1118, z1119, z1120, b1121, l1122, r, h => by
    rw [L24v1_0] at h
    rcases ite_eq h with ⟨h0, h⟩ | ⟨h0, h⟩
    · skip
      obtain ⟨r1, h1, h⟩ := Option.bind_eq_some_iff.mp h
      have h1 := F55v1_ok (m + 1) (b1121) (l1122) (z1120) r1 h1
      cases r1 with
      | a0 z1181 z1182 z1183 z1184 z1185 =>
        rcases ite_eq h with ⟨h2, h⟩ | ⟨h2, h⟩
        · skip
          obtain ⟨z1186, h3, h⟩ := bnd_eq h
          rcases ite_eq h with ⟨h4, h⟩ | ⟨h4, h⟩
          · skip
            rcases ite_eq h with ⟨h5, h⟩ | ⟨h5, h⟩
            · skip
              obtain ⟨r6, h6, h⟩ := Option.bind_eq_some_iff.mp h
              have h6 := F39_ok (m + 0) (z1181) (z1182) (z1183) (z1184) (w64 (z1116 - z1118)) (z1185) r6 h6
              cases r6 with
              | a0 z1187 z1188 =>
                obtain ⟨r7, h7, h⟩ := Option.bind_eq_some_iff.mp h
                have h7 := F39_ok (m + 0) (z1181) (z1182) (z1183) (z1184) (w64 (z1117 - z1118)) (z1185) r7 h7
                cases r7 with
                | a0 z1189 z1190 =>
                  obtain ⟨z1191, h8, h⟩ := bnd_eq h
                  obtain ⟨st, hs, hr⟩ := L24v1_0s1_ok m n (z1116) (z1117) (z1191) (z1119) (w64 (z1120 + 1)) (b1121) (l1122) (2) ([[i64 z1187, i64 z1188], [i64 z1189, i64 z1190]]) r h
                  exact ⟨st, (round_on (gs := [.t, .a, .an (V.tup [V.agg [i64 z1181, i64 z1182], V.agg [i64 z1183, i64 z1184], i64 z1185]) [], .a, .a, .t, .t, .t, .an (i64 z1186) [], .t, .t, .t, .t, .t, .t, .t, .t, .a, .a, .a, .a, .a, .an (V.agg [i64 z1187, i64 z1188]) [], .a, .a, .a, .ft [⟨0, [2], []⟩, ⟨1, [2], []⟩, ⟨2, [6], []⟩, ⟨3, [7], []⟩, ⟨4, [], []⟩, ⟨5, [], []⟩, ⟨6, [], []⟩, ⟨7, [], []⟩, ⟨8, [], []⟩, ⟨9, [8], [8]⟩, ⟨10, [8, 9], [9]⟩, ⟨11, [2], []⟩, ⟨12, [2], [2]⟩], .a, .a, .a, .an (V.agg [i64 z1189, i64 z1190]) [], .a, .a, .a, .ft [⟨0, [2], []⟩, ⟨1, [2], []⟩, ⟨2, [6], []⟩, ⟨3, [7], []⟩, ⟨4, [], []⟩, ⟨5, [], []⟩, ⟨6, [], []⟩, ⟨7, [], []⟩, ⟨8, [], []⟩, ⟨9, [10], [10]⟩, ⟨10, [10, 11, 9], [9, 11]⟩, ⟨11, [2], []⟩, ⟨12, [2], [2]⟩], .an (i64 z1191) []]) (notIn []) (by kernel_rfl) (And.intro (decide_eq_true h0) (And.intro h1 (And.intro (decide_eq_true h2) (And.intro (decide_eq_true h2) (And.intro (decide_eq_true h2) (And.intro (F56_ok (m + 2) (z1118) (z1185) z1186 h3) (And.intro (decide_eq_true h2) (And.intro (decide_eq_true h2) (And.intro (decide_eq_true h2) (And.intro (decide_eq_true h4) (And.intro (decide_eq_true h4) (And.intro (decide_eq_true h4) (And.intro (decide_eq_true h4) (And.intro (decide_eq_true h5) (And.intro h6 (And.intro (Eq.refl ([⟨0, [2], []⟩, ⟨1, [2], []⟩, ⟨2, [6], []⟩, ⟨3, [7], []⟩, ⟨4, [], []⟩, ⟨5, [], []⟩, ⟨6, [], []⟩, ⟨7, [], []⟩, ⟨8, [], []⟩, ⟨9, [8], [8]⟩, ⟨10, [8, 9], [9]⟩, ⟨11, [2], []⟩, ⟨12, [2], [2]⟩] : List Foot)) (And.intro h7 (And.intro (Eq.refl ([⟨0, [2], []⟩, ⟨1, [2], []⟩, ⟨2, [6], []⟩, ⟨3, [7], []⟩, ⟨4, [], []⟩, ⟨5, [], []⟩, ⟨6, [], []⟩, ⟨7, [], []⟩, ⟨8, [], []⟩, ⟨9, [10], [10]⟩, ⟨10, [10, 11, 9], [9, 11]⟩, ⟨11, [2], []⟩, ⟨12, [2], [2]⟩] : List Foot)) (And.intro (F56_ok (m + 2) (z1118) (z1185) z1191 h8) True.intro))))))))))))))))))) n).trans hs, hr⟩
            · skip
              obtain ⟨z1192, h6, h⟩ := bnd_eq h
              obtain ⟨st, hs, hr⟩ := L24v1_0_ok m n (z1116) (z1117) (z1192) (z1119) (w64 (z1120 + 1)) (b1121) (l1122) r h
              exact ⟨st, (round_on (gs := [.t, .a, .an (V.tup [V.agg [i64 z1181, i64 z1182], V.agg [i64 z1183, i64 z1184], i64 z1185]) [], .a, .a, .t, .t, .t, .an (i64 z1186) [], .t, .t, .t, .t, .t, .t, .t, .f, .an (i64 z1192) []]) (notIn []) (by kernel_rfl) (And.intro (decide_eq_true h0) (And.intro h1 (And.intro (decide_eq_true h2) (And.intro (decide_eq_true h2) (And.intro (decide_eq_true h2) (And.intro (F56_ok (m + 2) (z1118) (z1185) z1186 h3) (And.intro (decide_eq_true h2) (And.intro (decide_eq_true h2) (And.intro (decide_eq_true h2) (And.intro (decide_eq_true h4) (And.intro (decide_eq_true h4) (And.intro (decide_eq_true h4) (And.intro (decide_eq_true h4) (And.intro (decide_eq_false h5) (And.intro (F56_ok (m + 2) (z1118) (z1185) z1192 h6) True.intro))))))))))))))) n).trans hs, hr⟩
          · skip
            obtain ⟨z1193, h5, h⟩ := bnd_eq h
            obtain ⟨st, hs, hr⟩ := L24v1_0_ok m n (z1116) (z1117) (z1193) (z1119) (w64 (z1120 + 1)) (b1121) (l1122) r h
            exact ⟨st, (round_on (gs := [.t, .a, .an (V.tup [V.agg [i64 z1181, i64 z1182], V.agg [i64 z1183, i64 z1184], i64 z1185]) [], .a, .a, .t, .t, .t, .an (i64 z1186) [], .t, .t, .t, .f, .f, .f, .f, .a, .an (i64 z1193) []]) (notIn []) (by kernel_rfl) (And.intro (decide_eq_true h0) (And.intro h1 (And.intro (decide_eq_true h2) (And.intro (decide_eq_true h2) (And.intro (decide_eq_true h2) (And.intro (F56_ok (m + 2) (z1118) (z1185) z1186 h3) (And.intro (decide_eq_true h2) (And.intro (decide_eq_true h2) (And.intro (decide_eq_true h2) (And.intro (decide_eq_false h4) (And.intro (decide_eq_false h4) (And.intro (decide_eq_false h4) (And.intro (decide_eq_false h4) (And.intro (F56_ok (m + 2) (z1118) (z1185) z1193 h5) True.intro)))))))))))))) n).trans hs, hr⟩
        · skip
          obtain ⟨z1194, h3, h⟩ := bnd_eq h
          obtain ⟨st, hs, hr⟩ := L24v1_0_ok m n (z1116) (z1117) (z1194) (z1119) (w64 (z1120 + 1)) (b1121) (l1122) r h
          exact ⟨st, (round_on (gs := [.t, .a, .an (V.tup [V.agg [i64 z1181, i64 z1182], V.agg [i64 z1183, i64 z1184], i64 z1185]) [], .a, .a, .f, .f, .f, .f, .f, .f, .a, .a, .a, .a, .a, .an (i64 z1194) []]) (notIn []) (by kernel_rfl) (And.intro (decide_eq_true h0) (And.intro h1 (And.intro (decide_eq_false h2) (And.intro (decide_eq_false h2) (And.intro (decide_eq_false h2) (And.intro (decide_eq_false h2) (And.intro (decide_eq_false h2) (And.intro (decide_eq_false h2) (And.intro (F56_ok (m + 2) (z1118) (z1185) z1194 h3) True.intro))))))))) n).trans hs, hr⟩
    · skip
      cases h
      exact ⟨_, round_out (gs := [.f]) (notIn []) (by kernel_rfl) rfl (And.intro (decide_eq_false h0) True.intro) n, z1116, z1117, z1118, z1119, z1120, decide (z1120 < z1119), b1121, l1122, rfl⟩
inductive A24v1 where
  | a0 (b1179 : Bool)
  | a1 (b1248 : Bool) (k1249 : Nat) (l1250 : List (List V))
@[reducible] def A24v1.out : A24v1 → V × Store
  | .a0 b1179 => (V.agg [vb b1179, V.nilS], [])
  | .a1 b1248 k1249 l1250 => (V.agg [vb b1248, V.hs 0 0 k1249], [Ob.cells true true 2 l1250])
def F24v1 (b1022 : Bool) (l1023 : List (List V)) (z1024 : Int) (z1025 : Int) : Option A24v1 :=
  bnd (F57 (z1024)) fun z1177 =>
  bnd (F57 (z1025)) fun z1178 =>
  if z1177 ≥ z1178 then
   some (A24v1.a0 (false))
  else
   bnd (F26v1 (b1022) (l1023)) fun z1180 =>
   (L24v1_0 100000 (z1177) (z1178) (0) (z1180) (0) (b1022) (l1023)).bind fun r => match r with
   | .e0 =>
    some (A24v1.a0 (false))
   | .e1 k1246 l1247 =>
    some (A24v1.a1 (false) (k1246) (l1247))
theorem F24v1_ok (m : Nat) (b1022 : Bool) (l1023 : List (List V)) (z1024 : Int) (z1025 : Int) (r : A24v1) (h : F24v1 b1022 l1023 z1024 z1025 = some r) : call Try.prog X O0 100000 (m + 6) 24 ([V.agg [vb b1022, V.list 2 l1023], i64 z1024, i64 z1025]) ([]) = some r.out := by
  unfold F24v1 at h
  obtain ⟨z1177, h0, h⟩ := bnd_eq h
  obtain ⟨z1178, h1, h⟩ := bnd_eq h
  rcases ite_eq h with ⟨h2, h⟩ | ⟨h2, h⟩
  · skip
    cases h
    exact call_pathL (gs := [.an (i64 z1177) [], .an (i64 z1178) [], .t, .a, .a]) (notIn []) rfl rfl (by kernel_rfl) (And.intro (F57_ok (m + 3) (z1024) z1177 h0) (And.intro (F57_ok (m + 3) (z1025) z1178 h1) (And.intro (decide_eq_true h2) True.intro)))
  · skip
    obtain ⟨z1180, h3, h⟩ := bnd_eq h
    obtain ⟨r4, h4, h⟩ := Option.bind_eq_some_iff.mp h
    obtain ⟨st4, h4, hr4⟩ := L24v1_0_ok m 100000 (z1177) (z1178) (0) (z1180) (0) (b1022) (l1023) r4 h4
    have h4 : loopRun Try.prog X (call Try.prog X O0 100000 (m + 5)) 24 (0) 100000 B24v1 0 ({ T := V.agg [vb b1022, V.list 2 l1023] :: i64 z1177 :: i64 z1178 :: V.ptr 0 0 0 :: U :: U :: V.ptr 1 0 0 :: V.ptr 2 0 0 :: i64 0 :: un 4 (i64 z1024 :: i64 z1177 :: i64 z1025 :: i64 z1178 :: i64 z1177 :: i64 z1178 :: vb (decide (z1177 ≥ z1178)) :: U :: V.agg [vb b1022, V.list 2 l1023] :: i64 z1180 :: i64 0 :: un 56 []), σ := [Ob.cells true false 2 [[vb b1022, V.list 2 l1023]], Ob.cells true false 2 [[vb false, V.nilS]], Ob.cells true false 2 [[vb false, V.nilS]]] }) = some st4 := by
      rw [loopRun_from, show prep (0) (X.keep 24 0) ({ T := V.agg [vb b1022, V.list 2 l1023] :: i64 z1177 :: i64 z1178 :: V.ptr 0 0 0 :: U :: U :: V.ptr 1 0 0 :: V.ptr 2 0 0 :: i64 0 :: un 4 (i64 z1024 :: i64 z1177 :: i64 z1025 :: i64 z1178 :: i64 z1177 :: i64 z1178 :: vb (decide (z1177 ≥ z1178)) :: U :: V.agg [vb b1022, V.list 2 l1023] :: i64 z1180 :: i64 0 :: un 56 []), σ := [Ob.cells true false 2 [[vb b1022, V.list 2 l1023]], Ob.cells true false 2 [[vb false, V.nilS]], Ob.cells true false 2 [[vb false, V.nilS]]] }) = { T := U :: i64 z1177 :: i64 z1178 :: V.ptr 0 0 0 :: U :: U :: V.ptr 1 0 0 :: V.ptr 2 0 0 :: i64 0 :: un 13 (i64 z1180 :: i64 0 :: un 56 []), σ := [Ob.cells true false 2 [[vb b1022, V.list 2 l1023]], Ob.cells true false 2 [[vb false, V.nilS]], Ob.cells true false 2 [[vb false, V.nilS]]] } by kernel_rfl]
      exact h4
    cases r4 with
    | e0 =>
      obtain ⟨z1230, z1231, z1232, z1233, z1234, b1235, b1236, l1237, rfl⟩ := hr4
      cases h
      exact call_pathL (gs := [.an (i64 z1177) [], .an (i64 z1178) [], .f, .a, .an (i64 z1180) [], .lp (VX.exit 0) (s24v1_0_0 z1230 z1231 z1232 z1233 z1234 b1235 b1236 l1237), .a, .a]) (notIn []) rfl rfl (by kernel_rfl) (And.intro (F57_ok (m + 3) (z1024) z1177 h0) (And.intro (F57_ok (m + 3) (z1025) z1178 h1) (And.intro (decide_eq_false h2) (And.intro (F26v1_ok (m + 4) (b1022) (l1023) z1180 h3) (And.intro h4 True.intro)))))
    | e1 k1246 l1247 =>
      obtain ⟨z1238, z1239, z1240, z1241, z1242, b1243, b1244, l1245, rfl⟩ := hr4
      cases h
      exact call_pathL (gs := [.an (i64 z1177) [], .an (i64 z1178) [], .f, .a, .an (i64 z1180) [], .lp (VX.exit 0) (s24v1_0_1 z1238 z1239 z1240 z1241 z1242 b1243 b1244 l1245 k1246 l1247), .a, .a]) (notIn []) rfl rfl (by kernel_rfl) (And.intro (F57_ok (m + 3) (z1024) z1177 h0) (And.intro (F57_ok (m + 3) (z1025) z1178 h1) (And.intro (decide_eq_false h2) (And.intro (F26v1_ok (m + 4) (b1022) (l1023) z1180 h3) (And.intro h4 True.intro)))))
/-! ## 95 -/
inductive A95 where
  | a0 (z1291 : Int) (b1292 : Bool)
@[reducible] def A95.out : A95 → V × Store
  | .a0 z1291 b1292 => (V.tup [V.int IntKind.u64 z1291, vb b1292], [])
def F95 (z1289 : Int) : Option A95 :=
  if z1289 < 0 then
   some (A95.a0 (IntKind.wrap IntKind.u64 (w64 (0 - z1289))) (true))
  else
   some (A95.a0 (IntKind.wrap IntKind.u64 z1289) (false))
theorem F95_ok (m : Nat) (z1289 : Int) (r : A95) (h : F95 z1289 = some r) : call Try.prog X O0 100000 (m + 1) 95 ([i64 z1289]) ([]) = some r.out := by
  unfold F95 at h
  rcases ite_eq h with ⟨h0, h⟩ | ⟨h0, h⟩
  · skip
    cases h
    exact call_pathL (gs := [.t]) (notIn []) rfl rfl (by kernel_rfl) (And.intro (decide_eq_true h0) True.intro)
  · skip
    cases h
    exact call_pathL (gs := [.f]) (notIn []) rfl rfl (by kernel_rfl) (And.intro (decide_eq_false h0) True.intro)
/-! ## 123 -/
inductive A123 where
@[reducible] def A123.out : A123 → V × Store
  := fun x => nomatch x
def F123 (z1315 : Int) : Option A123 :=
  if z1315 ≥ 4294967296 then
   if Int.fdiv z1315 4294967296 ≥ 65536 then
    if Int.fdiv (Int.fdiv z1315 4294967296) 65536 ≥ 256 then
     none -- none
    else
     none -- none
   else
    if Int.fdiv z1315 4294967296 ≥ 256 then
     none -- none
    else
     none -- none
  else
   if z1315 ≥ 65536 then
    if Int.fdiv z1315 65536 ≥ 256 then
     none -- none
    else
     none -- none
   else
    if z1315 ≥ 256 then
     none -- none
    else
     none -- none
theorem F123_ok (m : Nat) (z1315 : Int) (r : A123) (h : F123 z1315 = some r) : call Try.prog X O0 100000 (m + 1) 123 ([V.int IntKind.u64 z1315]) ([]) = some r.out := by
  unfold F123 at h
  rcases ite_eq h with ⟨h0, h⟩ | ⟨h0, h⟩
  · skip
    rcases ite_eq h with ⟨h1, h⟩ | ⟨h1, h⟩
    · skip
      rcases ite_eq h with ⟨h2, h⟩ | ⟨h2, h⟩
      · skip
        cases h
      · skip
        cases h
    · skip
      rcases ite_eq h with ⟨h2, h⟩ | ⟨h2, h⟩
      · skip
        cases h
      · skip
        cases h
  · skip
    rcases ite_eq h with ⟨h1, h⟩ | ⟨h1, h⟩
    · skip
      rcases ite_eq h with ⟨h2, h⟩ | ⟨h2, h⟩
      · skip
        cases h
      · skip
        cases h
    · skip
      rcases ite_eq h with ⟨h2, h⟩ | ⟨h2, h⟩
      · skip
        cases h
      · skip
        cases h
/-! ## 119 -/
inductive A119 where
@[reducible] def A119.out : A119 → V × Store
  := fun x => nomatch x
def F119 (z1313 : Int) : Option A119 :=
  none -- F123 has no answer
theorem F119_ok (m : Nat) (z1313 : Int) (r : A119) (h : F119 z1313 = some r) : call Try.prog X O0 100000 (m + 2) 119 ([V.int IntKind.u64 z1313]) ([]) = some r.out := by
  unfold F119 at h
  cases h
/-! ## 113 -/
inductive A113 where
  | a0 (z1311 : Int) (z1312 : Int)
@[reducible] def A113.out : A113 → V × Store
  | .a0 z1311 z1312 => (V.tup [V.int IntKind.u64 z1311, V.int IntKind.u64 z1312], [])
def F113 (z1307 : Int) (z1308 : Int) (z1309 : Int) : Option A113 :=
  if (z1309 == 0) = true then
   none -- none
  else
   if z1309 ≤ z1307 then
    none -- none
   else
    if (z1307 == 0) = true then
     if z1309 = 0 then
      none -- none
     else
      some (A113.a0 (IntKind.wrap IntKind.u64 (Int.tdiv z1308 z1309)) (Int.tmod z1308 z1309))
    else
     none -- F119 has no answer
theorem F113_ok (m : Nat) (z1307 : Int) (z1308 : Int) (z1309 : Int) (r : A113) (h : F113 z1307 z1308 z1309 = some r) : call Try.prog X O0 100000 (m + 3) 113 ([V.int IntKind.u64 z1307, V.int IntKind.u64 z1308, V.int IntKind.u64 z1309]) ([]) = some r.out := by
  unfold F113 at h
  rcases ite_eq h with ⟨h0, h⟩ | ⟨h0, h⟩
  · skip
    cases h
  · skip
    rcases ite_eq h with ⟨h1, h⟩ | ⟨h1, h⟩
    · skip
      cases h
    · skip
      rcases ite_eq h with ⟨h2, h⟩ | ⟨h2, h⟩
      · skip
        rcases ite_eq h with ⟨h3, h⟩ | ⟨h3, h⟩
        · skip
          cases h
        · skip
          cases h
          exact call_pathL (gs := [.f, .f, .t, .f, .f, .ft [⟨0, [], []⟩, ⟨1, [], []⟩, ⟨2, [], []⟩, ⟨3, [], []⟩, ⟨4, [], []⟩, ⟨5, [], []⟩, ⟨6, [], []⟩, ⟨7, [], []⟩]]) (notIn []) rfl rfl (by kernel_rfl) (And.intro (Bool.eq_false_iff.mpr h0) (And.intro (decide_eq_false h1) (And.intro h2 (And.intro (decide_eq_false h3) (And.intro (decide_eq_false h3) (And.intro (Eq.refl ([⟨0, [], []⟩, ⟨1, [], []⟩, ⟨2, [], []⟩, ⟨3, [], []⟩, ⟨4, [], []⟩, ⟨5, [], []⟩, ⟨6, [], []⟩, ⟨7, [], []⟩] : List Foot)) True.intro))))))
      · skip
        cases h
end Go.Proofs.Ythohhdcngdmbeaa.H
