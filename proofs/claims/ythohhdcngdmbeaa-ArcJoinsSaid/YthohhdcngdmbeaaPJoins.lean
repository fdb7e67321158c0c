/- What the functions compute, and that they do so over the machine of plain values (printed by this session's program wip/vm/Walk.lean). No condition beyond those stated. -/
import Derived.Test.YthohhdcngdmbeaaWk
import Derived.Test.YthohhdcngdmbeaaRowsR2
set_option linter.unusedVariables false
set_option linter.unusedSimpArgs false
namespace Go.Proofs.Ythohhdcngdmbeaa.H
open Go Go.VM
set_option maxRecDepth 100000
/-! ## 17 -/
inductive A17 where
  | a0 (z18 : Int)
@[reducible] def A17.out : A17 → V × Store
  | .a0 z18 => (i64 z18, [])
def F17 (z14 : Int) (z15 : Int) (z16 : Int) : Option A17 :=
  if z14 ≥ z15 then
   if z14 ≤ z16 then
    some (A17.a0 (z14))
   else
    if w64 (w64 (z16 - z15) + 1) = 0 then
     none -- none
    else
     if Int.tmod z14 (w64 (w64 (z16 - z15) + 1)) < 0 then
      some (A17.a0 (w64 (z15 + w64 (w64 (w64 (Int.tmod z14 (w64 (w64 (z16 - z15) + 1)) + z16) - z15) + 1))))
     else
      some (A17.a0 (w64 (z15 + Int.tmod z14 (w64 (w64 (z16 - z15) + 1)))))
  else
   if w64 (w64 (z16 - z15) + 1) = 0 then
    none -- none
   else
    if Int.tmod z14 (w64 (w64 (z16 - z15) + 1)) < 0 then
     some (A17.a0 (w64 (z15 + w64 (w64 (w64 (Int.tmod z14 (w64 (w64 (z16 - z15) + 1)) + z16) - z15) + 1))))
    else
     some (A17.a0 (w64 (z15 + Int.tmod z14 (w64 (w64 (z16 - z15) + 1)))))
theorem F17_ok (m : Nat) (z14 : Int) (z15 : Int) (z16 : Int) (r : A17) (h : F17 z14 z15 z16 = some r) : call Try.prog X O0 100000 (m + 1) 17 ([i64 z14, i64 z15, i64 z16]) ([]) = some r.out := by
  unfold F17 at h
  rcases ite_eq h with ⟨h0, h⟩ | ⟨h0, h⟩
  · skip
    rcases ite_eq h with ⟨h1, h⟩ | ⟨h1, h⟩
    · skip
      cases h
      exact call_pathL (gs := [.t, .t, .t, .t, .t]) (notIn []) rfl rfl (by kernel_rfl) (And.intro (decide_eq_true h0) (And.intro (decide_eq_true h0) (And.intro (decide_eq_true h0) (And.intro (decide_eq_true h0) (And.intro (decide_eq_true h1) True.intro)))))
    · skip
      rcases ite_eq h with ⟨h2, h⟩ | ⟨h2, h⟩
      · skip
        cases h
      · skip
        rcases ite_eq h with ⟨h3, h⟩ | ⟨h3, h⟩
        · skip
          cases h
          exact call_pathL (gs := [.t, .t, .t, .t, .f, .f, .t]) (notIn []) rfl rfl (by kernel_rfl) (And.intro (decide_eq_true h0) (And.intro (decide_eq_true h0) (And.intro (decide_eq_true h0) (And.intro (decide_eq_true h0) (And.intro (decide_eq_false h1) (And.intro (decide_eq_false h2) (And.intro (decide_eq_true h3) True.intro)))))))
        · skip
          cases h
          exact call_pathL (gs := [.t, .t, .t, .t, .f, .f, .f]) (notIn []) rfl rfl (by kernel_rfl) (And.intro (decide_eq_true h0) (And.intro (decide_eq_true h0) (And.intro (decide_eq_true h0) (And.intro (decide_eq_true h0) (And.intro (decide_eq_false h1) (And.intro (decide_eq_false h2) (And.intro (decide_eq_false h3) True.intro)))))))
  · skip
    rcases ite_eq h with ⟨h1, h⟩ | ⟨h1, h⟩
    · skip
      cases h
    · skip
      rcases ite_eq h with ⟨h2, h⟩ | ⟨h2, h⟩
      · skip
        cases h
        exact call_pathL (gs := [.f, .f, .f, .f, .a, .f, .t]) (notIn []) rfl rfl (by kernel_rfl) (And.intro (decide_eq_false h0) (And.intro (decide_eq_false h0) (And.intro (decide_eq_false h0) (And.intro (decide_eq_false h0) (And.intro (decide_eq_false h1) (And.intro (decide_eq_true h2) True.intro))))))
      · skip
        cases h
        exact call_pathL (gs := [.f, .f, .f, .f, .a, .f, .f]) (notIn []) rfl rfl (by kernel_rfl) (And.intro (decide_eq_false h0) (And.intro (decide_eq_false h0) (And.intro (decide_eq_false h0) (And.intro (decide_eq_false h0) (And.intro (decide_eq_false h1) (And.intro (decide_eq_false h2) True.intro))))))
/-! ## 15 -/
inductive A15 where
  | a0 (z10 : Int) (l11 : List (List V)) (z12 : Int)
@[reducible] def A15.out : A15 → V × Store
  | .a0 z10 l11 z12 => (i64 z10, [Ob.cells true false 2 [[V.list 1 l11, i64 z12]]])
def F15 (z6 : Int) (l7 : List (List V)) (z8 : Int) : Option A15 :=
  if z8 ≥ (↑(List.length l7) : Int) then
   some (A15.a0 (0) (l7) (z8))
  else
   if 0 ≤ w64 (w64 (z8 + 1) - 1) then
    ((l7[Int.toNat (w64 (w64 (z8 + (1 : Int)) - (1 : Int)))]?).bind W3.dec).bind fun e13 =>
    (F17 (e13.c0) (0) (1073741824)).bind fun r => match r with
    | .a0 z19 =>
     if z6 = 0 then
      none -- none
     else
      some (A15.a0 (Int.tmod z19 z6) (l7) (w64 (z8 + 1)))
   else
    none -- none
theorem F15_ok (m : Nat) (z6 : Int) (l7 : List (List V)) (z8 : Int) (r : A15) (h : F15 z6 l7 z8 = some r) : call Try.prog X O0 100000 (m + 2) 15 ([V.ptr 0 0 0, i64 z6]) ([Ob.cells true false 2 [[V.list 1 l7, i64 z8]]]) = some r.out := by
  unfold F15 at h
  rcases ite_eq h with ⟨h0, h⟩ | ⟨h0, h⟩
  · skip
    cases h
    exact call_pathL (gs := [.a, .a, .ft [⟨0, [], []⟩, ⟨1, [0], []⟩, ⟨2, [0], []⟩, ⟨3, [0], []⟩, ⟨4, [], []⟩, ⟨5, [0], []⟩, ⟨6, [0], []⟩, ⟨7, [0], []⟩, ⟨8, [], []⟩, ⟨9, [], []⟩], .t]) (notIn []) rfl rfl (by kernel_rfl) (And.intro (Eq.refl ([⟨0, [], []⟩, ⟨1, [0], []⟩, ⟨2, [0], []⟩, ⟨3, [0], []⟩, ⟨4, [], []⟩, ⟨5, [0], []⟩, ⟨6, [0], []⟩, ⟨7, [0], []⟩, ⟨8, [], []⟩, ⟨9, [], []⟩] : List Foot)) (And.intro (decide_eq_true h0) True.intro))
  · skip
    rcases ite_eq h with ⟨h1, h⟩ | ⟨h1, h⟩
    · skip
      obtain ⟨e13, h2, h⟩ := Option.bind_eq_some_iff.mp h
      obtain ⟨r3, h3, h⟩ := Option.bind_eq_some_iff.mp h
      have h3 := F17_ok (m + 0) (e13.c0) (0) (1073741824) r3 h3
      cases r3 with
      | a0 z19 =>
        rcases ite_eq h with ⟨h4, h⟩ | ⟨h4, h⟩
        · skip
          cases h
        · skip
          cases h
          exact call_pathL (gs := [.a, .a, .ft [⟨0, [], []⟩, ⟨1, [0], []⟩, ⟨2, [0], []⟩, ⟨3, [0], []⟩, ⟨4, [], []⟩, ⟨5, [0], []⟩, ⟨6, [0], []⟩, ⟨7, [0], []⟩, ⟨8, [], []⟩, ⟨9, [], []⟩], .f, .a, .a, .a, .a, .t, .el (W3.cells e13), .an (i64 z19) [], .f, .ft [⟨0, [], []⟩, ⟨1, [0], []⟩, ⟨2, [0], []⟩, ⟨3, [0], []⟩, ⟨4, [], []⟩, ⟨5, [0], []⟩, ⟨6, [0], []⟩, ⟨7, [0], []⟩, ⟨8, [], []⟩, ⟨9, [], []⟩, ⟨10, [], []⟩, ⟨11, [], []⟩, ⟨12, [], []⟩, ⟨13, [], []⟩, ⟨14, [], []⟩]]) (notIn []) rfl rfl (by kernel_rfl) (And.intro (Eq.refl ([⟨0, [], []⟩, ⟨1, [0], []⟩, ⟨2, [0], []⟩, ⟨3, [0], []⟩, ⟨4, [], []⟩, ⟨5, [0], []⟩, ⟨6, [0], []⟩, ⟨7, [0], []⟩, ⟨8, [], []⟩, ⟨9, [], []⟩] : List Foot)) (And.intro (decide_eq_false h0) (And.intro (decide_eq_true h1) (And.intro (W3.dec_ok h2) (And.intro h3 (And.intro (decide_eq_false h4) (And.intro (Eq.refl ([⟨0, [], []⟩, ⟨1, [0], []⟩, ⟨2, [0], []⟩, ⟨3, [0], []⟩, ⟨4, [], []⟩, ⟨5, [0], []⟩, ⟨6, [0], []⟩, ⟨7, [0], []⟩, ⟨8, [], []⟩, ⟨9, [], []⟩, ⟨10, [], []⟩, ⟨11, [], []⟩, ⟨12, [], []⟩, ⟨13, [], []⟩, ⟨14, [], []⟩] : List Foot)) True.intro)))))))
    · skip
      cases h
/-! ## 54 -/
inductive A54 where
  | a0 (z41 : Int) (l42 : List (List V)) (z43 : Int)
@[reducible] def A54.out : A54 → V × Store
  | .a0 z41 l42 z43 => (i64 z41, [Ob.cells true false 2 [[V.list 1 l42, i64 z43]]])
def F54 (z30 : Int) (z31 : Int) (l32 : List (List V)) (z33 : Int) : Option A54 :=
  (F15 (w64 (w64 (z31 - z30) + 1)) (l32) (z33)).bind fun r => match r with
  | .a0 z35 l36 z37 =>
   (F15 (4) (l36) (z37)).bind fun r => match r with
   | .a0 z38 l39 z40 =>
    if (z38 == 0) = true then
     some (A54.a0 (w64 (w64 (w64 (z30 + z35) * 65536) + 32768)) (l39) (z40))
    else
     if (z38 == 1) = true then
      (F15 (65536) (l39) (z40)).bind fun r => match r with
      | .a0 z44 l45 z46 =>
       some (A54.a0 (w64 (w64 (w64 (z30 + z35) * 65536) + z44)) (l45) (z46))
     else
      some (A54.a0 (w64 (w64 (z30 + z35) * 65536)) (l39) (z40))
theorem F54_ok (m : Nat) (z30 : Int) (z31 : Int) (l32 : List (List V)) (z33 : Int) (r : A54) (h : F54 z30 z31 l32 z33 = some r) : call Try.prog X O0 100000 (m + 3) 54 ([V.ptr 0 0 0, i64 z30, i64 z31]) ([Ob.cells true false 2 [[V.list 1 l32, i64 z33]]]) = some r.out := by
  unfold F54 at h
  obtain ⟨r0, h0, h⟩ := Option.bind_eq_some_iff.mp h
  have h0 := F15_ok (m + 0) (w64 (w64 (z31 - z30) + 1)) (l32) (z33) r0 h0
  cases r0 with
  | a0 z35 l36 z37 =>
    obtain ⟨r1, h1, h⟩ := Option.bind_eq_some_iff.mp h
    have h1 := F15_ok (m + 0) (4) (l36) (z37) r1 h1
    cases r1 with
    | a0 z38 l39 z40 =>
      rcases ite_eq h with ⟨h2, h⟩ | ⟨h2, h⟩
      · skip
        cases h
        exact call_pathL (gs := [.an (i64 z35) [Ob.cells true false 2 [[V.list 1 l36, i64 z37]]], .an (i64 z38) [Ob.cells true false 2 [[V.list 1 l39, i64 z40]]], .t]) (notIn []) rfl rfl (by kernel_rfl) (And.intro h0 (And.intro h1 (And.intro h2 True.intro)))
      · skip
        rcases ite_eq h with ⟨h3, h⟩ | ⟨h3, h⟩
        · skip
          obtain ⟨r4, h4, h⟩ := Option.bind_eq_some_iff.mp h
          have h4 := F15_ok (m + 0) (65536) (l39) (z40) r4 h4
          cases r4 with
          | a0 z44 l45 z46 =>
            cases h
            exact call_pathL (gs := [.an (i64 z35) [Ob.cells true false 2 [[V.list 1 l36, i64 z37]]], .an (i64 z38) [Ob.cells true false 2 [[V.list 1 l39, i64 z40]]], .f, .t, .an (i64 z44) [Ob.cells true false 2 [[V.list 1 l45, i64 z46]]]]) (notIn []) rfl rfl (by kernel_rfl) (And.intro h0 (And.intro h1 (And.intro (Bool.eq_false_iff.mpr h2) (And.intro h3 (And.intro h4 True.intro)))))
        · skip
          cases h
          exact call_pathL (gs := [.an (i64 z35) [Ob.cells true false 2 [[V.list 1 l36, i64 z37]]], .an (i64 z38) [Ob.cells true false 2 [[V.list 1 l39, i64 z40]]], .f, .f]) (notIn []) rfl rfl (by kernel_rfl) (And.intro h0 (And.intro h1 (And.intro (Bool.eq_false_iff.mpr h2) (And.intro (Bool.eq_false_iff.mpr h3) True.intro))))
/-! ## 22 -/
noncomputable abbrev B22 : Code := (Try.f22.body).getD .skip
inductive R22_0 where
  | e0 (l125 : List (List V)) (z126 : Int) (b127 : Bool)
  | e1 (l139 : List (List V)) (z140 : Int) (b141 : Bool) (k142 : Nat) (l143 : List (List V))
@[reducible] def s22_0_0 (z123 : Int) (b124 : Bool) (l125 : List (List V)) (z126 : Int) (b127 : Bool) : S := { T := V.ptr 0 0 0 :: U :: V.ptr 1 0 0 :: V.ptr 2 0 0 :: i64 z123 :: un 7 (i64 z123 :: vb b124 :: un 23 []), σ := [Ob.cells true false 2 [[V.list 1 l125, i64 z126]], Ob.cells true false 2 [[vb false, V.nilS]], Ob.cells true false 2 [[vb b127, V.nilS]]] }
@[reducible] def s22_0_1 (z137 : Int) (b138 : Bool) (l139 : List (List V)) (z140 : Int) (b141 : Bool) (k142 : Nat) (l143 : List (List V)) : S := { T := V.ptr 0 0 0 :: U :: V.ptr 1 0 0 :: V.ptr 2 0 0 :: i64 z137 :: un 7 (i64 z137 :: vb b138 :: un 23 []), σ := [Ob.cells true false 2 [[V.list 1 l139, i64 z140]], Ob.cells true false 2 [[vb false, V.nilS]], Ob.cells true false 2 [[vb b141, V.hs 3 0 k142]], Ob.cells true true 2 l143] }
def R22_0.St : R22_0 → VX × S → Prop
  | .e0 l125 z126 b127, p => ∃ z123 : Int, ∃ b124 : Bool, p = (VX.exit 0, s22_0_0 z123 b124 l125 z126 b127)
  | .e1 l139 z140 b141 k142 l143, p => ∃ z137 : Int, ∃ b138 : Bool, p = (VX.exit 0, s22_0_1 z137 b138 l139 z140 b141 k142 l143)
def L22_0s1 : Nat → Int → List (List V) → Int → Bool → Nat → List (List V) → Option R22_0
  | 0, _, _, _, _, _, _ => none
  | n + 1, z61, l62, z63, b64, k65, l66 =>
    if z61 > 0 then
     (F54 (-5) (20) (l62) (z63)).bind fun r => match r with
     | .a0 z128 l129 z130 =>
      (F54 (-5) (20) (l129) (z130)).bind fun r => match r with
      | .a0 z131 l132 z133 =>
       if 0 + k65 ≤ List.length l66 ∧ (k65 + 1) * 16 ≤ 140737488355328 ∧ k65 + 1 ≤ 140737488355328 then
        (F15 (6) (l132) (z133)).bind fun r => match r with
        | .a0 z134 l135 z136 =>
         if (z134 == 0) = true then
          if 0 + (k65 + 1) ≤ List.length (List.take k65 l66 ++ [[i64 z128, i64 z131]]) ∧ (k65 + 1 + 1) * 16 ≤ 140737488355328 ∧ k65 + 1 + 1 ≤ 140737488355328 then
           L22_0s1 n (w64 (z61 - 1)) (l135) (z136) (b64) (k65 + 1 + 1) (List.take (k65 + 1) (List.take k65 l66 ++ [[i64 z128, i64 z131]]) ++ [[i64 z128, i64 z131]])
          else
           none -- none
         else
          L22_0s1 n (w64 (z61 - 1)) (l135) (z136) (b64) (k65 + 1) (List.take k65 l66 ++ [[i64 z128, i64 z131]])
       else
        none -- none
    else
     some (R22_0.e1 (l62) (z63) (b64) (k65) (l66))
theorem L22_0s1_ok (m : Nat) : ∀ (n : Nat) (z61 : Int) (l62 : List (List V)) (z63 : Int) (b64 : Bool) (k65 : Nat) (l66 : List (List V)) (r : R22_0), L22_0s1 n z61 l62 z63 b64 k65 l66 = some r → ∃ st, loopFrom Try.prog X (call Try.prog X O0 100000 (m + 3)) 22 (1) 100000 B22 0 n ({ T := V.ptr 0 0 0 :: U :: V.ptr 1 0 0 :: V.ptr 2 0 0 :: i64 z61 :: un 32 [], σ := [Ob.cells true false 2 [[V.list 1 l62, i64 z63]], Ob.cells true false 2 [[vb false, V.nilS]], Ob.cells true false 2 [[vb b64, V.hs 3 0 k65]], Ob.cells true true 2 l66] }) = some st ∧ r.St st
  | 0, _, _, _, _, _, _, r, h => by cases h
  | n + 1, z61, l62, z63, b64, k65, l66, r, h => by
    rw [L22_0s1] at h
    rcases ite_eq h with ⟨h0, h⟩ | ⟨h0, h⟩
    · skip
      obtain ⟨r1, h1, h⟩ := Option.bind_eq_some_iff.mp h
      have h1 := F54_ok (m + 0) (-5) (20) (l62) (z63) r1 h1
      cases r1 with
      | a0 z128 l129 z130 =>
        obtain ⟨r2, h2, h⟩ := Option.bind_eq_some_iff.mp h
        have h2 := F54_ok (m + 0) (-5) (20) (l129) (z130) r2 h2
        cases r2 with
        | a0 z131 l132 z133 =>
          rcases ite_eq h with ⟨h3, h⟩ | ⟨h3, h⟩
          · skip
            obtain ⟨r4, h4, h⟩ := Option.bind_eq_some_iff.mp h
            have h4 := F15_ok (m + 1) (6) (l132) (z133) r4 h4
            cases r4 with
            | a0 z134 l135 z136 =>
              rcases ite_eq h with ⟨h5, h⟩ | ⟨h5, h⟩
              · skip
                rcases ite_eq h with ⟨h6, h⟩ | ⟨h6, h⟩
                · skip
                  obtain ⟨st, hs, hr⟩ := L22_0s1_ok m n (w64 (z61 - 1)) (l135) (z136) (b64) (k65 + 1 + 1) (List.take (k65 + 1) (List.take k65 l66 ++ [[i64 z128, i64 z131]]) ++ [[i64 z128, i64 z131]]) r h
                  exact ⟨st, (round_on (gs := [.t, .an (i64 z128) [Ob.cells true false 2 [[V.list 1 l129, i64 z130]]], .an (i64 z131) [Ob.cells true false 2 [[V.list 1 l132, i64 z133]]], .a, .a, .a, .a, .t, .a, .an (i64 z134) [Ob.cells true false 2 [[V.list 1 l135, i64 z136]]], .t, .a, .a, .a, .t, .a]) (notIn []) (by kernel_rfl) (And.intro (decide_eq_true h0) (And.intro h1 (And.intro h2 (And.intro (decide_eq_true h3) (And.intro h4 (And.intro h5 (And.intro (decide_eq_true h6) True.intro))))))) n).trans hs, hr⟩
                · skip
                  cases h
              · skip
                obtain ⟨st, hs, hr⟩ := L22_0s1_ok m n (w64 (z61 - 1)) (l135) (z136) (b64) (k65 + 1) (List.take k65 l66 ++ [[i64 z128, i64 z131]]) r h
                exact ⟨st, (round_on (gs := [.t, .an (i64 z128) [Ob.cells true false 2 [[V.list 1 l129, i64 z130]]], .an (i64 z131) [Ob.cells true false 2 [[V.list 1 l132, i64 z133]]], .a, .a, .a, .a, .t, .a, .an (i64 z134) [Ob.cells true false 2 [[V.list 1 l135, i64 z136]]], .f]) (notIn []) (by kernel_rfl) (And.intro (decide_eq_true h0) (And.intro h1 (And.intro h2 (And.intro (decide_eq_true h3) (And.intro h4 (And.intro (Bool.eq_false_iff.mpr h5) True.intro)))))) n).trans hs, hr⟩
          · skip
            cases h
    · skip
      cases h
      exact ⟨_, round_out (gs := [.f]) (notIn []) (by kernel_rfl) rfl (And.intro (decide_eq_false h0) True.intro) n, z61, decide (z61 > 0), rfl⟩
def L22_0 : Nat → Int → List (List V) → Int → Bool → Option R22_0
  | 0, _, _, _, _ => none
  | n + 1, z26, l27, z28, b29 =>
    if z26 > 0 then
     (F54 (-5) (20) (l27) (z28)).bind fun r => match r with
     | .a0 z114 l115 z116 =>
      (F54 (-5) (20) (l115) (z116)).bind fun r => match r with
      | .a0 z117 l118 z119 =>
       (F15 (6) (l118) (z119)).bind fun r => match r with
       | .a0 z120 l121 z122 =>
        if (z120 == 0) = true then
         L22_0s1 n (w64 (z26 - 1)) (l121) (z122) (b29) (2) ([[i64 z114, i64 z117], [i64 z114, i64 z117]])
        else
         L22_0s1 n (w64 (z26 - 1)) (l121) (z122) (b29) (1) ([[i64 z114, i64 z117]])
    else
     some (R22_0.e0 (l27) (z28) (b29))
theorem L22_0_ok (m : Nat) : ∀ (n : Nat) (z26 : Int) (l27 : List (List V)) (z28 : Int) (b29 : Bool) (r : R22_0), L22_0 n z26 l27 z28 b29 = some r → ∃ st, loopFrom Try.prog X (call Try.prog X O0 100000 (m + 3)) 22 (1) 100000 B22 0 n ({ T := V.ptr 0 0 0 :: U :: V.ptr 1 0 0 :: V.ptr 2 0 0 :: i64 z26 :: un 32 [], σ := [Ob.cells true false 2 [[V.list 1 l27, i64 z28]], Ob.cells true false 2 [[vb false, V.nilS]], Ob.cells true false 2 [[vb b29, V.nilS]]] }) = some st ∧ r.St st
  | 0, _, _, _, _, r, h => by cases h
  | n + 1, z26, l27, z28, b29, r, h => by
    rw [L22_0] at h
    rcases ite_eq h with ⟨h0, h⟩ | ⟨h0, h⟩
    · skip
      obtain ⟨r1, h1, h⟩ := Option.bind_eq_some_iff.mp h
      have h1 := F54_ok (m + 0) (-5) (20) (l27) (z28) r1 h1
      cases r1 with
      | a0 z114 l115 z116 =>
        obtain ⟨r2, h2, h⟩ := Option.bind_eq_some_iff.mp h
        have h2 := F54_ok (m + 0) (-5) (20) (l115) (z116) r2 h2
        cases r2 with
        | a0 z117 l118 z119 =>
          obtain ⟨r3, h3, h⟩ := Option.bind_eq_some_iff.mp h
          have h3 := F15_ok (m + 1) (6) (l118) (z119) r3 h3
          cases r3 with
          | a0 z120 l121 z122 =>
            rcases ite_eq h with ⟨h4, h⟩ | ⟨h4, h⟩
            · skip
              obtain ⟨st, hs, hr⟩ := L22_0s1_ok m n (w64 (z26 - 1)) (l121) (z122) (b29) (2) ([[i64 z114, i64 z117], [i64 z114, i64 z117]]) r h
              exact ⟨st, (round_on (gs := [.t, .an (i64 z114) [Ob.cells true false 2 [[V.list 1 l115, i64 z116]]], .an (i64 z117) [Ob.cells true false 2 [[V.list 1 l118, i64 z119]]], .a, .a, .a, .a, .a, .a, .an (i64 z120) [Ob.cells true false 2 [[V.list 1 l121, i64 z122]]], .t, .a, .a, .a, .a, .a]) (notIn []) (by kernel_rfl) (And.intro (decide_eq_true h0) (And.intro h1 (And.intro h2 (And.intro h3 (And.intro h4 True.intro))))) n).trans hs, hr⟩
            · skip
              obtain ⟨st, hs, hr⟩ := L22_0s1_ok m n (w64 (z26 - 1)) (l121) (z122) (b29) (1) ([[i64 z114, i64 z117]]) r h
              exact ⟨st, (round_on (gs := [.t, .an (i64 z114) [Ob.cells true false 2 [[V.list 1 l115, i64 z116]]], .an (i64 z117) [Ob.cells true false 2 [[V.list 1 l118, i64 z119]]], .a, .a, .a, .a, .a, .a, .an (i64 z120) [Ob.cells true false 2 [[V.list 1 l121, i64 z122]]], .f]) (notIn []) (by kernel_rfl) (And.intro (decide_eq_true h0) (And.intro h1 (And.intro h2 (And.intro h3 (And.intro (Bool.eq_false_iff.mpr h4) True.intro))))) n).trans hs, hr⟩
    · skip
      cases h
      exact ⟨_, round_out (gs := [.f]) (notIn []) (by kernel_rfl) rfl (And.intro (decide_eq_false h0) True.intro) n, z26, decide (z26 > 0), rfl⟩
inductive A22 where
  | a0 (b149 : Bool) (l150 : List (List V)) (z151 : Int)
  | a1 (b159 : Bool) (k160 : Nat) (l161 : List (List V)) (z162 : Int) (l163 : List (List V))
@[reducible] def A22.out : A22 → V × Store
  | .a0 b149 l150 z151 => (V.agg [vb b149, V.nilS], [Ob.cells true false 2 [[V.list 1 l150, i64 z151]]])
  | .a1 b159 k160 l161 z162 l163 => (V.agg [vb b159, V.hs 1 0 k160], [Ob.cells true false 2 [[V.list 1 l161, i64 z162]], Ob.cells true true 2 l163])
def F22 (l3 : List (List V)) (z4 : Int) : Option A22 :=
  (F15 (2) (l3) (z4)).bind fun r => match r with
  | .a0 z108 l109 z110 =>
   (F15 (7) (l109) (z110)).bind fun r => match r with
   | .a0 z111 l112 z113 =>
    (L22_0 100000 (z111) (l112) (z113) (z108 == 0)).bind fun r => match r with
    | .e0 l146 z147 b148 =>
     some (A22.a0 (b148) (l146) (z147))
    | .e1 l154 z155 b156 k157 l158 =>
     some (A22.a1 (b156) (k157) (l154) (z155) (l158))
theorem F22_ok (m : Nat) (l3 : List (List V)) (z4 : Int) (r : A22) (h : F22 l3 z4 = some r) : call Try.prog X O0 100000 (m + 4) 22 ([V.ptr 0 0 0]) ([Ob.cells true false 2 [[V.list 1 l3, i64 z4]]]) = some r.out := by
  unfold F22 at h
  obtain ⟨r0, h0, h⟩ := Option.bind_eq_some_iff.mp h
  have h0 := F15_ok (m + 1) (2) (l3) (z4) r0 h0
  cases r0 with
  | a0 z108 l109 z110 =>
    obtain ⟨r1, h1, h⟩ := Option.bind_eq_some_iff.mp h
    have h1 := F15_ok (m + 1) (7) (l109) (z110) r1 h1
    cases r1 with
    | a0 z111 l112 z113 =>
      obtain ⟨r2, h2, h⟩ := Option.bind_eq_some_iff.mp h
      obtain ⟨st2, h2, hr2⟩ := L22_0_ok m 100000 (z111) (l112) (z113) (z108 == 0) r2 h2
      have h2 : loopRun Try.prog X (call Try.prog X O0 100000 (m + 3)) 22 (1) 100000 B22 0 ({ T := V.ptr 0 0 0 :: U :: V.ptr 1 0 0 :: V.ptr 2 0 0 :: i64 z111 :: U :: V.ptr 0 0 0 :: i64 z108 :: vb (z108 == 0) :: V.agg [vb (z108 == 0), V.nilS] :: V.ptr 0 0 0 :: i64 z111 :: un 25 [], σ := [Ob.cells true false 2 [[V.list 1 l112, i64 z113]], Ob.cells true false 2 [[vb false, V.nilS]], Ob.cells true false 2 [[vb (z108 == 0), V.nilS]]] }) = some st2 := by
        rw [loopRun_from, show prep (1) (X.keep 22 0) ({ T := V.ptr 0 0 0 :: U :: V.ptr 1 0 0 :: V.ptr 2 0 0 :: i64 z111 :: U :: V.ptr 0 0 0 :: i64 z108 :: vb (z108 == 0) :: V.agg [vb (z108 == 0), V.nilS] :: V.ptr 0 0 0 :: i64 z111 :: un 25 [], σ := [Ob.cells true false 2 [[V.list 1 l112, i64 z113]], Ob.cells true false 2 [[vb false, V.nilS]], Ob.cells true false 2 [[vb (z108 == 0), V.nilS]]] }) = { T := V.ptr 0 0 0 :: U :: V.ptr 1 0 0 :: V.ptr 2 0 0 :: i64 z111 :: un 32 [], σ := [Ob.cells true false 2 [[V.list 1 l112, i64 z113]], Ob.cells true false 2 [[vb false, V.nilS]], Ob.cells true false 2 [[vb (z108 == 0), V.nilS]]] } by kernel_rfl]
        exact h2
      cases r2 with
      | e0 l146 z147 b148 =>
        obtain ⟨z144, b145, rfl⟩ := hr2
        cases h
        exact call_pathL (gs := [.an (i64 z108) [Ob.cells true false 2 [[V.list 1 l109, i64 z110]]], .a, .an (i64 z111) [Ob.cells true false 2 [[V.list 1 l112, i64 z113]]], .lp (VX.exit 0) (s22_0_0 z144 b145 l146 z147 b148), .a, .a]) (notIn []) rfl rfl (by kernel_rfl) (And.intro h0 (And.intro h1 (And.intro h2 True.intro)))
      | e1 l154 z155 b156 k157 l158 =>
        obtain ⟨z152, b153, rfl⟩ := hr2
        cases h
        exact call_pathL (gs := [.an (i64 z108) [Ob.cells true false 2 [[V.list 1 l109, i64 z110]]], .a, .an (i64 z111) [Ob.cells true false 2 [[V.list 1 l112, i64 z113]]], .lp (VX.exit 0) (s22_0_1 z152 b153 l154 z155 b156 k157 l158), .a, .a]) (notIn []) rfl rfl (by kernel_rfl) (And.intro h0 (And.intro h1 (And.intro h2 True.intro)))
/-! ## 26 -/
def F26 (b169 : Bool) : Int :=
  if (b169) = true then
   0
  else
   0
theorem F26_ok (m : Nat) (b169 : Bool) (z172 : Int) (h : F26 b169 = z172) : call Try.prog X O0 100000 (m + 1) 26 ([V.agg [vb b169, V.nilS]]) ([]) = some (i64 z172, []) := by
  unfold F26 at h
  rcases ite_eq h with ⟨h0, h⟩ | ⟨h0, h⟩
  · skip
    subst h
    exact call_pathL (gs := [.a, .a, .t, .t, .t, .a]) (notIn []) rfl rfl (by kernel_rfl) (And.intro h0 (And.intro h0 (And.intro h0 True.intro)))
  · skip
    subst h
    exact call_pathL (gs := [.a, .a, .f, .f, .f, .a]) (notIn []) rfl rfl (by kernel_rfl) (And.intro (Bool.eq_false_iff.mpr h0) (And.intro (Bool.eq_false_iff.mpr h0) (And.intro (Bool.eq_false_iff.mpr h0) True.intro)))
/-! ## 55 -/
inductive A55 where
@[reducible] def A55.out : A55 → V × Store
  := fun x => nomatch x
def F55 (b176 : Bool) (z177 : Int) : Option A55 :=
  none -- none
theorem F55_ok (m : Nat) (b176 : Bool) (z177 : Int) (r : A55) (h : F55 b176 z177 = some r) : call Try.prog X O0 100000 (m + 1) 55 ([V.agg [vb b176, V.nilS], i64 z177]) ([]) = some r.out := by
  unfold F55 at h
  cases h
/-! ## 23 -/
noncomputable abbrev B23 : Code := (Try.f23.body).getD .skip
inductive R23_0 where
  | e0
@[reducible] def s23_0_0 (z187 : Int) (b188 : Bool) (b189 : Bool) : S := { T := U :: V.ptr 0 0 0 :: U :: i64 0 :: un 5 (i64 z187 :: i64 0 :: vb b188 :: un 13 []), σ := [Ob.cells true false 2 [[vb b189, V.nilS]]] }
def R23_0.St : R23_0 → VX × S → Prop
  | .e0, p => ∃ z187 : Int, ∃ b188 : Bool, ∃ b189 : Bool, p = (VX.exit 0, s23_0_0 z187 b188 b189)
def L23_0 : Nat → Int → Bool → Option R23_0
  | 0, _, _ => none
  | n + 1, z174, b175 =>
    if 0 < z174 then
     none -- F55 has no answer
    else
     some (R23_0.e0)
theorem L23_0_ok (m : Nat) : ∀ (n : Nat) (z174 : Int) (b175 : Bool) (r : R23_0), L23_0 n z174 b175 = some r → ∃ st, loopFrom Try.prog X (call Try.prog X O0 100000 (m + 1)) 23 (0) 100000 B23 0 n ({ T := U :: V.ptr 0 0 0 :: U :: i64 0 :: un 5 (i64 z174 :: i64 0 :: un 14 []), σ := [Ob.cells true false 2 [[vb b175, V.nilS]]] }) = some st ∧ r.St st
  | 0, _, _, r, h => by cases h
  | n + 1, z174, b175, r, h => by
    rw [L23_0] at h
    rcases ite_eq h with ⟨h0, h⟩ | ⟨h0, h⟩
    · skip
      cases h
    · skip
      cases h
      exact ⟨_, round_out (gs := [.f]) (notIn []) (by kernel_rfl) rfl (And.intro (decide_eq_false h0) True.intro) n, z174, decide (0 < z174), b175, rfl⟩
inductive A23 where
  | a0 (z193 : Int)
@[reducible] def A23.out : A23 → V × Store
  | .a0 z193 => (i64 z193, [])
def F23 (b167 : Bool) : Option A23 :=
  bnd (F26 (b167)) fun z186 =>
  (L23_0 100000 (z186) (b167)).bind fun r => match r with
  | .e0 =>
   some (A23.a0 (0))
theorem F23_ok (m : Nat) (b167 : Bool) (r : A23) (h : F23 b167 = some r) : call Try.prog X O0 100000 (m + 2) 23 ([V.agg [vb b167, V.nilS]]) ([]) = some r.out := by
  unfold F23 at h
  obtain ⟨z186, h0, h⟩ := bnd_eq h
  obtain ⟨r1, h1, h⟩ := Option.bind_eq_some_iff.mp h
  obtain ⟨st1, h1, hr1⟩ := L23_0_ok m 100000 (z186) (b167) r1 h1
  have h1 : loopRun Try.prog X (call Try.prog X O0 100000 (m + 1)) 23 (0) 100000 B23 0 ({ T := V.agg [vb b167, V.nilS] :: V.ptr 0 0 0 :: i64 0 :: i64 0 :: un 4 (V.agg [vb b167, V.nilS] :: i64 z186 :: i64 0 :: un 14 []), σ := [Ob.cells true false 2 [[vb b167, V.nilS]]] }) = some st1 := by
    rw [loopRun_from, show prep (0) (X.keep 23 0) ({ T := V.agg [vb b167, V.nilS] :: V.ptr 0 0 0 :: i64 0 :: i64 0 :: un 4 (V.agg [vb b167, V.nilS] :: i64 z186 :: i64 0 :: un 14 []), σ := [Ob.cells true false 2 [[vb b167, V.nilS]]] }) = { T := U :: V.ptr 0 0 0 :: U :: i64 0 :: un 5 (i64 z186 :: i64 0 :: un 14 []), σ := [Ob.cells true false 2 [[vb b167, V.nilS]]] } by kernel_rfl]
    exact h1
  cases r1 with
  | e0 =>
    obtain ⟨z190, b191, b192, rfl⟩ := hr1
    cases h
    exact call_pathL (gs := [.a, .an (i64 z186) [], .lp (VX.exit 0) (s23_0_0 z190 b191 b192)]) (notIn []) rfl rfl (by kernel_rfl) (And.intro (F26_ok (m + 0) (b167) z186 h0) (And.intro h1 True.intro))
/-! ## 90 -/
def F90 (z204 : Int) (z205 : Int) (z206 : Int) : Int :=
  if z204 < z205 then
   z205
  else
   if z204 > z206 then
    z206
   else
    z204
theorem F90_ok (m : Nat) (z204 : Int) (z205 : Int) (z206 : Int) (z209 : Int) (h : F90 z204 z205 z206 = z209) : call Try.prog X O0 100000 (m + 1) 90 ([i64 z204, i64 z205, i64 z206]) ([]) = some (i64 z209, []) := by
  unfold F90 at h
  rcases ite_eq h with ⟨h0, h⟩ | ⟨h0, h⟩
  · skip
    subst h
    exact call_pathL (gs := [.t]) (notIn []) rfl rfl (by kernel_rfl) (And.intro (decide_eq_true h0) True.intro)
  · skip
    rcases ite_eq h with ⟨h1, h⟩ | ⟨h1, h⟩
    · skip
      subst h
      exact call_pathL (gs := [.f, .t]) (notIn []) rfl rfl (by kernel_rfl) (And.intro (decide_eq_false h0) (And.intro (decide_eq_true h1) True.intro))
    · skip
      subst h
      exact call_pathL (gs := [.f, .f]) (notIn []) rfl rfl (by kernel_rfl) (And.intro (decide_eq_false h0) (And.intro (decide_eq_false h1) True.intro))
/-! ## 57 -/
def F57 (z202 : Int) : Int :=
  bnd (F90 (z202) (-1099511627776) (1099511627776)) fun z210 =>
  z210
theorem F57_ok (m : Nat) (z202 : Int) (z212 : Int) (h : F57 z202 = z212) : call Try.prog X O0 100000 (m + 2) 57 ([i64 z202]) ([]) = some (i64 z212, []) := by
  unfold F57 at h
  obtain ⟨z210, h0, h⟩ := bnd_eq h
  subst h
  exact call_pathL (gs := [.an (i64 z210) []]) (notIn []) rfl rfl (by kernel_rfl) (And.intro (F90_ok (m + 0) (z202) (-1099511627776) (1099511627776) z210 h0) True.intro)
/-! ## 26 -/
def F26v1 (b216 : Bool) (l217 : List (List V)) : Int :=
  if (b216) = true then
   if (↑(List.length l217) : Int) ≥ 2 then
    (↑(List.length l217) : Int)
   else
    if w64 ((↑(List.length l217) : Int) - 1) > 0 then w64 ((↑(List.length l217) : Int) - 1) else 0
  else
   if w64 ((↑(List.length l217) : Int) - 1) > 0 then w64 ((↑(List.length l217) : Int) - 1) else 0
theorem F26v1_ok (m : Nat) (b216 : Bool) (l217 : List (List V)) (z220 : Int) (h : F26v1 b216 l217 = z220) : call Try.prog X O0 100000 (m + 1) 26 ([V.agg [vb b216, V.list 2 l217]]) ([]) = some (i64 z220, []) := by
  unfold F26v1 at h
  rcases ite_eq h with ⟨h0, h⟩ | ⟨h0, h⟩
  · skip
    rcases ite_eq h with ⟨h1, h⟩ | ⟨h1, h⟩
    · skip
      subst h
      exact call_pathL (gs := [.a, .a, .t, .t, .t, .t]) (notIn []) rfl rfl (by kernel_rfl) (And.intro h0 (And.intro h0 (And.intro h0 (And.intro (decide_eq_true h1) True.intro))))
    · skip
      subst h
      exact call_pathL (gs := [.a, .a, .t, .t, .t, .f]) (notIn []) rfl rfl (by kernel_rfl) (And.intro h0 (And.intro h0 (And.intro h0 (And.intro (decide_eq_false h1) True.intro))))
  · skip
    subst h
    exact call_pathL (gs := [.a, .a, .f, .f, .f, .a]) (notIn []) rfl rfl (by kernel_rfl) (And.intro (Bool.eq_false_iff.mpr h0) (And.intro (Bool.eq_false_iff.mpr h0) (And.intro (Bool.eq_false_iff.mpr h0) True.intro)))
/-! ## 98 -/
def F98 (z235 : Int) : Int :=
  bnd (F90 (z235) (-536870912) (536870912)) fun z237 =>
  z237
theorem F98_ok (m : Nat) (z235 : Int) (z239 : Int) (h : F98 z235 = z239) : call Try.prog X O0 100000 (m + 2) 98 ([i64 z235]) ([]) = some (i64 z239, []) := by
  unfold F98 at h
  obtain ⟨z237, h0, h⟩ := bnd_eq h
  subst h
  exact call_pathL (gs := [.an (i64 z237) []]) (notIn []) rfl rfl (by kernel_rfl) (And.intro (F90_ok (m + 0) (z235) (-536870912) (536870912) z237 h0) True.intro)
/-! ## 71 -/
inductive A71 where
  | a0 (z242 : Int) (z243 : Int)
@[reducible] def A71.out : A71 → V × Store
  | .a0 z242 z243 => (V.agg [i64 z242, i64 z243], [])
def F71 (z232 : Int) (z233 : Int) : Option A71 :=
  bnd (F98 (z232)) fun z240 =>
  bnd (F98 (z233)) fun z241 =>
  some (A71.a0 (z240) (z241))
theorem F71_ok (m : Nat) (z232 : Int) (z233 : Int) (r : A71) (h : F71 z232 z233 = some r) : call Try.prog X O0 100000 (m + 3) 71 ([V.agg [i64 z232, i64 z233]]) ([]) = some r.out := by
  unfold F71 at h
  obtain ⟨z240, h0, h⟩ := bnd_eq h
  obtain ⟨z241, h1, h⟩ := bnd_eq h
  cases h
  exact call_pathL (gs := [.a, .an (i64 z240) [], .a, .an (i64 z241) [], .a, .ft [⟨0, [0], []⟩, ⟨1, [0], []⟩, ⟨2, [], []⟩, ⟨3, [0], []⟩, ⟨4, [0], []⟩, ⟨5, [], []⟩, ⟨6, [], []⟩, ⟨7, [1], [1]⟩]]) (notIn []) rfl rfl (by kernel_rfl) (And.intro (F98_ok (m + 0) (z232) z240 h0) (And.intro (F98_ok (m + 0) (z233) z241 h1) (And.intro (Eq.refl ([⟨0, [0], []⟩, ⟨1, [0], []⟩, ⟨2, [], []⟩, ⟨3, [0], []⟩, ⟨4, [0], []⟩, ⟨5, [], []⟩, ⟨6, [], []⟩, ⟨7, [1], [1]⟩] : List Foot)) True.intro)))
/-! ## 111 -/
noncomputable abbrev B111 : Code := (Try.f111.body).getD .skip
inductive R111_0 where
  | e0 (z261 : Int)
@[reducible] def s111_0_0 (z260 : Int) (z261 : Int) (z262 : Int) (b263 : Bool) : S := { T := V.int IntKind.u64 z260 :: U :: U :: V.int IntKind.u64 z261 :: V.int IntKind.u64 z262 :: U :: V.int IntKind.u64 z262 :: vb b263 :: un 13 [], σ := [] }
def R111_0.St : R111_0 → VX × S → Prop
  | .e0 z261, p => ∃ z260 : Int, ∃ z262 : Int, ∃ b263 : Bool, p = (VX.exit 0, s111_0_0 z260 z261 z262 b263)
def L111_0 : Nat → Int → Int → Int → Option R111_0
  | 0, _, _, _ => none
  | n + 1, z257, z258, z259 =>
    if z259 > 0 then
     if IntKind.wrap IntKind.u64 (IntKind.wrap IntKind.u64 (↑(BitVec.toNat (BitVec.ofInt (IntKind.bits IntKind.u64) z258 ||| BitVec.ofInt (IntKind.bits IntKind.u64) z259)) : Int) * IntKind.wrap IntKind.u64 (↑(BitVec.toNat (BitVec.ofInt (IntKind.bits IntKind.u64) z258 ||| BitVec.ofInt (IntKind.bits IntKind.u64) z259)) : Int)) ≤ z257 then
      L111_0 n (z257) (IntKind.wrap IntKind.u64 (↑(BitVec.toNat (BitVec.ofInt (IntKind.bits IntKind.u64) z258 ||| BitVec.ofInt (IntKind.bits IntKind.u64) z259)) : Int)) (Int.fdiv z259 2)
     else
      L111_0 n (z257) (z258) (Int.fdiv z259 2)
    else
     some (R111_0.e0 (z258))
theorem L111_0_ok (m : Nat) : ∀ (n : Nat) (z257 : Int) (z258 : Int) (z259 : Int) (r : R111_0), L111_0 n z257 z258 z259 = some r → ∃ st, loopFrom Try.prog X (call Try.prog X O0 100000 (m + 0)) 111 (0) 100000 B111 0 n ({ T := V.int IntKind.u64 z257 :: U :: U :: V.int IntKind.u64 z258 :: V.int IntKind.u64 z259 :: un 16 [], σ := [] }) = some st ∧ r.St st
  | 0, _, _, _, r, h => by cases h
  | n + 1, z257, z258, z259, r, h => by
    rw [L111_0] at h
    rcases ite_eq h with ⟨h0, h⟩ | ⟨h0, h⟩
    · skip
      rcases ite_eq h with ⟨h1, h⟩ | ⟨h1, h⟩
      · skip
        obtain ⟨st, hs, hr⟩ := L111_0_ok m n (z257) (IntKind.wrap IntKind.u64 (↑(BitVec.toNat (BitVec.ofInt (IntKind.bits IntKind.u64) z258 ||| BitVec.ofInt (IntKind.bits IntKind.u64) z259)) : Int)) (Int.fdiv z259 2) r h
        exact ⟨st, (round_on (gs := [.t, .t]) (notIn []) (by kernel_rfl) (And.intro (decide_eq_true h0) (And.intro (decide_eq_true h1) True.intro)) n).trans hs, hr⟩
      · skip
        obtain ⟨st, hs, hr⟩ := L111_0_ok m n (z257) (z258) (Int.fdiv z259 2) r h
        exact ⟨st, (round_on (gs := [.t, .f]) (notIn []) (by kernel_rfl) (And.intro (decide_eq_true h0) (And.intro (decide_eq_false h1) True.intro)) n).trans hs, hr⟩
    · skip
      cases h
      exact ⟨_, round_out (gs := [.f]) (notIn []) (by kernel_rfl) rfl (And.intro (decide_eq_false h0) True.intro) n, z257, z259, decide (z259 > 0), rfl⟩
inductive A111 where
  | a0 (z268 : Int)
@[reducible] def A111.out : A111 → V × Store
  | .a0 z268 => (i64 z268, [])
def F111 (z254 : Int) : Option A111 :=
  (L111_0 100000 (z254) (0) (2147483648)).bind fun r => match r with
  | .e0 z265 =>
   some (A111.a0 (w64 z265))
theorem F111_ok (m : Nat) (z254 : Int) (r : A111) (h : F111 z254 = some r) : call Try.prog X O0 100000 (m + 1) 111 ([V.int IntKind.u64 z254]) ([]) = some r.out := by
  unfold F111 at h
  obtain ⟨r0, h0, h⟩ := Option.bind_eq_some_iff.mp h
  obtain ⟨st0, h0, hr0⟩ := L111_0_ok m 100000 (z254) (0) (2147483648) r0 h0
  have h0 : loopRun Try.prog X (call Try.prog X O0 100000 (m + 0)) 111 (0) 100000 B111 0 ({ T := V.int IntKind.u64 z254 :: U :: i64 0 :: V.int IntKind.u64 0 :: V.int IntKind.u64 2147483648 :: un 16 [], σ := [] }) = some st0 := by
    rw [loopRun_from, show prep (0) (X.keep 111 0) ({ T := V.int IntKind.u64 z254 :: U :: i64 0 :: V.int IntKind.u64 0 :: V.int IntKind.u64 2147483648 :: un 16 [], σ := [] }) = { T := V.int IntKind.u64 z254 :: U :: U :: V.int IntKind.u64 0 :: V.int IntKind.u64 2147483648 :: un 16 [], σ := [] } by kernel_rfl]
    exact h0
  cases r0 with
  | e0 z265 =>
    obtain ⟨z264, z266, b267, rfl⟩ := hr0
    cases h
    exact call_pathL (gs := [.lp (VX.exit 0) (s111_0_0 z264 z265 z266 b267)]) (notIn []) rfl rfl (by kernel_rfl) (And.intro h0 True.intro)
/-! ## 89 -/
inductive A89 where
  | a0 (z271 : Int)
@[reducible] def A89.out : A89 → V × Store
  | .a0 z271 => (i64 z271, [])
def F89 (z249 : Int) (z250 : Int) : Option A89 :=
  bnd (F90 (z249) (-1073741824) (1073741824)) fun z252 =>
  bnd (F90 (z250) (-1073741824) (1073741824)) fun z253 =>
  (F111 (IntKind.wrap IntKind.u64 (w64 (w64 (z252 * z252) + w64 (z253 * z253))))).bind fun r => match r with
  | .a0 z269 =>
   bnd (F57 (z269)) fun z270 =>
   some (A89.a0 (z270))
theorem F89_ok (m : Nat) (z249 : Int) (z250 : Int) (r : A89) (h : F89 z249 z250 = some r) : call Try.prog X O0 100000 (m + 3) 89 ([i64 z249, i64 z250]) ([]) = some r.out := by
  unfold F89 at h
  obtain ⟨z252, h0, h⟩ := bnd_eq h
  obtain ⟨z253, h1, h⟩ := bnd_eq h
  obtain ⟨r2, h2, h⟩ := Option.bind_eq_some_iff.mp h
  have h2 := F111_ok (m + 1) (IntKind.wrap IntKind.u64 (w64 (w64 (z252 * z252) + w64 (z253 * z253)))) r2 h2
  cases r2 with
  | a0 z269 =>
    obtain ⟨z270, h3, h⟩ := bnd_eq h
    cases h
    exact call_pathL (gs := [.an (i64 z252) [], .an (i64 z253) [], .an (i64 z269) [], .an (i64 z270) []]) (notIn []) rfl rfl (by kernel_rfl) (And.intro (F90_ok (m + 1) (z249) (-1073741824) (1073741824) z252 h0) (And.intro (F90_ok (m + 1) (z250) (-1073741824) (1073741824) z253 h1) (And.intro h2 (And.intro (F57_ok (m + 0) (z269) z270 h3) True.intro))))
/-! ## 55 -/
inductive A55v1 where
  | a0 (z273 : Int) (z274 : Int) (z275 : Int) (z276 : Int) (z277 : Int)
@[reducible] def A55v1.out : A55v1 → V × Store
  | .a0 z273 z274 z275 z276 z277 => (V.tup [V.agg [i64 z273, i64 z274], V.agg [i64 z275, i64 z276], i64 z277], [])
def F55v1 (b227 : Bool) (l228 : List (List V)) (z229 : Int) : Option A55v1 :=
  if 0 ≤ z229 then
   ((l228[Int.toNat z229]?).bind W34.dec).bind fun e231 =>
   (F71 (e231.c0) (e231.c1)).bind fun r => match r with
   | .a0 z244 z245 =>
    if (↑(List.length l228) : Int) = 0 then
     none -- none
    else
     if 0 ≤ Int.tmod (w64 (z229 + 1)) (↑(List.length l228) : Int) then
      ((l228[Int.toNat (Int.tmod (w64 (z229 + (1 : Int))) (↑(List.length l228) : Int))]?).bind W34.dec).bind fun e246 =>
      (F71 (e246.c0) (e246.c1)).bind fun r => match r with
      | .a0 z247 z248 =>
       (F89 (w64 (z247 - z244)) (w64 (z248 - z245))).bind fun r => match r with
       | .a0 z272 =>
        some (A55v1.a0 (z244) (z245) (z247) (z248) (z272))
     else
      none -- none
  else
   none -- none
theorem F55v1_ok (m : Nat) (b227 : Bool) (l228 : List (List V)) (z229 : Int) (r : A55v1) (h : F55v1 b227 l228 z229 = some r) : call Try.prog X O0 100000 (m + 4) 55 ([V.agg [vb b227, V.list 2 l228], i64 z229]) ([]) = some r.out := by
  unfold F55v1 at h
  rcases ite_eq h with ⟨h0, h⟩ | ⟨h0, h⟩
  · skip
    obtain ⟨e231, h1, h⟩ := Option.bind_eq_some_iff.mp h
    obtain ⟨r2, h2, h⟩ := Option.bind_eq_some_iff.mp h
    have h2 := F71_ok (m + 0) (e231.c0) (e231.c1) r2 h2
    cases r2 with
    | a0 z244 z245 =>
      rcases ite_eq h with ⟨h3, h⟩ | ⟨h3, h⟩
      · skip
        cases h
      · skip
        rcases ite_eq h with ⟨h4, h⟩ | ⟨h4, h⟩
        · skip
          obtain ⟨e246, h5, h⟩ := Option.bind_eq_some_iff.mp h
          obtain ⟨r6, h6, h⟩ := Option.bind_eq_some_iff.mp h
          have h6 := F71_ok (m + 0) (e246.c0) (e246.c1) r6 h6
          cases r6 with
          | a0 z247 z248 =>
            obtain ⟨r7, h7, h⟩ := Option.bind_eq_some_iff.mp h
            have h7 := F89_ok (m + 0) (w64 (z247 - z244)) (w64 (z248 - z245)) r7 h7
            cases r7 with
            | a0 z272 =>
              cases h
              exact call_pathL (gs := [.a, .t, .el (W34.cells e231), .an (V.agg [i64 z244, i64 z245]) [], .a, .a, .f, .t, .el (W34.cells e246), .an (V.agg [i64 z247, i64 z248]) [], .a, .a, .ft [⟨0, [0], []⟩, ⟨1, [0], []⟩, ⟨2, [], []⟩, ⟨3, [], []⟩, ⟨4, [], []⟩, ⟨5, [], []⟩, ⟨6, [0], []⟩, ⟨7, [0], []⟩, ⟨8, [], []⟩, ⟨9, [], []⟩, ⟨10, [0], []⟩, ⟨11, [0], []⟩, ⟨12, [], []⟩, ⟨13, [], []⟩, ⟨14, [], []⟩, ⟨15, [], []⟩, ⟨16, [], []⟩, ⟨17, [3], [3]⟩, ⟨18, [4], [4]⟩, ⟨19, [3], [3]⟩, ⟨20, [4], [4]⟩], .a, .a, .a, .a, .a, .a, .an (i64 z272) [], .a, .a, .ft [⟨0, [3], []⟩, ⟨1, [4], []⟩, ⟨2, [4], []⟩, ⟨3, [4], []⟩, ⟨4, [3], []⟩, ⟨5, [3], []⟩, ⟨6, [], []⟩, ⟨7, [4], []⟩, ⟨8, [4], []⟩, ⟨9, [3], []⟩, ⟨10, [3], []⟩, ⟨11, [], []⟩, ⟨12, [], []⟩, ⟨13, [1], [1]⟩, ⟨14, [2], [2]⟩, ⟨15, [], []⟩]]) (notIn []) rfl rfl (by kernel_rfl) (And.intro (decide_eq_true h0) (And.intro (W34.dec_ok h1) (And.intro h2 (And.intro (decide_eq_false h3) (And.intro (decide_eq_true h4) (And.intro (W34.dec_ok h5) (And.intro h6 (And.intro (Eq.refl ([⟨0, [0], []⟩, ⟨1, [0], []⟩, ⟨2, [], []⟩, ⟨3, [], []⟩, ⟨4, [], []⟩, ⟨5, [], []⟩, ⟨6, [0], []⟩, ⟨7, [0], []⟩, ⟨8, [], []⟩, ⟨9, [], []⟩, ⟨10, [0], []⟩, ⟨11, [0], []⟩, ⟨12, [], []⟩, ⟨13, [], []⟩, ⟨14, [], []⟩, ⟨15, [], []⟩, ⟨16, [], []⟩, ⟨17, [3], [3]⟩, ⟨18, [4], [4]⟩, ⟨19, [3], [3]⟩, ⟨20, [4], [4]⟩] : List Foot)) (And.intro h7 (And.intro (Eq.refl ([⟨0, [3], []⟩, ⟨1, [4], []⟩, ⟨2, [4], []⟩, ⟨3, [4], []⟩, ⟨4, [3], []⟩, ⟨5, [3], []⟩, ⟨6, [], []⟩, ⟨7, [4], []⟩, ⟨8, [4], []⟩, ⟨9, [3], []⟩, ⟨10, [3], []⟩, ⟨11, [], []⟩, ⟨12, [], []⟩, ⟨13, [1], [1]⟩, ⟨14, [2], [2]⟩, ⟨15, [], []⟩] : List Foot)) True.intro))))))))))
        · skip
          cases h
  · skip
    cases h
/-! ## 56 -/
def F56 (z283 : Int) (z284 : Int) : Int :=
  bnd (F57 (z283)) fun z286 =>
  bnd (F57 (z284)) fun z287 =>
  bnd (F57 (w64 (z286 + z287))) fun z288 =>
  z288
theorem F56_ok (m : Nat) (z283 : Int) (z284 : Int) (z290 : Int) (h : F56 z283 z284 = z290) : call Try.prog X O0 100000 (m + 3) 56 ([i64 z283, i64 z284]) ([]) = some (i64 z290, []) := by
  unfold F56 at h
  obtain ⟨z286, h0, h⟩ := bnd_eq h
  obtain ⟨z287, h1, h⟩ := bnd_eq h
  obtain ⟨z288, h2, h⟩ := bnd_eq h
  subst h
  exact call_pathL (gs := [.an (i64 z286) [], .an (i64 z287) [], .an (i64 z288) []]) (notIn []) rfl rfl (by kernel_rfl) (And.intro (F57_ok (m + 0) (z283) z286 h0) (And.intro (F57_ok (m + 0) (z284) z287 h1) (And.intro (F57_ok (m + 0) (w64 (z286 + z287)) z288 h2) True.intro)))
/-! ## 72 -/
inductive A72 where
  | a0 (z310 : Int)
@[reducible] def A72.out : A72 → V × Store
  | .a0 z310 => (i64 z310, [])
def F72 (z305 : Int) (z306 : Int) : Option A72 :=
  bnd (F57 (z305)) fun z308 =>
  bnd (F57 (z306)) fun z309 =>
  if (z309 == 0) = true then
   some (A72.a0 (0))
  else
   if z309 = 0 then
    none -- none
   else
    if (Int.tmod (w64 (z308 * 65536)) z309 != 0) = true then
     if (!decide (w64 (z308 * 65536) < 0) == decide (z309 < 0)) = true then
      bnd (F57 (w64 (w64 (Int.tdiv (w64 (z308 * 65536)) z309) - 1))) fun z311 =>
      some (A72.a0 (z311))
     else
      bnd (F57 (w64 (Int.tdiv (w64 (z308 * 65536)) z309))) fun z312 =>
      some (A72.a0 (z312))
    else
     bnd (F57 (w64 (Int.tdiv (w64 (z308 * 65536)) z309))) fun z313 =>
     some (A72.a0 (z313))
theorem F72_ok (m : Nat) (z305 : Int) (z306 : Int) (r : A72) (h : F72 z305 z306 = some r) : call Try.prog X O0 100000 (m + 3) 72 ([i64 z305, i64 z306]) ([]) = some r.out := by
  unfold F72 at h
  obtain ⟨z308, h0, h⟩ := bnd_eq h
  obtain ⟨z309, h1, h⟩ := bnd_eq h
  rcases ite_eq h with ⟨h2, h⟩ | ⟨h2, h⟩
  · skip
    cases h
    exact call_pathL (gs := [.an (i64 z308) [], .an (i64 z309) [], .t]) (notIn []) rfl rfl (by kernel_rfl) (And.intro (F57_ok (m + 0) (z305) z308 h0) (And.intro (F57_ok (m + 0) (z306) z309 h1) (And.intro h2 True.intro)))
  · skip
    rcases ite_eq h with ⟨h3, h⟩ | ⟨h3, h⟩
    · skip
      cases h
    · skip
      rcases ite_eq h with ⟨h4, h⟩ | ⟨h4, h⟩
      · skip
        rcases ite_eq h with ⟨h5, h⟩ | ⟨h5, h⟩
        · skip
          obtain ⟨z311, h6, h⟩ := bnd_eq h
          cases h
          exact call_pathL (gs := [.an (i64 z308) [], .an (i64 z309) [], .f, .f, .f, .t, .t, .t, .t, .t, .t, .t, .an (i64 z311) []]) (notIn []) rfl rfl (by kernel_rfl) (And.intro (F57_ok (m + 0) (z305) z308 h0) (And.intro (F57_ok (m + 0) (z306) z309 h1) (And.intro (Bool.eq_false_iff.mpr h2) (And.intro (decide_eq_false h3) (And.intro (decide_eq_false h3) (And.intro h4 (And.intro h4 (And.intro h4 (And.intro h4 (And.intro h4 (And.intro h4 (And.intro h5 (And.intro (F57_ok (m + 0) (w64 (w64 (Int.tdiv (w64 (z308 * 65536)) z309) - 1)) z311 h6) True.intro)))))))))))))
        · skip
          obtain ⟨z312, h6, h⟩ := bnd_eq h
          cases h
          exact call_pathL (gs := [.an (i64 z308) [], .an (i64 z309) [], .f, .f, .f, .t, .t, .t, .t, .t, .t, .f, .an (i64 z312) []]) (notIn []) rfl rfl (by kernel_rfl) (And.intro (F57_ok (m + 0) (z305) z308 h0) (And.intro (F57_ok (m + 0) (z306) z309 h1) (And.intro (Bool.eq_false_iff.mpr h2) (And.intro (decide_eq_false h3) (And.intro (decide_eq_false h3) (And.intro h4 (And.intro h4 (And.intro h4 (And.intro h4 (And.intro h4 (And.intro h4 (And.intro (Bool.eq_false_iff.mpr h5) (And.intro (F57_ok (m + 0) (w64 (Int.tdiv (w64 (z308 * 65536)) z309)) z312 h6) True.intro)))))))))))))
      · skip
        obtain ⟨z313, h5, h⟩ := bnd_eq h
        cases h
        exact call_pathL (gs := [.an (i64 z308) [], .an (i64 z309) [], .f, .f, .f, .f, .f, .f, .f, .f, .f, .a, .an (i64 z313) []]) (notIn []) rfl rfl (by kernel_rfl) (And.intro (F57_ok (m + 0) (z305) z308 h0) (And.intro (F57_ok (m + 0) (z306) z309 h1) (And.intro (Bool.eq_false_iff.mpr h2) (And.intro (decide_eq_false h3) (And.intro (decide_eq_false h3) (And.intro (Bool.eq_false_iff.mpr h4) (And.intro (Bool.eq_false_iff.mpr h4) (And.intro (Bool.eq_false_iff.mpr h4) (And.intro (Bool.eq_false_iff.mpr h4) (And.intro (Bool.eq_false_iff.mpr h4) (And.intro (Bool.eq_false_iff.mpr h4) (And.intro (F57_ok (m + 0) (w64 (Int.tdiv (w64 (z308 * 65536)) z309)) z313 h5) True.intro))))))))))))
/-! ## 96 -/
inductive A96 where
  | a0 (z332 : Int) (z333 : Int)
@[reducible] def A96.out : A96 → V × Store
  | .a0 z332 z333 => (V.tup [V.int IntKind.u64 z332, V.int IntKind.u64 z333], [])
def F96 (z329 : Int) (z330 : Int) : Option A96 :=
  some (A96.a0 (IntKind.wrap IntKind.u64 (IntKind.wrap IntKind.u64 (IntKind.wrap IntKind.u64 (Int.fdiv z329 4294967296 * Int.fdiv z330 4294967296) + Int.fdiv (IntKind.wrap IntKind.u64 (IntKind.wrap IntKind.u64 (Int.fdiv z329 4294967296 * IntKind.wrap IntKind.u64 (↑(BitVec.toNat (BitVec.ofInt (IntKind.bits IntKind.u64) z330 &&& BitVec.ofInt (IntKind.bits IntKind.u64) 4294967295)) : Int)) + Int.fdiv (IntKind.wrap IntKind.u64 (IntKind.wrap IntKind.u64 (↑(BitVec.toNat (BitVec.ofInt (IntKind.bits IntKind.u64) z329 &&& BitVec.ofInt (IntKind.bits IntKind.u64) 4294967295)) : Int) * IntKind.wrap IntKind.u64 (↑(BitVec.toNat (BitVec.ofInt (IntKind.bits IntKind.u64) z330 &&& BitVec.ofInt (IntKind.bits IntKind.u64) 4294967295)) : Int))) 4294967296)) 4294967296) + Int.fdiv (IntKind.wrap IntKind.u64 (IntKind.wrap IntKind.u64 (↑(BitVec.toNat (BitVec.ofInt (IntKind.bits IntKind.u64) (IntKind.wrap IntKind.u64 (IntKind.wrap IntKind.u64 (Int.fdiv z329 4294967296 * IntKind.wrap IntKind.u64 (↑(BitVec.toNat (BitVec.ofInt (IntKind.bits IntKind.u64) z330 &&& BitVec.ofInt (IntKind.bits IntKind.u64) 4294967295)) : Int)) + Int.fdiv (IntKind.wrap IntKind.u64 (IntKind.wrap IntKind.u64 (↑(BitVec.toNat (BitVec.ofInt (IntKind.bits IntKind.u64) z329 &&& BitVec.ofInt (IntKind.bits IntKind.u64) 4294967295)) : Int) * IntKind.wrap IntKind.u64 (↑(BitVec.toNat (BitVec.ofInt (IntKind.bits IntKind.u64) z330 &&& BitVec.ofInt (IntKind.bits IntKind.u64) 4294967295)) : Int))) 4294967296)) &&& BitVec.ofInt (IntKind.bits IntKind.u64) 4294967295)) : Int) + IntKind.wrap IntKind.u64 (IntKind.wrap IntKind.u64 (↑(BitVec.toNat (BitVec.ofInt (IntKind.bits IntKind.u64) z329 &&& BitVec.ofInt (IntKind.bits IntKind.u64) 4294967295)) : Int) * Int.fdiv z330 4294967296))) 4294967296)) (IntKind.wrap IntKind.u64 (z329 * z330)))
theorem F96_ok (m : Nat) (z329 : Int) (z330 : Int) (r : A96) (h : F96 z329 z330 = some r) : call Try.prog X O0 100000 (m + 1) 96 ([V.int IntKind.u64 z329, V.int IntKind.u64 z330]) ([]) = some r.out := by
  unfold F96 at h
  cases h
  exact call_pathL (gs := []) (notIn []) rfl rfl (by kernel_rfl) True.intro
/-! ## 93 -/
inductive A93 where
  | a0 (z336 : Int) (z337 : Int)
@[reducible] def A93.out : A93 → V × Store
  | .a0 z336 z337 => (V.tup [V.int IntKind.u64 z336, V.int IntKind.u64 z337], [])
def F93 (z326 : Int) (z327 : Int) : Option A93 :=
  (F96 (IntKind.wrap IntKind.u64 z326) (IntKind.wrap IntKind.u64 z327)).bind fun r => match r with
  | .a0 z334 z335 =>
   if z326 < 0 then
    if z327 < 0 then
     some (A93.a0 (IntKind.wrap IntKind.u64 (IntKind.wrap IntKind.u64 (z334 - IntKind.wrap IntKind.u64 z327) - IntKind.wrap IntKind.u64 z326)) (z335))
    else
     some (A93.a0 (IntKind.wrap IntKind.u64 (z334 - IntKind.wrap IntKind.u64 z327)) (z335))
   else
    if z327 < 0 then
     some (A93.a0 (IntKind.wrap IntKind.u64 (z334 - IntKind.wrap IntKind.u64 z326)) (z335))
    else
     some (A93.a0 (z334) (z335))
theorem F93_ok (m : Nat) (z326 : Int) (z327 : Int) (r : A93) (h : F93 z326 z327 = some r) : call Try.prog X O0 100000 (m + 2) 93 ([i64 z326, i64 z327]) ([]) = some r.out := by
  unfold F93 at h
  obtain ⟨r0, h0, h⟩ := Option.bind_eq_some_iff.mp h
  have h0 := F96_ok (m + 0) (IntKind.wrap IntKind.u64 z326) (IntKind.wrap IntKind.u64 z327) r0 h0
  cases r0 with
  | a0 z334 z335 =>
    rcases ite_eq h with ⟨h1, h⟩ | ⟨h1, h⟩
    · skip
      rcases ite_eq h with ⟨h2, h⟩ | ⟨h2, h⟩
      · skip
        cases h
        exact call_pathL (gs := [.an (V.tup [V.int IntKind.u64 z334, V.int IntKind.u64 z335]) [], .t, .t]) (notIn []) rfl rfl (by kernel_rfl) (And.intro h0 (And.intro (decide_eq_true h1) (And.intro (decide_eq_true h2) True.intro)))
      · skip
        cases h
        exact call_pathL (gs := [.an (V.tup [V.int IntKind.u64 z334, V.int IntKind.u64 z335]) [], .t, .f]) (notIn []) rfl rfl (by kernel_rfl) (And.intro h0 (And.intro (decide_eq_true h1) (And.intro (decide_eq_false h2) True.intro)))
    · skip
      rcases ite_eq h with ⟨h2, h⟩ | ⟨h2, h⟩
      · skip
        cases h
        exact call_pathL (gs := [.an (V.tup [V.int IntKind.u64 z334, V.int IntKind.u64 z335]) [], .f, .t]) (notIn []) rfl rfl (by kernel_rfl) (And.intro h0 (And.intro (decide_eq_false h1) (And.intro (decide_eq_true h2) True.intro)))
      · skip
        cases h
        exact call_pathL (gs := [.an (V.tup [V.int IntKind.u64 z334, V.int IntKind.u64 z335]) [], .f, .f]) (notIn []) rfl rfl (by kernel_rfl) (And.intro h0 (And.intro (decide_eq_false h1) (And.intro (decide_eq_false h2) True.intro)))
/-! ## 92 -/
def F92 (z340 : Int) (z341 : Int) : Int :=
  if Int.fdiv (w64 z340) 65536 < -1 then
   -9223372036854775808
  else
   if (Int.fdiv (w64 z340) 65536 == -1) = true then
    if (Int.fdiv (IntKind.wrap IntKind.u64 (↑(BitVec.toNat (BitVec.ofInt (IntKind.bits IntKind.u64) (IntKind.wrap IntKind.u64 (z340 * 2 ^ min (Int.toNat 48) (IntKind.bits IntKind.u64))) ||| BitVec.ofInt (IntKind.bits IntKind.u64) (Int.fdiv z341 (2 ^ min (Int.toNat 16) (IntKind.bits IntKind.u64))))) : Int)) 9223372036854775808 == 0) = true then
     -9223372036854775808
    else
     if Int.fdiv (w64 z340) 65536 > 0 then
      9223372036854775807
     else
      if (Int.fdiv (w64 z340) 65536 == 0) = true then
       if (Int.fdiv (IntKind.wrap IntKind.u64 (↑(BitVec.toNat (BitVec.ofInt (IntKind.bits IntKind.u64) (IntKind.wrap IntKind.u64 (z340 * 2 ^ min (Int.toNat 48) (IntKind.bits IntKind.u64))) ||| BitVec.ofInt (IntKind.bits IntKind.u64) (Int.fdiv z341 (2 ^ min (Int.toNat 16) (IntKind.bits IntKind.u64))))) : Int)) 9223372036854775808 != 0) = true then
        9223372036854775807
       else
        w64 (IntKind.wrap IntKind.u64 (↑(BitVec.toNat (BitVec.ofInt (IntKind.bits IntKind.u64) (IntKind.wrap IntKind.u64 (z340 * 2 ^ min (Int.toNat 48) (IntKind.bits IntKind.u64))) ||| BitVec.ofInt (IntKind.bits IntKind.u64) (Int.fdiv z341 (2 ^ min (Int.toNat 16) (IntKind.bits IntKind.u64))))) : Int))
      else
       w64 (IntKind.wrap IntKind.u64 (↑(BitVec.toNat (BitVec.ofInt (IntKind.bits IntKind.u64) (IntKind.wrap IntKind.u64 (z340 * 2 ^ min (Int.toNat 48) (IntKind.bits IntKind.u64))) ||| BitVec.ofInt (IntKind.bits IntKind.u64) (Int.fdiv z341 (2 ^ min (Int.toNat 16) (IntKind.bits IntKind.u64))))) : Int))
   else
    if Int.fdiv (w64 z340) 65536 > 0 then
     9223372036854775807
    else
     if (Int.fdiv (w64 z340) 65536 == 0) = true then
      if (Int.fdiv (IntKind.wrap IntKind.u64 (↑(BitVec.toNat (BitVec.ofInt (IntKind.bits IntKind.u64) (IntKind.wrap IntKind.u64 (z340 * 2 ^ min (Int.toNat 48) (IntKind.bits IntKind.u64))) ||| BitVec.ofInt (IntKind.bits IntKind.u64) (Int.fdiv z341 (2 ^ min (Int.toNat 16) (IntKind.bits IntKind.u64))))) : Int)) 9223372036854775808 != 0) = true then
       9223372036854775807
      else
       w64 (IntKind.wrap IntKind.u64 (↑(BitVec.toNat (BitVec.ofInt (IntKind.bits IntKind.u64) (IntKind.wrap IntKind.u64 (z340 * 2 ^ min (Int.toNat 48) (IntKind.bits IntKind.u64))) ||| BitVec.ofInt (IntKind.bits IntKind.u64) (Int.fdiv z341 (2 ^ min (Int.toNat 16) (IntKind.bits IntKind.u64))))) : Int))
     else
      w64 (IntKind.wrap IntKind.u64 (↑(BitVec.toNat (BitVec.ofInt (IntKind.bits IntKind.u64) (IntKind.wrap IntKind.u64 (z340 * 2 ^ min (Int.toNat 48) (IntKind.bits IntKind.u64))) ||| BitVec.ofInt (IntKind.bits IntKind.u64) (Int.fdiv z341 (2 ^ min (Int.toNat 16) (IntKind.bits IntKind.u64))))) : Int))
theorem F92_ok (m : Nat) (z340 : Int) (z341 : Int) (z344 : Int) (h : F92 z340 z341 = z344) : call Try.prog X O0 100000 (m + 1) 92 ([V.int IntKind.u64 z340, V.int IntKind.u64 z341]) ([]) = some (i64 z344, []) := by
  unfold F92 at h
  rcases ite_eq h with ⟨h0, h⟩ | ⟨h0, h⟩
  · skip
    subst h
    exact call_pathL (gs := [.t, .t, .t, .t, .t, .a]) (notIn []) rfl rfl (by kernel_rfl) (And.intro (decide_eq_true h0) (And.intro (decide_eq_true h0) (And.intro (decide_eq_true h0) (And.intro (decide_eq_true h0) (And.intro (decide_eq_true h0) True.intro)))))
  · skip
    rcases ite_eq h with ⟨h1, h⟩ | ⟨h1, h⟩
    · skip
      rcases ite_eq h with ⟨h2, h⟩ | ⟨h2, h⟩
      · skip
        subst h
        exact call_pathL (gs := [.f, .f, .f, .t, .t, .t, .f, .t, .f, .t]) (notIn []) rfl rfl (by kernel_rfl) (And.intro (decide_eq_false h0) (And.intro (decide_eq_false h0) (And.intro (decide_eq_false h0) (And.intro h1 (And.intro h1 (And.intro h1 (And.intro (decide_eq_false h0) (And.intro h1 (And.intro (decide_eq_false h0) (And.intro h2 True.intro))))))))))
      · skip
        rcases ite_eq h with ⟨h3, h⟩ | ⟨h3, h⟩
        · skip
          subst h
          exact call_pathL (gs := [.f, .f, .f, .t, .t, .t, .f, .t, .f, .f, .t, .t, .t, .t, .t, .a]) (notIn []) rfl rfl (by kernel_rfl) (And.intro (decide_eq_false h0) (And.intro (decide_eq_false h0) (And.intro (decide_eq_false h0) (And.intro h1 (And.intro h1 (And.intro h1 (And.intro (decide_eq_false h0) (And.intro h1 (And.intro (decide_eq_false h0) (And.intro (Bool.eq_false_iff.mpr h2) (And.intro (decide_eq_true h3) (And.intro (decide_eq_true h3) (And.intro (decide_eq_true h3) (And.intro (decide_eq_true h3) (And.intro (decide_eq_true h3) True.intro)))))))))))))))
        · skip
          rcases ite_eq h with ⟨h4, h⟩ | ⟨h4, h⟩
          · skip
            rcases ite_eq h with ⟨h5, h⟩ | ⟨h5, h⟩
            · skip
              subst h
              exact call_pathL (gs := [.f, .f, .f, .t, .t, .t, .f, .t, .f, .f, .f, .f, .f, .t, .t, .t, .f, .t, .f, .t]) (notIn []) rfl rfl (by kernel_rfl) (And.intro (decide_eq_false h0) (And.intro (decide_eq_false h0) (And.intro (decide_eq_false h0) (And.intro h1 (And.intro h1 (And.intro h1 (And.intro (decide_eq_false h0) (And.intro h1 (And.intro (decide_eq_false h0) (And.intro (Bool.eq_false_iff.mpr h2) (And.intro (decide_eq_false h3) (And.intro (decide_eq_false h3) (And.intro (decide_eq_false h3) (And.intro h4 (And.intro h4 (And.intro h4 (And.intro (decide_eq_false h3) (And.intro h4 (And.intro (decide_eq_false h3) (And.intro h5 True.intro))))))))))))))))))))
            · skip
              subst h
              exact call_pathL (gs := [.f, .f, .f, .t, .t, .t, .f, .t, .f, .f, .f, .f, .f, .t, .t, .t, .f, .t, .f, .f]) (notIn []) rfl rfl (by kernel_rfl) (And.intro (decide_eq_false h0) (And.intro (decide_eq_false h0) (And.intro (decide_eq_false h0) (And.intro h1 (And.intro h1 (And.intro h1 (And.intro (decide_eq_false h0) (And.intro h1 (And.intro (decide_eq_false h0) (And.intro (Bool.eq_false_iff.mpr h2) (And.intro (decide_eq_false h3) (And.intro (decide_eq_false h3) (And.intro (decide_eq_false h3) (And.intro h4 (And.intro h4 (And.intro h4 (And.intro (decide_eq_false h3) (And.intro h4 (And.intro (decide_eq_false h3) (And.intro (Bool.eq_false_iff.mpr h5) True.intro))))))))))))))))))))
          · skip
            subst h
            exact call_pathL (gs := [.f, .f, .f, .t, .t, .t, .f, .t, .f, .f, .f, .f, .f, .f, .f, .f, .f, .f, .f, .a]) (notIn []) rfl rfl (by kernel_rfl) (And.intro (decide_eq_false h0) (And.intro (decide_eq_false h0) (And.intro (decide_eq_false h0) (And.intro h1 (And.intro h1 (And.intro h1 (And.intro (decide_eq_false h0) (And.intro h1 (And.intro (decide_eq_false h0) (And.intro (Bool.eq_false_iff.mpr h2) (And.intro (decide_eq_false h3) (And.intro (decide_eq_false h3) (And.intro (decide_eq_false h3) (And.intro (Bool.eq_false_iff.mpr h4) (And.intro (Bool.eq_false_iff.mpr h4) (And.intro (Bool.eq_false_iff.mpr h4) (And.intro (decide_eq_false h3) (And.intro (Bool.eq_false_iff.mpr h4) (And.intro (decide_eq_false h3) True.intro)))))))))))))))))))
    · skip
      rcases ite_eq h with ⟨h2, h⟩ | ⟨h2, h⟩
      · skip
        subst h
        exact call_pathL (gs := [.f, .f, .f, .f, .f, .f, .f, .f, .f, .a, .t, .t, .t, .t, .t, .a]) (notIn []) rfl rfl (by kernel_rfl) (And.intro (decide_eq_false h0) (And.intro (decide_eq_false h0) (And.intro (decide_eq_false h0) (And.intro (Bool.eq_false_iff.mpr h1) (And.intro (Bool.eq_false_iff.mpr h1) (And.intro (Bool.eq_false_iff.mpr h1) (And.intro (decide_eq_false h0) (And.intro (Bool.eq_false_iff.mpr h1) (And.intro (decide_eq_false h0) (And.intro (decide_eq_true h2) (And.intro (decide_eq_true h2) (And.intro (decide_eq_true h2) (And.intro (decide_eq_true h2) (And.intro (decide_eq_true h2) True.intro))))))))))))))
      · skip
        rcases ite_eq h with ⟨h3, h⟩ | ⟨h3, h⟩
        · skip
          rcases ite_eq h with ⟨h4, h⟩ | ⟨h4, h⟩
          · skip
            subst h
            exact call_pathL (gs := [.f, .f, .f, .f, .f, .f, .f, .f, .f, .a, .f, .f, .f, .t, .t, .t, .f, .t, .f, .t]) (notIn []) rfl rfl (by kernel_rfl) (And.intro (decide_eq_false h0) (And.intro (decide_eq_false h0) (And.intro (decide_eq_false h0) (And.intro (Bool.eq_false_iff.mpr h1) (And.intro (Bool.eq_false_iff.mpr h1) (And.intro (Bool.eq_false_iff.mpr h1) (And.intro (decide_eq_false h0) (And.intro (Bool.eq_false_iff.mpr h1) (And.intro (decide_eq_false h0) (And.intro (decide_eq_false h2) (And.intro (decide_eq_false h2) (And.intro (decide_eq_false h2) (And.intro h3 (And.intro h3 (And.intro h3 (And.intro (decide_eq_false h2) (And.intro h3 (And.intro (decide_eq_false h2) (And.intro h4 True.intro)))))))))))))))))))
          · skip
            subst h
            exact call_pathL (gs := [.f, .f, .f, .f, .f, .f, .f, .f, .f, .a, .f, .f, .f, .t, .t, .t, .f, .t, .f, .f]) (notIn []) rfl rfl (by kernel_rfl) (And.intro (decide_eq_false h0) (And.intro (decide_eq_false h0) (And.intro (decide_eq_false h0) (And.intro (Bool.eq_false_iff.mpr h1) (And.intro (Bool.eq_false_iff.mpr h1) (And.intro (Bool.eq_false_iff.mpr h1) (And.intro (decide_eq_false h0) (And.intro (Bool.eq_false_iff.mpr h1) (And.intro (decide_eq_false h0) (And.intro (decide_eq_false h2) (And.intro (decide_eq_false h2) (And.intro (decide_eq_false h2) (And.intro h3 (And.intro h3 (And.intro h3 (And.intro (decide_eq_false h2) (And.intro h3 (And.intro (decide_eq_false h2) (And.intro (Bool.eq_false_iff.mpr h4) True.intro)))))))))))))))))))
        · skip
          subst h
          exact call_pathL (gs := [.f, .f, .f, .f, .f, .f, .f, .f, .f, .a, .f, .f, .f, .f, .f, .f, .f, .f, .f, .a]) (notIn []) rfl rfl (by kernel_rfl) (And.intro (decide_eq_false h0) (And.intro (decide_eq_false h0) (And.intro (decide_eq_false h0) (And.intro (Bool.eq_false_iff.mpr h1) (And.intro (Bool.eq_false_iff.mpr h1) (And.intro (Bool.eq_false_iff.mpr h1) (And.intro (decide_eq_false h0) (And.intro (Bool.eq_false_iff.mpr h1) (And.intro (decide_eq_false h0) (And.intro (decide_eq_false h2) (And.intro (decide_eq_false h2) (And.intro (decide_eq_false h2) (And.intro (Bool.eq_false_iff.mpr h3) (And.intro (Bool.eq_false_iff.mpr h3) (And.intro (Bool.eq_false_iff.mpr h3) (And.intro (decide_eq_false h2) (And.intro (Bool.eq_false_iff.mpr h3) (And.intro (decide_eq_false h2) True.intro))))))))))))))))))
/-! ## 63 -/
inductive A63 where
  | a0 (z347 : Int)
@[reducible] def A63.out : A63 → V × Store
  | .a0 z347 => (i64 z347, [])
def F63 (z321 : Int) (z322 : Int) : Option A63 :=
  bnd (F57 (z321)) fun z324 =>
  bnd (F57 (z322)) fun z325 =>
  (F93 (z324) (z325)).bind fun r => match r with
  | .a0 z338 z339 =>
   bnd (F92 (z338) (z339)) fun z345 =>
   bnd (F57 (z345)) fun z346 =>
   some (A63.a0 (z346))
theorem F63_ok (m : Nat) (z321 : Int) (z322 : Int) (r : A63) (h : F63 z321 z322 = some r) : call Try.prog X O0 100000 (m + 3) 63 ([i64 z321, i64 z322]) ([]) = some r.out := by
  unfold F63 at h
  obtain ⟨z324, h0, h⟩ := bnd_eq h
  obtain ⟨z325, h1, h⟩ := bnd_eq h
  obtain ⟨r2, h2, h⟩ := Option.bind_eq_some_iff.mp h
  have h2 := F93_ok (m + 0) (z324) (z325) r2 h2
  cases r2 with
  | a0 z338 z339 =>
    obtain ⟨z345, h3, h⟩ := bnd_eq h
    obtain ⟨z346, h4, h⟩ := bnd_eq h
    cases h
    exact call_pathL (gs := [.an (i64 z324) [], .an (i64 z325) [], .an (V.tup [V.int IntKind.u64 z338, V.int IntKind.u64 z339]) [], .an (i64 z345) [], .an (i64 z346) []]) (notIn []) rfl rfl (by kernel_rfl) (And.intro (F57_ok (m + 0) (z321) z324 h0) (And.intro (F57_ok (m + 0) (z322) z325 h1) (And.intro h2 (And.intro (F92_ok (m + 1) (z338) (z339) z345 h3) (And.intro (F57_ok (m + 0) (z345) z346 h4) True.intro)))))
/-! ## 48 -/
inductive A48 where
  | a0 (z350 : Int)
@[reducible] def A48.out : A48 → V × Store
  | .a0 z350 => (i64 z350, [])
def F48 (z315 : Int) (z316 : Int) (z317 : Int) : Option A48 :=
  bnd (F57 (z315)) fun z319 =>
  bnd (F56 (z316) (w64 (0 - z319))) fun z320 =>
  (F63 (z320) (z317)).bind fun r => match r with
  | .a0 z348 =>
   bnd (F56 (z319) (z348)) fun z349 =>
   some (A48.a0 (z349))
theorem F48_ok (m : Nat) (z315 : Int) (z316 : Int) (z317 : Int) (r : A48) (h : F48 z315 z316 z317 = some r) : call Try.prog X O0 100000 (m + 4) 48 ([i64 z315, i64 z316, i64 z317]) ([]) = some r.out := by
  unfold F48 at h
  obtain ⟨z319, h0, h⟩ := bnd_eq h
  obtain ⟨z320, h1, h⟩ := bnd_eq h
  obtain ⟨r2, h2, h⟩ := Option.bind_eq_some_iff.mp h
  have h2 := F63_ok (m + 0) (z320) (z317) r2 h2
  cases r2 with
  | a0 z348 =>
    obtain ⟨z349, h3, h⟩ := bnd_eq h
    cases h
    exact call_pathL (gs := [.an (i64 z319) [], .an (i64 z320) [], .an (i64 z348) [], .an (i64 z349) []]) (notIn []) rfl rfl (by kernel_rfl) (And.intro (F57_ok (m + 1) (z315) z319 h0) (And.intro (F56_ok (m + 0) (z316) (w64 (0 - z319)) z320 h1) (And.intro h2 (And.intro (F56_ok (m + 0) (z319) (z348) z349 h3) True.intro))))
/-! ## 39 -/
inductive A39 where
  | a0 (z303 : Int) (z304 : Int)
@[reducible] def A39.out : A39 → V × Store
  | .a0 z303 z304 => (V.agg [i64 z303, i64 z304], [])
def F39 (z292 : Int) (z293 : Int) (z294 : Int) (z295 : Int) (z296 : Int) (z297 : Int) : Option A39 :=
  (F71 (z292) (z293)).bind fun r => match r with
  | .a0 z299 z300 =>
   (F71 (z294) (z295)).bind fun r => match r with
   | .a0 z301 z302 =>
    if z296 ≤ 0 then
     some (A39.a0 (z299) (z300))
    else
     if z296 ≥ z297 then
      some (A39.a0 (z301) (z302))
     else
      (F72 (z296) (z297)).bind fun r => match r with
      | .a0 z314 =>
       (F48 (z299) (z301) (z314)).bind fun r => match r with
       | .a0 z351 =>
        (F48 (z300) (z302) (z314)).bind fun r => match r with
        | .a0 z352 =>
         some (A39.a0 (z351) (z352))
theorem F39_ok (m : Nat) (z292 : Int) (z293 : Int) (z294 : Int) (z295 : Int) (z296 : Int) (z297 : Int) (r : A39) (h : F39 z292 z293 z294 z295 z296 z297 = some r) : call Try.prog X O0 100000 (m + 5) 39 ([V.agg [i64 z292, i64 z293], V.agg [i64 z294, i64 z295], i64 z296, i64 z297]) ([]) = some r.out := by
  unfold F39 at h
  obtain ⟨r0, h0, h⟩ := Option.bind_eq_some_iff.mp h
  have h0 := F71_ok (m + 1) (z292) (z293) r0 h0
  cases r0 with
  | a0 z299 z300 =>
    obtain ⟨r1, h1, h⟩ := Option.bind_eq_some_iff.mp h
    have h1 := F71_ok (m + 1) (z294) (z295) r1 h1
    cases r1 with
    | a0 z301 z302 =>
      rcases ite_eq h with ⟨h2, h⟩ | ⟨h2, h⟩
      · skip
        cases h
        exact call_pathL (gs := [.a, .an (V.agg [i64 z299, i64 z300]) [], .a, .an (V.agg [i64 z301, i64 z302]) [], .a, .a, .ft [⟨0, [0], []⟩, ⟨1, [], []⟩, ⟨2, [1], []⟩, ⟨3, [], []⟩, ⟨4, [0], [0]⟩, ⟨5, [1], [1]⟩], .t, .a, .a]) (notIn []) rfl rfl (by kernel_rfl) (And.intro h0 (And.intro h1 (And.intro (Eq.refl ([⟨0, [0], []⟩, ⟨1, [], []⟩, ⟨2, [1], []⟩, ⟨3, [], []⟩, ⟨4, [0], [0]⟩, ⟨5, [1], [1]⟩] : List Foot)) (And.intro (decide_eq_true h2) True.intro))))
      · skip
        rcases ite_eq h with ⟨h3, h⟩ | ⟨h3, h⟩
        · skip
          cases h
          exact call_pathL (gs := [.a, .an (V.agg [i64 z299, i64 z300]) [], .a, .an (V.agg [i64 z301, i64 z302]) [], .a, .a, .ft [⟨0, [0], []⟩, ⟨1, [], []⟩, ⟨2, [1], []⟩, ⟨3, [], []⟩, ⟨4, [0], [0]⟩, ⟨5, [1], [1]⟩], .f, .t, .a, .a]) (notIn []) rfl rfl (by kernel_rfl) (And.intro h0 (And.intro h1 (And.intro (Eq.refl ([⟨0, [0], []⟩, ⟨1, [], []⟩, ⟨2, [1], []⟩, ⟨3, [], []⟩, ⟨4, [0], [0]⟩, ⟨5, [1], [1]⟩] : List Foot)) (And.intro (decide_eq_false h2) (And.intro (decide_eq_true h3) True.intro)))))
        · skip
          obtain ⟨r4, h4, h⟩ := Option.bind_eq_some_iff.mp h
          have h4 := F72_ok (m + 1) (z296) (z297) r4 h4
          cases r4 with
          | a0 z314 =>
            obtain ⟨r5, h5, h⟩ := Option.bind_eq_some_iff.mp h
            have h5 := F48_ok (m + 0) (z299) (z301) (z314) r5 h5
            cases r5 with
            | a0 z351 =>
              obtain ⟨r6, h6, h⟩ := Option.bind_eq_some_iff.mp h
              have h6 := F48_ok (m + 0) (z300) (z302) (z314) r6 h6
              cases r6 with
              | a0 z352 =>
                cases h
                exact call_pathL (gs := [.a, .an (V.agg [i64 z299, i64 z300]) [], .a, .an (V.agg [i64 z301, i64 z302]) [], .a, .a, .ft [⟨0, [0], []⟩, ⟨1, [], []⟩, ⟨2, [1], []⟩, ⟨3, [], []⟩, ⟨4, [0], [0]⟩, ⟨5, [1], [1]⟩], .f, .f, .an (i64 z314) [], .a, .a, .an (i64 z351) [], .a, .a, .an (i64 z352) [], .a, .ft [⟨0, [0], []⟩, ⟨1, [0], []⟩, ⟨2, [1], []⟩, ⟨3, [1], []⟩, ⟨4, [], []⟩, ⟨5, [], []⟩, ⟨6, [0], []⟩, ⟨7, [0], []⟩, ⟨8, [1], []⟩, ⟨9, [1], []⟩, ⟨10, [], []⟩, ⟨11, [], []⟩, ⟨12, [], []⟩, ⟨13, [2], [2]⟩]]) (notIn []) rfl rfl (by kernel_rfl) (And.intro h0 (And.intro h1 (And.intro (Eq.refl ([⟨0, [0], []⟩, ⟨1, [], []⟩, ⟨2, [1], []⟩, ⟨3, [], []⟩, ⟨4, [0], [0]⟩, ⟨5, [1], [1]⟩] : List Foot)) (And.intro (decide_eq_false h2) (And.intro (decide_eq_false h3) (And.intro h4 (And.intro h5 (And.intro h6 (And.intro (Eq.refl ([⟨0, [0], []⟩, ⟨1, [0], []⟩, ⟨2, [1], []⟩, ⟨3, [1], []⟩, ⟨4, [], []⟩, ⟨5, [], []⟩, ⟨6, [0], []⟩, ⟨7, [0], []⟩, ⟨8, [1], []⟩, ⟨9, [1], []⟩, ⟨10, [], []⟩, ⟨11, [], []⟩, ⟨12, [], []⟩, ⟨13, [2], [2]⟩] : List Foot)) True.intro)))))))))
/-! ## 24 -/
noncomputable abbrev B24 : Code := (Try.f24.body).getD .skip
inductive R24_0 where
  | e0
  | e1 (k478 : Nat) (l479 : List (List V))
@[reducible] def s24_0_0 (z445 : Int) (z446 : Int) (z447 : Int) (z448 : Int) (z449 : Int) (b450 : Bool) (b451 : Bool) (l452 : List (List V)) : S := { T := U :: i64 z445 :: i64 z446 :: V.ptr 0 0 0 :: U :: U :: V.ptr 1 0 0 :: V.ptr 2 0 0 :: i64 z447 :: un 13 (i64 z448 :: i64 z449 :: vb b450 :: un 55 []), σ := [Ob.cells true false 2 [[vb b451, V.list 2 l452]], Ob.cells true false 2 [[vb false, V.nilS]], Ob.cells true false 2 [[vb false, V.nilS]]] }
@[reducible] def s24_0_1 (z470 : Int) (z471 : Int) (z472 : Int) (z473 : Int) (z474 : Int) (b475 : Bool) (b476 : Bool) (l477 : List (List V)) (k478 : Nat) (l479 : List (List V)) : S := { T := U :: i64 z470 :: i64 z471 :: V.ptr 0 0 0 :: U :: U :: V.ptr 1 0 0 :: V.ptr 2 0 0 :: i64 z472 :: un 13 (i64 z473 :: i64 z474 :: vb b475 :: un 55 []), σ := [Ob.cells true false 2 [[vb b476, V.list 2 l477]], Ob.cells true false 2 [[vb false, V.nilS]], Ob.cells true false 2 [[vb false, V.hs 3 0 k478]], Ob.cells true true 2 l479] }
def R24_0.St : R24_0 → VX × S → Prop
  | .e0, p => ∃ z445 : Int, ∃ z446 : Int, ∃ z447 : Int, ∃ z448 : Int, ∃ z449 : Int, ∃ b450 : Bool, ∃ b451 : Bool, ∃ l452 : List (List V), p = (VX.exit 0, s24_0_0 z445 z446 z447 z448 z449 b450 b451 l452)
  | .e1 k478 l479, p => ∃ z470 : Int, ∃ z471 : Int, ∃ z472 : Int, ∃ z473 : Int, ∃ z474 : Int, ∃ b475 : Bool, ∃ b476 : Bool, ∃ l477 : List (List V), p = (VX.exit 0, s24_0_1 z470 z471 z472 z473 z474 b475 b476 l477 k478 l479)
def L24_0s1 : Nat → Int → Int → Int → Int → Int → Bool → List (List V) → Nat → List (List V) → Option R24_0
  | 0, _, _, _, _, _, _, _, _, _ => none
  | n + 1, z390, z391, z392, z393, z394, b395, l396, k397, l398 =>
    if z394 < z393 then
     (F55v1 (b395) (l396) (z394)).bind fun r => match r with
     | .a0 z453 z454 z455 z456 z457 =>
      if z457 > 0 then
       bnd (F56 (z392) (z457)) fun z458 =>
       if z458 > z390 then
        if z392 < z391 then
         if ((↑k397 : Int) == 0) = true then
          (F39 (z453) (z454) (z455) (z456) (w64 (z390 - z392)) (z457)).bind fun r => match r with
          | .a0 z459 z460 =>
           if 0 + k397 ≤ List.length l398 ∧ (k397 + 1) * 16 ≤ 140737488355328 ∧ k397 + 1 ≤ 140737488355328 then
            (F39 (z453) (z454) (z455) (z456) (w64 (z391 - z392)) (z457)).bind fun r => match r with
            | .a0 z461 z462 =>
             if 0 + (k397 + 1) ≤ List.length (List.take k397 l398 ++ [[i64 z459, i64 z460]]) ∧ (k397 + 1 + 1) * 16 ≤ 140737488355328 ∧ k397 + 1 + 1 ≤ 140737488355328 then
              bnd (F56 (z392) (z457)) fun z463 =>
              L24_0s1 n (z390) (z391) (z463) (z393) (w64 (z394 + 1)) (b395) (l396) (k397 + 1 + 1) (List.take (k397 + 1) (List.take k397 l398 ++ [[i64 z459, i64 z460]]) ++ [[i64 z461, i64 z462]])
             else
              none -- none
           else
            none -- none
         else
          (F39 (z453) (z454) (z455) (z456) (w64 (z391 - z392)) (z457)).bind fun r => match r with
          | .a0 z464 z465 =>
           if 0 + k397 ≤ List.length l398 ∧ (k397 + 1) * 16 ≤ 140737488355328 ∧ k397 + 1 ≤ 140737488355328 then
            bnd (F56 (z392) (z457)) fun z466 =>
            L24_0s1 n (z390) (z391) (z466) (z393) (w64 (z394 + 1)) (b395) (l396) (k397 + 1) (List.take k397 l398 ++ [[i64 z464, i64 z465]])
           else
            none -- none
        else
         bnd (F56 (z392) (z457)) fun z467 =>
         L24_0s1 n (z390) (z391) (z467) (z393) (w64 (z394 + 1)) (b395) (l396) (k397) (l398)
       else
        bnd (F56 (z392) (z457)) fun z468 =>
        L24_0s1 n (z390) (z391) (z468) (z393) (w64 (z394 + 1)) (b395) (l396) (k397) (l398)
      else
       bnd (F56 (z392) (z457)) fun z469 =>
       L24_0s1 n (z390) (z391) (z469) (z393) (w64 (z394 + 1)) (b395) (l396) (k397) (l398)
    else
     some (R24_0.e1 (k397) (l398))
theorem L24_0s1_ok (m : Nat) : ∀ (n : Nat) (z390 : Int) (z391 : Int) (z392 : Int) (z393 : Int) (z394 : Int) (b395 : Bool) (l396 : List (List V)) (k397 : Nat) (l398 : List (List V)) (r : R24_0), L24_0s1 n z390 z391 z392 z393 z394 b395 l396 k397 l398 = some r → ∃ st, loopFrom Try.prog X (call Try.prog X O0 100000 (m + 5)) 24 (0) 100000 B24 0 n ({ T := U :: i64 z390 :: i64 z391 :: V.ptr 0 0 0 :: U :: U :: V.ptr 1 0 0 :: V.ptr 2 0 0 :: i64 z392 :: un 13 (i64 z393 :: i64 z394 :: un 56 []), σ := [Ob.cells true false 2 [[vb b395, V.list 2 l396]], Ob.cells true false 2 [[vb false, V.nilS]], Ob.cells true false 2 [[vb false, V.hs 3 0 k397]], Ob.cells true true 2 l398] }) = some st ∧ r.St st
  | 0, _, _, _, _, _, _, _, _, _, r, h => by cases h
  | n + 1, z390, z391, z392, z393, z394, b395, l396, k397, l398, r, h => by
    rw [L24_0s1] at h
    rcases ite_eq h with ⟨h0, h⟩ | ⟨h0, h⟩
    · skip
      obtain ⟨r1, h1, h⟩ := Option.bind_eq_some_iff.mp h
      have h1 := F55v1_ok (m + 1) (b395) (l396) (z394) r1 h1
      cases r1 with
      | a0 z453 z454 z455 z456 z457 =>
        rcases ite_eq h with ⟨h2, h⟩ | ⟨h2, h⟩
        · skip
          obtain ⟨z458, h3, h⟩ := bnd_eq h
          rcases ite_eq h with ⟨h4, h⟩ | ⟨h4, h⟩
          · skip
            rcases ite_eq h with ⟨h5, h⟩ | ⟨h5, h⟩
            · skip
              rcases ite_eq h with ⟨h6, h⟩ | ⟨h6, h⟩
              · skip
                obtain ⟨r7, h7, h⟩ := Option.bind_eq_some_iff.mp h
                have h7 := F39_ok (m + 0) (z453) (z454) (z455) (z456) (w64 (z390 - z392)) (z457) r7 h7
                cases r7 with
                | a0 z459 z460 =>
                  rcases ite_eq h with ⟨h8, h⟩ | ⟨h8, h⟩
                  · skip
                    obtain ⟨r9, h9, h⟩ := Option.bind_eq_some_iff.mp h
                    have h9 := F39_ok (m + 0) (z453) (z454) (z455) (z456) (w64 (z391 - z392)) (z457) r9 h9
                    cases r9 with
                    | a0 z461 z462 =>
                      rcases ite_eq h with ⟨h10, h⟩ | ⟨h10, h⟩
                      · skip
                        obtain ⟨z463, h11, h⟩ := bnd_eq h
                        obtain ⟨st, hs, hr⟩ := L24_0s1_ok m n (z390) (z391) (z463) (z393) (w64 (z394 + 1)) (b395) (l396) (k397 + 1 + 1) (List.take (k397 + 1) (List.take k397 l398 ++ [[i64 z459, i64 z460]]) ++ [[i64 z461, i64 z462]]) r h
                        exact ⟨st, (round_on (gs := [.t, .a, .an (V.tup [V.agg [i64 z453, i64 z454], V.agg [i64 z455, i64 z456], i64 z457]) [], .a, .a, .t, .t, .t, .an (i64 z458) [], .t, .t, .t, .t, .t, .t, .t, .t, .a, .t, .a, .a, .a, .an (V.agg [i64 z459, i64 z460]) [], .a, .t, .a, .ft [⟨0, [2], []⟩, ⟨1, [2], []⟩, ⟨2, [7], []⟩, ⟨3, [8], []⟩, ⟨4, [], []⟩, ⟨5, [], []⟩, ⟨6, [], []⟩, ⟨7, [], []⟩, ⟨8, [], []⟩, ⟨9, [9], [9]⟩, ⟨10, [9, 10, 3], [3, 10]⟩, ⟨11, [2], []⟩, ⟨12, [2], [2]⟩], .a, .a, .a, .an (V.agg [i64 z461, i64 z462]) [], .a, .t, .a, .ft [⟨0, [2], []⟩, ⟨1, [2], []⟩, ⟨2, [7], []⟩, ⟨3, [8], []⟩, ⟨4, [], []⟩, ⟨5, [], []⟩, ⟨6, [], []⟩, ⟨7, [], []⟩, ⟨8, [], []⟩, ⟨9, [11], [11]⟩, ⟨10, [11, 12, 10], [10, 12]⟩, ⟨11, [2], []⟩, ⟨12, [2], [2]⟩], .an (i64 z463) []]) (notIn []) (by kernel_rfl) (And.intro (decide_eq_true h0) (And.intro h1 (And.intro (decide_eq_true h2) (And.intro (decide_eq_true h2) (And.intro (decide_eq_true h2) (And.intro (F56_ok (m + 2) (z392) (z457) z458 h3) (And.intro (decide_eq_true h2) (And.intro (decide_eq_true h2) (And.intro (decide_eq_true h2) (And.intro (decide_eq_true h4) (And.intro (decide_eq_true h4) (And.intro (decide_eq_true h4) (And.intro (decide_eq_true h4) (And.intro (decide_eq_true h5) (And.intro h6 (And.intro h7 (And.intro (decide_eq_true h8) (And.intro (Eq.refl ([⟨0, [2], []⟩, ⟨1, [2], []⟩, ⟨2, [7], []⟩, ⟨3, [8], []⟩, ⟨4, [], []⟩, ⟨5, [], []⟩, ⟨6, [], []⟩, ⟨7, [], []⟩, ⟨8, [], []⟩, ⟨9, [9], [9]⟩, ⟨10, [9, 10, 3], [3, 10]⟩, ⟨11, [2], []⟩, ⟨12, [2], [2]⟩] : List Foot)) (And.intro h9 (And.intro (decide_eq_true h10) (And.intro (Eq.refl ([⟨0, [2], []⟩, ⟨1, [2], []⟩, ⟨2, [7], []⟩, ⟨3, [8], []⟩, ⟨4, [], []⟩, ⟨5, [], []⟩, ⟨6, [], []⟩, ⟨7, [], []⟩, ⟨8, [], []⟩, ⟨9, [11], [11]⟩, ⟨10, [11, 12, 10], [10, 12]⟩, ⟨11, [2], []⟩, ⟨12, [2], [2]⟩] : List Foot)) (And.intro (F56_ok (m + 2) (z392) (z457) z463 h11) True.intro)))))))))))))))))))))) n).trans hs, hr⟩
                      · skip
                        cases h
                  · skip
                    cases h
              · skip
                obtain ⟨r7, h7, h⟩ := Option.bind_eq_some_iff.mp h
                have h7 := F39_ok (m + 0) (z453) (z454) (z455) (z456) (w64 (z391 - z392)) (z457) r7 h7
                cases r7 with
                | a0 z464 z465 =>
                  rcases ite_eq h with ⟨h8, h⟩ | ⟨h8, h⟩
                  · skip
                    obtain ⟨z466, h9, h⟩ := bnd_eq h
                    obtain ⟨st, hs, hr⟩ := L24_0s1_ok m n (z390) (z391) (z466) (z393) (w64 (z394 + 1)) (b395) (l396) (k397 + 1) (List.take k397 l398 ++ [[i64 z464, i64 z465]]) r h
                    exact ⟨st, (round_on (gs := [.t, .a, .an (V.tup [V.agg [i64 z453, i64 z454], V.agg [i64 z455, i64 z456], i64 z457]) [], .a, .a, .t, .t, .t, .an (i64 z458) [], .t, .t, .t, .t, .t, .t, .t, .t, .a, .f, .a, .a, .a, .an (V.agg [i64 z464, i64 z465]) [], .a, .t, .a, .ft [⟨0, [2], []⟩, ⟨1, [2], []⟩, ⟨2, [7], []⟩, ⟨3, [8], []⟩, ⟨4, [], []⟩, ⟨5, [], []⟩, ⟨6, [], []⟩, ⟨7, [], []⟩, ⟨8, [], []⟩, ⟨9, [9], [9]⟩, ⟨10, [9, 10, 3], [3, 10]⟩, ⟨11, [2], []⟩, ⟨12, [2], [2]⟩], .an (i64 z466) []]) (notIn []) (by kernel_rfl) (And.intro (decide_eq_true h0) (And.intro h1 (And.intro (decide_eq_true h2) (And.intro (decide_eq_true h2) (And.intro (decide_eq_true h2) (And.intro (F56_ok (m + 2) (z392) (z457) z458 h3) (And.intro (decide_eq_true h2) (And.intro (decide_eq_true h2) (And.intro (decide_eq_true h2) (And.intro (decide_eq_true h4) (And.intro (decide_eq_true h4) (And.intro (decide_eq_true h4) (And.intro (decide_eq_true h4) (And.intro (decide_eq_true h5) (And.intro (Bool.eq_false_iff.mpr h6) (And.intro h7 (And.intro (decide_eq_true h8) (And.intro (Eq.refl ([⟨0, [2], []⟩, ⟨1, [2], []⟩, ⟨2, [7], []⟩, ⟨3, [8], []⟩, ⟨4, [], []⟩, ⟨5, [], []⟩, ⟨6, [], []⟩, ⟨7, [], []⟩, ⟨8, [], []⟩, ⟨9, [9], [9]⟩, ⟨10, [9, 10, 3], [3, 10]⟩, ⟨11, [2], []⟩, ⟨12, [2], [2]⟩] : List Foot)) (And.intro (F56_ok (m + 2) (z392) (z457) z466 h9) True.intro))))))))))))))))))) n).trans hs, hr⟩
                  · skip
                    cases h
            · skip
              obtain ⟨z467, h6, h⟩ := bnd_eq h
              obtain ⟨st, hs, hr⟩ := L24_0s1_ok m n (z390) (z391) (z467) (z393) (w64 (z394 + 1)) (b395) (l396) (k397) (l398) r h
              exact ⟨st, (round_on (gs := [.t, .a, .an (V.tup [V.agg [i64 z453, i64 z454], V.agg [i64 z455, i64 z456], i64 z457]) [], .a, .a, .t, .t, .t, .an (i64 z458) [], .t, .t, .t, .t, .t, .t, .t, .f, .an (i64 z467) []]) (notIn []) (by kernel_rfl) (And.intro (decide_eq_true h0) (And.intro h1 (And.intro (decide_eq_true h2) (And.intro (decide_eq_true h2) (And.intro (decide_eq_true h2) (And.intro (F56_ok (m + 2) (z392) (z457) z458 h3) (And.intro (decide_eq_true h2) (And.intro (decide_eq_true h2) (And.intro (decide_eq_true h2) (And.intro (decide_eq_true h4) (And.intro (decide_eq_true h4) (And.intro (decide_eq_true h4) (And.intro (decide_eq_true h4) (And.intro (decide_eq_false h5) (And.intro (F56_ok (m + 2) (z392) (z457) z467 h6) True.intro))))))))))))))) n).trans hs, hr⟩
          · skip
            obtain ⟨z468, h5, h⟩ := bnd_eq h
            obtain ⟨st, hs, hr⟩ := L24_0s1_ok m n (z390) (z391) (z468) (z393) (w64 (z394 + 1)) (b395) (l396) (k397) (l398) r h
            exact ⟨st, (round_on (gs := [.t, .a, .an (V.tup [V.agg [i64 z453, i64 z454], V.agg [i64 z455, i64 z456], i64 z457]) [], .a, .a, .t, .t, .t, .an (i64 z458) [], .t, .t, .t, .f, .f, .f, .f, .a, .an (i64 z468) []]) (notIn []) (by kernel_rfl) (And.intro (decide_eq_true h0) (And.intro h1 (And.intro (decide_eq_true h2) (And.intro (decide_eq_true h2) (And.intro (decide_eq_true h2) (And.intro (F56_ok (m + 2) (z392) (z457) z458 h3) (And.intro (decide_eq_true h2) (And.intro (decide_eq_true h2) (And.intro (decide_eq_true h2) (And.intro (decide_eq_false h4) (And.intro (decide_eq_false h4) (And.intro (decide_eq_false h4) (And.intro (decide_eq_false h4) (And.intro (F56_ok (m + 2) (z392) (z457) z468 h5) True.intro)))))))))))))) n).trans hs, hr⟩
        · skip
          obtain ⟨z469, h3, h⟩ := bnd_eq h
          obtain ⟨st, hs, hr⟩ := L24_0s1_ok m n (z390) (z391) (z469) (z393) (w64 (z394 + 1)) (b395) (l396) (k397) (l398) r h
          exact ⟨st, (round_on (gs := [.t, .a, .an (V.tup [V.agg [i64 z453, i64 z454], V.agg [i64 z455, i64 z456], i64 z457]) [], .a, .a, .f, .f, .f, .f, .f, .f, .a, .a, .a, .a, .a, .an (i64 z469) []]) (notIn []) (by kernel_rfl) (And.intro (decide_eq_true h0) (And.intro h1 (And.intro (decide_eq_false h2) (And.intro (decide_eq_false h2) (And.intro (decide_eq_false h2) (And.intro (decide_eq_false h2) (And.intro (decide_eq_false h2) (And.intro (decide_eq_false h2) (And.intro (F56_ok (m + 2) (z392) (z457) z469 h3) True.intro))))))))) n).trans hs, hr⟩
    · skip
      cases h
      exact ⟨_, round_out (gs := [.f]) (notIn []) (by kernel_rfl) rfl (And.intro (decide_eq_false h0) True.intro) n, z390, z391, z392, z393, z394, decide (z394 < z393), b395, l396, rfl⟩
def L24_0 : Nat → Int → Int → Int → Int → Int → Bool → List (List V) → Option R24_0
  | 0, _, _, _, _, _, _, _ => none
  | n + 1, z366, z367, z368, z369, z370, b371, l372 =>
    if z370 < z369 then
     (F55v1 (b371) (l372) (z370)).bind fun r => match r with
     | .a0 z431 z432 z433 z434 z435 =>
      if z435 > 0 then
       bnd (F56 (z368) (z435)) fun z436 =>
       if z436 > z366 then
        if z368 < z367 then
         (F39 (z431) (z432) (z433) (z434) (w64 (z366 - z368)) (z435)).bind fun r => match r with
         | .a0 z437 z438 =>
          (F39 (z431) (z432) (z433) (z434) (w64 (z367 - z368)) (z435)).bind fun r => match r with
          | .a0 z439 z440 =>
           bnd (F56 (z368) (z435)) fun z441 =>
           L24_0s1 n (z366) (z367) (z441) (z369) (w64 (z370 + 1)) (b371) (l372) (2) ([[i64 z437, i64 z438], [i64 z439, i64 z440]])
        else
         bnd (F56 (z368) (z435)) fun z442 =>
         L24_0 n (z366) (z367) (z442) (z369) (w64 (z370 + 1)) (b371) (l372)
       else
        bnd (F56 (z368) (z435)) fun z443 =>
        L24_0 n (z366) (z367) (z443) (z369) (w64 (z370 + 1)) (b371) (l372)
      else
       bnd (F56 (z368) (z435)) fun z444 =>
       L24_0 n (z366) (z367) (z444) (z369) (w64 (z370 + 1)) (b371) (l372)
    else
     some (R24_0.e0)
theorem L24_0_ok (m : Nat) : ∀ (n : Nat) (z366 : Int) (z367 : Int) (z368 : Int) (z369 : Int) (z370 : Int) (b371 : Bool) (l372 : List (List V)) (r : R24_0), L24_0 n z366 z367 z368 z369 z370 b371 l372 = some r → ∃ st, loopFrom Try.prog X (call Try.prog X O0 100000 (m + 5)) 24 (0) 100000 B24 0 n ({ T := U :: i64 z366 :: i64 z367 :: V.ptr 0 0 0 :: U :: U :: V.ptr 1 0 0 :: V.ptr 2 0 0 :: i64 z368 :: un 13 (i64 z369 :: i64 z370 :: un 56 []), σ := [Ob.cells true false 2 [[vb b371, V.list 2 l372]], Ob.cells true false 2 [[vb false, V.nilS]], Ob.cells true false 2 [[vb false, V.nilS]]] }) = some st ∧ r.St st
  | 0, _, _, _, _, _, _, _, r, h => by cases h
  | n + 1, z366, z367, z368, z369, z370, b371, l372, r, h => by
    rw [L24_0] at h
    rcases ite_eq h with ⟨h0, h⟩ | ⟨h0, h⟩
    · skip
      obtain ⟨r1, h1, h⟩ := Option.bind_eq_some_iff.mp h
      have h1 := F55v1_ok (m + 1) (b371) (l372) (z370) r1 h1
      cases r1 with
      | a0 z431 z432 z433 z434 z435 =>
        rcases ite_eq h with ⟨h2, h⟩ | ⟨h2, h⟩
        · skip
          obtain ⟨z436, h3, h⟩ := bnd_eq h
          rcases ite_eq h with ⟨h4, h⟩ | ⟨h4, h⟩
          · skip
            rcases ite_eq h with ⟨h5, h⟩ | ⟨h5, h⟩
            · skip
              obtain ⟨r6, h6, h⟩ := Option.bind_eq_some_iff.mp h
              have h6 := F39_ok (m + 0) (z431) (z432) (z433) (z434) (w64 (z366 - z368)) (z435) r6 h6
              cases r6 with
              | a0 z437 z438 =>
                obtain ⟨r7, h7, h⟩ := Option.bind_eq_some_iff.mp h
                have h7 := F39_ok (m + 0) (z431) (z432) (z433) (z434) (w64 (z367 - z368)) (z435) r7 h7
                cases r7 with
                | a0 z439 z440 =>
                  obtain ⟨z441, h8, h⟩ := bnd_eq h
                  obtain ⟨st, hs, hr⟩ := L24_0s1_ok m n (z366) (z367) (z441) (z369) (w64 (z370 + 1)) (b371) (l372) (2) ([[i64 z437, i64 z438], [i64 z439, i64 z440]]) r h
                  exact ⟨st, (round_on (gs := [.t, .a, .an (V.tup [V.agg [i64 z431, i64 z432], V.agg [i64 z433, i64 z434], i64 z435]) [], .a, .a, .t, .t, .t, .an (i64 z436) [], .t, .t, .t, .t, .t, .t, .t, .t, .a, .a, .a, .a, .a, .an (V.agg [i64 z437, i64 z438]) [], .a, .a, .a, .ft [⟨0, [2], []⟩, ⟨1, [2], []⟩, ⟨2, [6], []⟩, ⟨3, [7], []⟩, ⟨4, [], []⟩, ⟨5, [], []⟩, ⟨6, [], []⟩, ⟨7, [], []⟩, ⟨8, [], []⟩, ⟨9, [8], [8]⟩, ⟨10, [8, 9], [9]⟩, ⟨11, [2], []⟩, ⟨12, [2], [2]⟩], .a, .a, .a, .an (V.agg [i64 z439, i64 z440]) [], .a, .a, .a, .ft [⟨0, [2], []⟩, ⟨1, [2], []⟩, ⟨2, [6], []⟩, ⟨3, [7], []⟩, ⟨4, [], []⟩, ⟨5, [], []⟩, ⟨6, [], []⟩, ⟨7, [], []⟩, ⟨8, [], []⟩, ⟨9, [10], [10]⟩, ⟨10, [10, 11, 9], [9, 11]⟩, ⟨11, [2], []⟩, ⟨12, [2], [2]⟩], .an (i64 z441) []]) (notIn []) (by kernel_rfl) (And.intro (decide_eq_true h0) (And.intro h1 (And.intro (decide_eq_true h2) (And.intro (decide_eq_true h2) (And.intro (decide_eq_true h2) (And.intro (F56_ok (m + 2) (z368) (z435) z436 h3) (And.intro (decide_eq_true h2) (And.intro (decide_eq_true h2) (And.intro (decide_eq_true h2) (And.intro (decide_eq_true h4) (And.intro (decide_eq_true h4) (And.intro (decide_eq_true h4) (And.intro (decide_eq_true h4) (And.intro (decide_eq_true h5) (And.intro h6 (And.intro (Eq.refl ([⟨0, [2], []⟩, ⟨1, [2], []⟩, ⟨2, [6], []⟩, ⟨3, [7], []⟩, ⟨4, [], []⟩, ⟨5, [], []⟩, ⟨6, [], []⟩, ⟨7, [], []⟩, ⟨8, [], []⟩, ⟨9, [8], [8]⟩, ⟨10, [8, 9], [9]⟩, ⟨11, [2], []⟩, ⟨12, [2], [2]⟩] : List Foot)) (And.intro h7 (And.intro (Eq.refl ([⟨0, [2], []⟩, ⟨1, [2], []⟩, ⟨2, [6], []⟩, ⟨3, [7], []⟩, ⟨4, [], []⟩, ⟨5, [], []⟩, ⟨6, [], []⟩, ⟨7, [], []⟩, ⟨8, [], []⟩, ⟨9, [10], [10]⟩, ⟨10, [10, 11, 9], [9, 11]⟩, ⟨11, [2], []⟩, ⟨12, [2], [2]⟩] : List Foot)) (And.intro (F56_ok (m + 2) (z368) (z435) z441 h8) True.intro))))))))))))))))))) n).trans hs, hr⟩
            · skip
              obtain ⟨z442, h6, h⟩ := bnd_eq h
              obtain ⟨st, hs, hr⟩ := L24_0_ok m n (z366) (z367) (z442) (z369) (w64 (z370 + 1)) (b371) (l372) r h
              exact ⟨st, (round_on (gs := [.t, .a, .an (V.tup [V.agg [i64 z431, i64 z432], V.agg [i64 z433, i64 z434], i64 z435]) [], .a, .a, .t, .t, .t, .an (i64 z436) [], .t, .t, .t, .t, .t, .t, .t, .f, .an (i64 z442) []]) (notIn []) (by kernel_rfl) (And.intro (decide_eq_true h0) (And.intro h1 (And.intro (decide_eq_true h2) (And.intro (decide_eq_true h2) (And.intro (decide_eq_true h2) (And.intro (F56_ok (m + 2) (z368) (z435) z436 h3) (And.intro (decide_eq_true h2) (And.intro (decide_eq_true h2) (And.intro (decide_eq_true h2) (And.intro (decide_eq_true h4) (And.intro (decide_eq_true h4) (And.intro (decide_eq_true h4) (And.intro (decide_eq_true h4) (And.intro (decide_eq_false h5) (And.intro (F56_ok (m + 2) (z368) (z435) z442 h6) True.intro))))))))))))))) n).trans hs, hr⟩
          · skip
            obtain ⟨z443, h5, h⟩ := bnd_eq h
            obtain ⟨st, hs, hr⟩ := L24_0_ok m n (z366) (z367) (z443) (z369) (w64 (z370 + 1)) (b371) (l372) r h
            exact ⟨st, (round_on (gs := [.t, .a, .an (V.tup [V.agg [i64 z431, i64 z432], V.agg [i64 z433, i64 z434], i64 z435]) [], .a, .a, .t, .t, .t, .an (i64 z436) [], .t, .t, .t, .f, .f, .f, .f, .a, .an (i64 z443) []]) (notIn []) (by kernel_rfl) (And.intro (decide_eq_true h0) (And.intro h1 (And.intro (decide_eq_true h2) (And.intro (decide_eq_true h2) (And.intro (decide_eq_true h2) (And.intro (F56_ok (m + 2) (z368) (z435) z436 h3) (And.intro (decide_eq_true h2) (And.intro (decide_eq_true h2) (And.intro (decide_eq_true h2) (And.intro (decide_eq_false h4) (And.intro (decide_eq_false h4) (And.intro (decide_eq_false h4) (And.intro (decide_eq_false h4) (And.intro (F56_ok (m + 2) (z368) (z435) z443 h5) True.intro)))))))))))))) n).trans hs, hr⟩
        · skip
          obtain ⟨z444, h3, h⟩ := bnd_eq h
          obtain ⟨st, hs, hr⟩ := L24_0_ok m n (z366) (z367) (z444) (z369) (w64 (z370 + 1)) (b371) (l372) r h
          exact ⟨st, (round_on (gs := [.t, .a, .an (V.tup [V.agg [i64 z431, i64 z432], V.agg [i64 z433, i64 z434], i64 z435]) [], .a, .a, .f, .f, .f, .f, .f, .f, .a, .a, .a, .a, .a, .an (i64 z444) []]) (notIn []) (by kernel_rfl) (And.intro (decide_eq_true h0) (And.intro h1 (And.intro (decide_eq_false h2) (And.intro (decide_eq_false h2) (And.intro (decide_eq_false h2) (And.intro (decide_eq_false h2) (And.intro (decide_eq_false h2) (And.intro (decide_eq_false h2) (And.intro (F56_ok (m + 2) (z368) (z435) z444 h3) True.intro))))))))) n).trans hs, hr⟩
    · skip
      cases h
      exact ⟨_, round_out (gs := [.f]) (notIn []) (by kernel_rfl) rfl (And.intro (decide_eq_false h0) True.intro) n, z366, z367, z368, z369, z370, decide (z370 < z369), b371, l372, rfl⟩
inductive A24 where
  | a0 (b429 : Bool)
  | a1 (b498 : Bool) (k499 : Nat) (l500 : List (List V))
@[reducible] def A24.out : A24 → V × Store
  | .a0 b429 => (V.agg [vb b429, V.nilS], [])
  | .a1 b498 k499 l500 => (V.agg [vb b498, V.hs 0 0 k499], [Ob.cells true true 2 l500])
def F24 (b197 : Bool) (l198 : List (List V)) (z199 : Int) (z200 : Int) : Option A24 :=
  bnd (F57 (z199)) fun z427 =>
  bnd (F57 (z200)) fun z428 =>
  if z427 ≥ z428 then
   some (A24.a0 (false))
  else
   bnd (F26v1 (b197) (l198)) fun z430 =>
   (L24_0 100000 (z427) (z428) (0) (z430) (0) (b197) (l198)).bind fun r => match r with
   | .e0 =>
    some (A24.a0 (false))
   | .e1 k496 l497 =>
    some (A24.a1 (false) (k496) (l497))
theorem F24_ok (m : Nat) (b197 : Bool) (l198 : List (List V)) (z199 : Int) (z200 : Int) (r : A24) (h : F24 b197 l198 z199 z200 = some r) : call Try.prog X O0 100000 (m + 6) 24 ([V.agg [vb b197, V.list 2 l198], i64 z199, i64 z200]) ([]) = some r.out := by
  unfold F24 at h
  obtain ⟨z427, h0, h⟩ := bnd_eq h
  obtain ⟨z428, h1, h⟩ := bnd_eq h
  rcases ite_eq h with ⟨h2, h⟩ | ⟨h2, h⟩
  · skip
    cases h
    exact call_pathL (gs := [.an (i64 z427) [], .an (i64 z428) [], .t, .a, .a]) (notIn []) rfl rfl (by kernel_rfl) (And.intro (F57_ok (m + 3) (z199) z427 h0) (And.intro (F57_ok (m + 3) (z200) z428 h1) (And.intro (decide_eq_true h2) True.intro)))
  · skip
    obtain ⟨z430, h3, h⟩ := bnd_eq h
    obtain ⟨r4, h4, h⟩ := Option.bind_eq_some_iff.mp h
    obtain ⟨st4, h4, hr4⟩ := L24_0_ok m 100000 (z427) (z428) (0) (z430) (0) (b197) (l198) r4 h4
    have h4 : loopRun Try.prog X (call Try.prog X O0 100000 (m + 5)) 24 (0) 100000 B24 0 ({ T := V.agg [vb b197, V.list 2 l198] :: i64 z427 :: i64 z428 :: V.ptr 0 0 0 :: U :: U :: V.ptr 1 0 0 :: V.ptr 2 0 0 :: i64 0 :: un 4 (i64 z199 :: i64 z427 :: i64 z200 :: i64 z428 :: i64 z427 :: i64 z428 :: vb (decide (z427 ≥ z428)) :: U :: V.agg [vb b197, V.list 2 l198] :: i64 z430 :: i64 0 :: un 56 []), σ := [Ob.cells true false 2 [[vb b197, V.list 2 l198]], Ob.cells true false 2 [[vb false, V.nilS]], Ob.cells true false 2 [[vb false, V.nilS]]] }) = some st4 := by
      rw [loopRun_from, show prep (0) (X.keep 24 0) ({ T := V.agg [vb b197, V.list 2 l198] :: i64 z427 :: i64 z428 :: V.ptr 0 0 0 :: U :: U :: V.ptr 1 0 0 :: V.ptr 2 0 0 :: i64 0 :: un 4 (i64 z199 :: i64 z427 :: i64 z200 :: i64 z428 :: i64 z427 :: i64 z428 :: vb (decide (z427 ≥ z428)) :: U :: V.agg [vb b197, V.list 2 l198] :: i64 z430 :: i64 0 :: un 56 []), σ := [Ob.cells true false 2 [[vb b197, V.list 2 l198]], Ob.cells true false 2 [[vb false, V.nilS]], Ob.cells true false 2 [[vb false, V.nilS]]] }) = { T := U :: i64 z427 :: i64 z428 :: V.ptr 0 0 0 :: U :: U :: V.ptr 1 0 0 :: V.ptr 2 0 0 :: i64 0 :: un 13 (i64 z430 :: i64 0 :: un 56 []), σ := [Ob.cells true false 2 [[vb b197, V.list 2 l198]], Ob.cells true false 2 [[vb false, V.nilS]], Ob.cells true false 2 [[vb false, V.nilS]]] } by kernel_rfl]
      exact h4
    cases r4 with
    | e0 =>
      obtain ⟨z480, z481, z482, z483, z484, b485, b486, l487, rfl⟩ := hr4
      cases h
      exact call_pathL (gs := [.an (i64 z427) [], .an (i64 z428) [], .f, .a, .an (i64 z430) [], .lp (VX.exit 0) (s24_0_0 z480 z481 z482 z483 z484 b485 b486 l487), .a, .a]) (notIn []) rfl rfl (by kernel_rfl) (And.intro (F57_ok (m + 3) (z199) z427 h0) (And.intro (F57_ok (m + 3) (z200) z428 h1) (And.intro (decide_eq_false h2) (And.intro (F26v1_ok (m + 4) (b197) (l198) z430 h3) (And.intro h4 True.intro)))))
    | e1 k496 l497 =>
      obtain ⟨z488, z489, z490, z491, z492, b493, b494, l495, rfl⟩ := hr4
      cases h
      exact call_pathL (gs := [.an (i64 z427) [], .an (i64 z428) [], .f, .a, .an (i64 z430) [], .lp (VX.exit 0) (s24_0_1 z488 z489 z490 z491 z492 b493 b494 l495 k496 l497), .a, .a]) (notIn []) rfl rfl (by kernel_rfl) (And.intro (F57_ok (m + 3) (z199) z427 h0) (And.intro (F57_ok (m + 3) (z200) z428 h1) (And.intro (decide_eq_false h2) (And.intro (F26v1_ok (m + 4) (b197) (l198) z430 h3) (And.intro h4 True.intro)))))
/-! ## 23 -/
noncomputable abbrev B23v1 : Code := (Try.f23.body).getD .skip
inductive R23v1_0 where
  | e0 (z536 : Int)
@[reducible] def s23v1_0_0 (z536 : Int) (z537 : Int) (z538 : Int) (b539 : Bool) (b540 : Bool) (l541 : List (List V)) : S := { T := U :: V.ptr 0 0 0 :: U :: i64 z536 :: un 5 (i64 z537 :: i64 z538 :: vb b539 :: un 13 []), σ := [Ob.cells true false 2 [[vb b540, V.list 2 l541]]] }
def R23v1_0.St : R23v1_0 → VX × S → Prop
  | .e0 z536, p => ∃ z537 : Int, ∃ z538 : Int, ∃ b539 : Bool, ∃ b540 : Bool, ∃ l541 : List (List V), p = (VX.exit 0, s23v1_0_0 z536 z537 z538 b539 b540 l541)
def L23v1_0 : Nat → Int → Int → Int → Bool → List (List V) → Option R23v1_0
  | 0, _, _, _, _, _ => none
  | n + 1, z515, z516, z517, b518, l519 =>
    if z517 < z516 then
     (F55v1 (b518) (l519) (z517)).bind fun r => match r with
     | .a0 z530 z531 z532 z533 z534 =>
      bnd (F56 (z515) (z534)) fun z535 =>
      L23v1_0 n (z535) (z516) (w64 (z517 + 1)) (b518) (l519)
    else
     some (R23v1_0.e0 (z515))
theorem L23v1_0_ok (m : Nat) : ∀ (n : Nat) (z515 : Int) (z516 : Int) (z517 : Int) (b518 : Bool) (l519 : List (List V)) (r : R23v1_0), L23v1_0 n z515 z516 z517 b518 l519 = some r → ∃ st, loopFrom Try.prog X (call Try.prog X O0 100000 (m + 4)) 23 (0) 100000 B23v1 0 n ({ T := U :: V.ptr 0 0 0 :: U :: i64 z515 :: un 5 (i64 z516 :: i64 z517 :: un 14 []), σ := [Ob.cells true false 2 [[vb b518, V.list 2 l519]]] }) = some st ∧ r.St st
  | 0, _, _, _, _, _, r, h => by cases h
  | n + 1, z515, z516, z517, b518, l519, r, h => by
    rw [L23v1_0] at h
    rcases ite_eq h with ⟨h0, h⟩ | ⟨h0, h⟩
    · skip
      obtain ⟨r1, h1, h⟩ := Option.bind_eq_some_iff.mp h
      have h1 := F55v1_ok (m + 0) (b518) (l519) (z517) r1 h1
      cases r1 with
      | a0 z530 z531 z532 z533 z534 =>
        obtain ⟨z535, h2, h⟩ := bnd_eq h
        obtain ⟨st, hs, hr⟩ := L23v1_0_ok m n (z535) (z516) (w64 (z517 + 1)) (b518) (l519) r h
        exact ⟨st, (round_on (gs := [.t, .a, .an (V.tup [V.agg [i64 z530, i64 z531], V.agg [i64 z532, i64 z533], i64 z534]) [], .a, .a, .an (i64 z535) []]) (notIn []) (by kernel_rfl) (And.intro (decide_eq_true h0) (And.intro h1 (And.intro (F56_ok (m + 1) (z515) (z534) z535 h2) True.intro))) n).trans hs, hr⟩
    · skip
      cases h
      exact ⟨_, round_out (gs := [.f]) (notIn []) (by kernel_rfl) rfl (And.intro (decide_eq_false h0) True.intro) n, z516, z517, decide (z517 < z516), b518, l519, rfl⟩
inductive A23v1 where
  | a0 (z548 : Int)
@[reducible] def A23v1.out : A23v1 → V × Store
  | .a0 z548 => (i64 z548, [])
def F23v1 (b502 : Bool) (l503 : List (List V)) : Option A23v1 :=
  bnd (F26v1 (b502) (l503)) fun z529 =>
  (L23v1_0 100000 (0) (z529) (0) (b502) (l503)).bind fun r => match r with
  | .e0 z542 =>
   some (A23v1.a0 (z542))
theorem F23v1_ok (m : Nat) (b502 : Bool) (l503 : List (List V)) (r : A23v1) (h : F23v1 b502 l503 = some r) : call Try.prog X O0 100000 (m + 5) 23 ([V.agg [vb b502, V.list 2 l503]]) ([]) = some r.out := by
  unfold F23v1 at h
  obtain ⟨z529, h0, h⟩ := bnd_eq h
  obtain ⟨r1, h1, h⟩ := Option.bind_eq_some_iff.mp h
  obtain ⟨st1, h1, hr1⟩ := L23v1_0_ok m 100000 (0) (z529) (0) (b502) (l503) r1 h1
  have h1 : loopRun Try.prog X (call Try.prog X O0 100000 (m + 4)) 23 (0) 100000 B23v1 0 ({ T := V.agg [vb b502, V.list 2 l503] :: V.ptr 0 0 0 :: i64 0 :: i64 0 :: un 4 (V.agg [vb b502, V.list 2 l503] :: i64 z529 :: i64 0 :: un 14 []), σ := [Ob.cells true false 2 [[vb b502, V.list 2 l503]]] }) = some st1 := by
    rw [loopRun_from, show prep (0) (X.keep 23 0) ({ T := V.agg [vb b502, V.list 2 l503] :: V.ptr 0 0 0 :: i64 0 :: i64 0 :: un 4 (V.agg [vb b502, V.list 2 l503] :: i64 z529 :: i64 0 :: un 14 []), σ := [Ob.cells true false 2 [[vb b502, V.list 2 l503]]] }) = { T := U :: V.ptr 0 0 0 :: U :: i64 0 :: un 5 (i64 z529 :: i64 0 :: un 14 []), σ := [Ob.cells true false 2 [[vb b502, V.list 2 l503]]] } by kernel_rfl]
    exact h1
  cases r1 with
  | e0 z542 =>
    obtain ⟨z543, z544, b545, b546, l547, rfl⟩ := hr1
    cases h
    exact call_pathL (gs := [.a, .an (i64 z529) [], .lp (VX.exit 0) (s23v1_0_0 z542 z543 z544 b545 b546 l547)]) (notIn []) rfl rfl (by kernel_rfl) (And.intro (F26v1_ok (m + 3) (b502) (l503) z529 h0) (And.intro h1 True.intro))
/-! ## 25 -/
inductive A25 where
  | a0 (b551 : Bool)
@[reducible] def A25.out : A25 → V × Store
  | .a0 b551 => (vb b551, [])
def F25 : Option A25 :=
  (F24 (false) ([[i64 0, i64 0], [i64 16, i64 0]]) (2) (5)).bind fun r => match r with
  | .a0 b501 =>
   (F23v1 (false) ([[i64 0, i64 0], [i64 16, i64 0]])).bind fun r => match r with
   | .a0 z549 =>
    if (z549 == 16) = true then
     bnd (F26v1 (false) ([[i64 0, i64 0], [i64 16, i64 0]])) fun z550 =>
     if (z550 == 1) = true then
      some (A25.a0 (false))
     else
      some (A25.a0 (false))
    else
     some (A25.a0 (false))
  | .a1 b552 k553 l554 =>
   (F23v1 (false) ([[i64 0, i64 0], [i64 16, i64 0]])).bind fun r => match r with
   | .a0 z555 =>
    if (z555 == 16) = true then
     bnd (F26v1 (false) ([[i64 0, i64 0], [i64 16, i64 0]])) fun z556 =>
     if (z556 == 1) = true then
      if ((↑k553 : Int) == 2) = true then
       if (0 : Int) ≤ (0 : Int) ∧ (0 : Int) < (↑k553 : Int) then
        ((l554[(0 : Nat)]?).bind W34.dec).bind fun e557 =>
        if (e557.c0 == 2) = true then
         if (0 : Int) ≤ (1 : Int) ∧ (1 : Int) < (↑k553 : Int) then
          ((l554[(1 : Nat)]?).bind W34.dec).bind fun e558 =>
          if (e558.c0 == 5) = true then
           (F24 (false) ([[i64 0, i64 0], [i64 16, i64 0]]) (5) (5)).bind fun r => match r with
           | .a0 b559 =>
            (F39 (0) (0) (8) (0) (9) (4)).bind fun r => match r with
            | .a0 z560 z561 =>
             some (A25.a0 (z560 == 8 && (z561 == 0 && true)))
           | .a1 b562 k563 l564 =>
            if ((↑k563 : Int) == 0) = true then
             (F39 (0) (0) (8) (0) (9) (4)).bind fun r => match r with
             | .a0 z565 z566 =>
              some (A25.a0 (z565 == 8 && (z566 == 0 && true)))
            else
             some (A25.a0 (false))
          else
           some (A25.a0 (false))
         else
          none -- none
        else
         some (A25.a0 (false))
       else
        none -- none
      else
       some (A25.a0 (false))
     else
      some (A25.a0 (false))
    else
     some (A25.a0 (false))
theorem F25_ok (m : Nat) (r : A25) (h : F25 = some r) : call Try.prog X O0 100000 (m + 7) 25 ([]) ([]) = some r.out := by
  unfold F25 at h
  obtain ⟨r0, h0, h⟩ := Option.bind_eq_some_iff.mp h
  have h0 := F24_ok (m + 0) (false) ([[i64 0, i64 0], [i64 16, i64 0]]) (2) (5) r0 h0
  cases r0 with
  | a0 b501 =>
    obtain ⟨r1, h1, h⟩ := Option.bind_eq_some_iff.mp h
    have h1 := F23v1_ok (m + 1) (false) ([[i64 0, i64 0], [i64 16, i64 0]]) r1 h1
    cases r1 with
    | a0 z549 =>
      rcases ite_eq h with ⟨h2, h⟩ | ⟨h2, h⟩
      · skip
        obtain ⟨z550, h3, h⟩ := bnd_eq h
        rcases ite_eq h with ⟨h4, h⟩ | ⟨h4, h⟩
        · skip
          cases h
          exact call_pathL (gs := [.a, .a, .a, .an (V.agg [vb b501, V.nilS]) [], .a, .a, .a, .an (i64 z549) [], .t, .a, .t, .a, .an (i64 z550) [], .t, .t, .t, .t, .a, .t, .t, .t, .a, .a, .a, .a, .a, .a, .a, .a, .a, .a, .a, .a, .a, .a, .a, .a, .a, .a, .a, .a, .a, .a, .a, .a, .a, .a]) (notIn []) rfl rfl (by kernel_rfl) (And.intro h0 (And.intro h1 (And.intro h2 (And.intro h2 (And.intro (F26v1_ok (m + 5) (false) ([[i64 0, i64 0], [i64 16, i64 0]]) z550 h3) (And.intro h2 (And.intro h2 (And.intro h4 (And.intro h4 (And.intro h4 (And.intro h4 (And.intro h4 True.intro))))))))))))
        · skip
          cases h
          exact call_pathL (gs := [.a, .a, .a, .an (V.agg [vb b501, V.nilS]) [], .a, .a, .a, .an (i64 z549) [], .t, .a, .t, .a, .an (i64 z550) [], .t, .t, .f, .f, .f, .f, .f, .a, .a, .a, .a, .a, .a, .a, .a, .a, .a, .a, .a, .a, .a, .a, .a, .a, .a, .a, .a, .a, .a, .a, .a, .a, .a]) (notIn []) rfl rfl (by kernel_rfl) (And.intro h0 (And.intro h1 (And.intro h2 (And.intro h2 (And.intro (F26v1_ok (m + 5) (false) ([[i64 0, i64 0], [i64 16, i64 0]]) z550 h3) (And.intro h2 (And.intro h2 (And.intro (Bool.eq_false_iff.mpr h4) (And.intro (Bool.eq_false_iff.mpr h4) (And.intro (Bool.eq_false_iff.mpr h4) (And.intro (Bool.eq_false_iff.mpr h4) (And.intro (Bool.eq_false_iff.mpr h4) True.intro))))))))))))
      · skip
        cases h
        exact call_pathL (gs := [.a, .a, .a, .an (V.agg [vb b501, V.nilS]) [], .a, .a, .a, .an (i64 z549) [], .f, .f, .f, .f, .a, .a, .a, .a, .a, .a, .a, .a, .a, .a, .a, .a, .a, .a, .a, .a, .a, .a, .a, .a, .a, .a, .a, .a, .a, .a, .a, .a, .a, .a, .a]) (notIn []) rfl rfl (by kernel_rfl) (And.intro h0 (And.intro h1 (And.intro (Bool.eq_false_iff.mpr h2) (And.intro (Bool.eq_false_iff.mpr h2) (And.intro (Bool.eq_false_iff.mpr h2) (And.intro (Bool.eq_false_iff.mpr h2) True.intro))))))
  | a1 b552 k553 l554 =>
    obtain ⟨r1, h1, h⟩ := Option.bind_eq_some_iff.mp h
    have h1 := F23v1_ok (m + 1) (false) ([[i64 0, i64 0], [i64 16, i64 0]]) r1 h1
    cases r1 with
    | a0 z555 =>
      rcases ite_eq h with ⟨h2, h⟩ | ⟨h2, h⟩
      · skip
        obtain ⟨z556, h3, h⟩ := bnd_eq h
        rcases ite_eq h with ⟨h4, h⟩ | ⟨h4, h⟩
        · skip
          rcases ite_eq h with ⟨h5, h⟩ | ⟨h5, h⟩
          · skip
            rcases ite_eq h with ⟨h6, h⟩ | ⟨h6, h⟩
            · skip
              obtain ⟨e557, h7, h⟩ := Option.bind_eq_some_iff.mp h
              rcases ite_eq h with ⟨h8, h⟩ | ⟨h8, h⟩
              · skip
                rcases ite_eq h with ⟨h9, h⟩ | ⟨h9, h⟩
                · skip
                  obtain ⟨e558, h10, h⟩ := Option.bind_eq_some_iff.mp h
                  rcases ite_eq h with ⟨h11, h⟩ | ⟨h11, h⟩
                  · skip
                    obtain ⟨r12, h12, h⟩ := Option.bind_eq_some_iff.mp h
                    have h12 := F24_ok (m + 0) (false) ([[i64 0, i64 0], [i64 16, i64 0]]) (5) (5) r12 h12
                    cases r12 with
                    | a0 b559 =>
                      obtain ⟨r13, h13, h⟩ := Option.bind_eq_some_iff.mp h
                      have h13 := F39_ok (m + 1) (0) (0) (8) (0) (9) (4) r13 h13
                      cases r13 with
                      | a0 z560 z561 =>
                        cases h
                        exact call_pathL (gs := [.a, .a, .a, .an (V.agg [vb b552, V.hs 0 0 k553]) [Ob.cells true true 2 l554], .a, .a, .a, .an (i64 z555) [], .t, .a, .t, .a, .an (i64 z556) [], .t, .t, .t, .t, .a, .t, .t, .t, .t, .t, .a, .t, .t, .t, .t, .el (W34.cells e557), .t, .t, .t, .t, .a, .t, .t, .t, .t, .el (W34.cells e558), .t, .t, .t, .a, .t, .a, .an (V.agg [vb b559, V.nilS]) [], .t, .t, .t, .t, .a, .a, .a, .an (V.agg [i64 z560, i64 z561]) [], .a, .a, .a]) (notIn []) rfl rfl (by kernel_rfl) (And.intro h0 (And.intro h1 (And.intro h2 (And.intro h2 (And.intro (F26v1_ok (m + 5) (false) ([[i64 0, i64 0], [i64 16, i64 0]]) z556 h3) (And.intro h2 (And.intro h2 (And.intro h4 (And.intro h4 (And.intro h4 (And.intro h4 (And.intro h4 (And.intro h5 (And.intro h5 (And.intro h5 (And.intro (decide_eq_true h6) (And.intro h5 (And.intro h5 (And.intro (W34.dec_ok h7) (And.intro h5 (And.intro h5 (And.intro h8 (And.intro h8 (And.intro h8 (And.intro (decide_eq_true h9) (And.intro h8 (And.intro h8 (And.intro (W34.dec_ok h10) (And.intro h8 (And.intro h8 (And.intro h11 (And.intro h11 (And.intro h12 (And.intro h11 (And.intro h11 (And.intro h11 (And.intro h11 (And.intro h13 True.intro))))))))))))))))))))))))))))))))))))))
                    | a1 b562 k563 l564 =>
                      rcases ite_eq h with ⟨h13, h⟩ | ⟨h13, h⟩
                      · skip
                        obtain ⟨r14, h14, h⟩ := Option.bind_eq_some_iff.mp h
                        have h14 := F39_ok (m + 1) (0) (0) (8) (0) (9) (4) r14 h14
                        cases r14 with
                        | a0 z565 z566 =>
                          cases h
                          exact call_pathL (gs := [.a, .a, .a, .an (V.agg [vb b552, V.hs 0 0 k553]) [Ob.cells true true 2 l554], .a, .a, .a, .an (i64 z555) [], .t, .a, .t, .a, .an (i64 z556) [], .t, .t, .t, .t, .a, .t, .t, .t, .t, .t, .a, .t, .t, .t, .t, .el (W34.cells e557), .t, .t, .t, .t, .a, .t, .t, .t, .t, .el (W34.cells e558), .t, .t, .t, .a, .t, .a, .an (V.agg [vb b562, V.hs 0 0 k563]) [Ob.cells true true 2 l564], .t, .t, .t, .t, .t, .t, .t, .an (V.agg [i64 z565, i64 z566]) [], .t, .t, .t]) (notIn []) rfl rfl (by kernel_rfl) (And.intro h0 (And.intro h1 (And.intro h2 (And.intro h2 (And.intro (F26v1_ok (m + 5) (false) ([[i64 0, i64 0], [i64 16, i64 0]]) z556 h3) (And.intro h2 (And.intro h2 (And.intro h4 (And.intro h4 (And.intro h4 (And.intro h4 (And.intro h4 (And.intro h5 (And.intro h5 (And.intro h5 (And.intro (decide_eq_true h6) (And.intro h5 (And.intro h5 (And.intro (W34.dec_ok h7) (And.intro h5 (And.intro h5 (And.intro h8 (And.intro h8 (And.intro h8 (And.intro (decide_eq_true h9) (And.intro h8 (And.intro h8 (And.intro (W34.dec_ok h10) (And.intro h8 (And.intro h8 (And.intro h11 (And.intro h11 (And.intro h12 (And.intro h11 (And.intro h11 (And.intro h11 (And.intro h11 (And.intro h13 (And.intro h13 (And.intro h13 (And.intro h14 (And.intro h13 (And.intro h13 (And.intro h13 True.intro))))))))))))))))))))))))))))))))))))))))))))
                      · skip
                        cases h
                        exact call_pathL (gs := [.a, .a, .a, .an (V.agg [vb b552, V.hs 0 0 k553]) [Ob.cells true true 2 l554], .a, .a, .a, .an (i64 z555) [], .t, .a, .t, .a, .an (i64 z556) [], .t, .t, .t, .t, .a, .t, .t, .t, .t, .t, .a, .t, .t, .t, .t, .el (W34.cells e557), .t, .t, .t, .t, .a, .t, .t, .t, .t, .el (W34.cells e558), .t, .t, .t, .a, .t, .a, .an (V.agg [vb b562, V.hs 0 0 k563]) [Ob.cells true true 2 l564], .t, .t, .t, .t, .f, .f, .f, .f, .f, .f]) (notIn []) rfl rfl (by kernel_rfl) (And.intro h0 (And.intro h1 (And.intro h2 (And.intro h2 (And.intro (F26v1_ok (m + 5) (false) ([[i64 0, i64 0], [i64 16, i64 0]]) z556 h3) (And.intro h2 (And.intro h2 (And.intro h4 (And.intro h4 (And.intro h4 (And.intro h4 (And.intro h4 (And.intro h5 (And.intro h5 (And.intro h5 (And.intro (decide_eq_true h6) (And.intro h5 (And.intro h5 (And.intro (W34.dec_ok h7) (And.intro h5 (And.intro h5 (And.intro h8 (And.intro h8 (And.intro h8 (And.intro (decide_eq_true h9) (And.intro h8 (And.intro h8 (And.intro (W34.dec_ok h10) (And.intro h8 (And.intro h8 (And.intro h11 (And.intro h11 (And.intro h12 (And.intro h11 (And.intro h11 (And.intro h11 (And.intro h11 (And.intro (Bool.eq_false_iff.mpr h13) (And.intro (Bool.eq_false_iff.mpr h13) (And.intro (Bool.eq_false_iff.mpr h13) (And.intro (Bool.eq_false_iff.mpr h13) (And.intro (Bool.eq_false_iff.mpr h13) (And.intro (Bool.eq_false_iff.mpr h13) True.intro)))))))))))))))))))))))))))))))))))))))))))
                  · skip
                    cases h
                    exact call_pathL (gs := [.a, .a, .a, .an (V.agg [vb b552, V.hs 0 0 k553]) [Ob.cells true true 2 l554], .a, .a, .a, .an (i64 z555) [], .t, .a, .t, .a, .an (i64 z556) [], .t, .t, .t, .t, .a, .t, .t, .t, .t, .t, .a, .t, .t, .t, .t, .el (W34.cells e557), .t, .t, .t, .t, .a, .t, .t, .t, .t, .el (W34.cells e558), .t, .t, .f, .f, .f, .f, .f, .f, .a, .a, .a, .a, .a, .a]) (notIn []) rfl rfl (by kernel_rfl) (And.intro h0 (And.intro h1 (And.intro h2 (And.intro h2 (And.intro (F26v1_ok (m + 5) (false) ([[i64 0, i64 0], [i64 16, i64 0]]) z556 h3) (And.intro h2 (And.intro h2 (And.intro h4 (And.intro h4 (And.intro h4 (And.intro h4 (And.intro h4 (And.intro h5 (And.intro h5 (And.intro h5 (And.intro (decide_eq_true h6) (And.intro h5 (And.intro h5 (And.intro (W34.dec_ok h7) (And.intro h5 (And.intro h5 (And.intro h8 (And.intro h8 (And.intro h8 (And.intro (decide_eq_true h9) (And.intro h8 (And.intro h8 (And.intro (W34.dec_ok h10) (And.intro h8 (And.intro h8 (And.intro (Bool.eq_false_iff.mpr h11) (And.intro (Bool.eq_false_iff.mpr h11) (And.intro (Bool.eq_false_iff.mpr h11) (And.intro (Bool.eq_false_iff.mpr h11) (And.intro (Bool.eq_false_iff.mpr h11) (And.intro (Bool.eq_false_iff.mpr h11) True.intro))))))))))))))))))))))))))))))))))))
                · skip
                  cases h
              · skip
                cases h
                exact call_pathL (gs := [.a, .a, .a, .an (V.agg [vb b552, V.hs 0 0 k553]) [Ob.cells true true 2 l554], .a, .a, .a, .an (i64 z555) [], .t, .a, .t, .a, .an (i64 z556) [], .t, .t, .t, .t, .a, .t, .t, .t, .t, .t, .a, .t, .t, .t, .t, .el (W34.cells e557), .t, .t, .f, .f, .f, .f, .f, .f, .f, .a, .a, .a, .a, .a, .a, .a, .a, .a, .a, .a, .a]) (notIn []) rfl rfl (by kernel_rfl) (And.intro h0 (And.intro h1 (And.intro h2 (And.intro h2 (And.intro (F26v1_ok (m + 5) (false) ([[i64 0, i64 0], [i64 16, i64 0]]) z556 h3) (And.intro h2 (And.intro h2 (And.intro h4 (And.intro h4 (And.intro h4 (And.intro h4 (And.intro h4 (And.intro h5 (And.intro h5 (And.intro h5 (And.intro (decide_eq_true h6) (And.intro h5 (And.intro h5 (And.intro (W34.dec_ok h7) (And.intro h5 (And.intro h5 (And.intro (Bool.eq_false_iff.mpr h8) (And.intro (Bool.eq_false_iff.mpr h8) (And.intro (Bool.eq_false_iff.mpr h8) (And.intro (Bool.eq_false_iff.mpr h8) (And.intro (Bool.eq_false_iff.mpr h8) (And.intro (Bool.eq_false_iff.mpr h8) (And.intro (Bool.eq_false_iff.mpr h8) True.intro))))))))))))))))))))))))))))
            · skip
              cases h
          · skip
            cases h
            exact call_pathL (gs := [.a, .a, .a, .an (V.agg [vb b552, V.hs 0 0 k553]) [Ob.cells true true 2 l554], .a, .a, .a, .an (i64 z555) [], .t, .a, .t, .a, .an (i64 z556) [], .t, .t, .t, .t, .a, .t, .t, .t, .f, .f, .f, .f, .f, .f, .f, .a, .a, .a, .a, .a, .a, .a, .a, .a, .a, .a, .a, .a, .a, .a, .a, .a, .a, .a]) (notIn []) rfl rfl (by kernel_rfl) (And.intro h0 (And.intro h1 (And.intro h2 (And.intro h2 (And.intro (F26v1_ok (m + 5) (false) ([[i64 0, i64 0], [i64 16, i64 0]]) z556 h3) (And.intro h2 (And.intro h2 (And.intro h4 (And.intro h4 (And.intro h4 (And.intro h4 (And.intro h4 (And.intro (Bool.eq_false_iff.mpr h5) (And.intro (Bool.eq_false_iff.mpr h5) (And.intro (Bool.eq_false_iff.mpr h5) (And.intro (Bool.eq_false_iff.mpr h5) (And.intro (Bool.eq_false_iff.mpr h5) (And.intro (Bool.eq_false_iff.mpr h5) (And.intro (Bool.eq_false_iff.mpr h5) True.intro)))))))))))))))))))
        · skip
          cases h
          exact call_pathL (gs := [.a, .a, .a, .an (V.agg [vb b552, V.hs 0 0 k553]) [Ob.cells true true 2 l554], .a, .a, .a, .an (i64 z555) [], .t, .a, .t, .a, .an (i64 z556) [], .t, .t, .f, .f, .f, .f, .f, .a, .a, .a, .a, .a, .a, .a, .a, .a, .a, .a, .a, .a, .a, .a, .a, .a, .a, .a, .a, .a, .a, .a, .a, .a, .a]) (notIn []) rfl rfl (by kernel_rfl) (And.intro h0 (And.intro h1 (And.intro h2 (And.intro h2 (And.intro (F26v1_ok (m + 5) (false) ([[i64 0, i64 0], [i64 16, i64 0]]) z556 h3) (And.intro h2 (And.intro h2 (And.intro (Bool.eq_false_iff.mpr h4) (And.intro (Bool.eq_false_iff.mpr h4) (And.intro (Bool.eq_false_iff.mpr h4) (And.intro (Bool.eq_false_iff.mpr h4) (And.intro (Bool.eq_false_iff.mpr h4) True.intro))))))))))))
      · skip
        cases h
        exact call_pathL (gs := [.a, .a, .a, .an (V.agg [vb b552, V.hs 0 0 k553]) [Ob.cells true true 2 l554], .a, .a, .a, .an (i64 z555) [], .f, .f, .f, .f, .a, .a, .a, .a, .a, .a, .a, .a, .a, .a, .a, .a, .a, .a, .a, .a, .a, .a, .a, .a, .a, .a, .a, .a, .a, .a, .a, .a, .a, .a, .a]) (notIn []) rfl rfl (by kernel_rfl) (And.intro h0 (And.intro h1 (And.intro (Bool.eq_false_iff.mpr h2) (And.intro (Bool.eq_false_iff.mpr h2) (And.intro (Bool.eq_false_iff.mpr h2) (And.intro (Bool.eq_false_iff.mpr h2) True.intro))))))
/-! ## 5 -/
inductive A5 where
  | a0 (b568 : Bool)
@[reducible] def A5.out : A5 → V × Store
  | .a0 b568 => (vb b568, [])
def F5 (l0 : List (List V)) (z1 : Int) : Option A5 :=
  (F22 (l0) (0)).bind fun r => match r with
  | .a0 b164 l165 z166 =>
   (F23 (false)).bind fun r => match r with
   | .a0 z194 =>
    if (z194 == 0) = true then
     bnd (F26 (false)) fun z195 =>
     if (z195 == 0) = true then
      (F25).bind fun r => match r with
      | .a0 b567 =>
       some (A5.a0 (b567))
     else
      none -- false
    else
     none -- false
  | .a1 b569 k570 l571 z572 l573 =>
   if (↑k570 : Int) < 2 then
    if 0 + k570 ≤ List.length l573 then
     (F23v1 (false) (List.take k570 l573)).bind fun r => match r with
     | .a0 z574 =>
      if (z574 == 0) = true then
       bnd (F26v1 (false) (List.take k570 l573)) fun z575 =>
       if (z575 == 0) = true then
        (F25).bind fun r => match r with
        | .a0 b576 =>
         some (A5.a0 (b576))
       else
        none -- false
      else
       none -- false
    else
     none -- none
   else
    if (↑k570 : Int) = 0 then
     none -- none
    else
     if (0 : Int) ≤ (0 : Int) ∧ (0 : Int) ≤ w64 (Int.tmod (w64 (Int.tmod z1 (↑k570 : Int) + (↑k570 : Int))) (↑k570 : Int) + (1 : Int)) ∧ w64 (Int.tmod (w64 (Int.tmod z1 (↑k570 : Int) + (↑k570 : Int))) (↑k570 : Int) + (1 : Int)) ≤ (↑k570 : Int) then
      if 0 ≤ Int.tmod (w64 (Int.tmod z1 (↑k570 : Int) + (↑k570 : Int))) (↑k570 : Int) ∧ Int.tmod (w64 (Int.tmod z1 (↑k570 : Int) + (↑k570 : Int))) (↑k570 : Int) ≤ (↑k570 : Int) ∧ (↑k570 : Int) ≤ (↑k570 : Int) then
       if 0 + (Int.toNat (w64 (Int.tmod (w64 (Int.tmod z1 (↑k570 : Int) + (↑k570 : Int))) (↑k570 : Int) + 1)) - 0) ≤ List.length l573 then
        (F23v1 (false) (List.take (Int.toNat (w64 (Int.tmod (w64 (Int.tmod z1 (↑k570 : Int) + (↑k570 : Int))) (↑k570 : Int) + 1)) - 0) l573)).bind fun r => match r with
        | .a0 z577 =>
         if 0 + k570 ≤ List.length l573 then
          (F23v1 (false) (List.take k570 l573)).bind fun r => match r with
          | .a0 z578 =>
           (F24 (false) (List.take k570 l573) (z577) (z578)).bind fun r => match r with
           | .a0 b579 =>
            if 0 + Int.toNat (Int.tmod (w64 (Int.tmod z1 (↑k570 : Int) + (↑k570 : Int))) (↑k570 : Int)) + (Int.toNat (↑k570 : Int) - Int.toNat (Int.tmod (w64 (Int.tmod z1 (↑k570 : Int) + (↑k570 : Int))) (↑k570 : Int))) ≤ List.length l573 then
             (F23v1 (false) (List.take (Int.toNat (↑k570 : Int) - Int.toNat (Int.tmod (w64 (Int.tmod z1 (↑k570 : Int) + (↑k570 : Int))) (↑k570 : Int))) (List.drop (0 + Int.toNat (Int.tmod (w64 (Int.tmod z1 (↑k570 : Int) + (↑k570 : Int))) (↑k570 : Int))) l573))).bind fun r => match r with
             | .a0 z580 =>
              (F23v1 (false) (List.take k570 l573)).bind fun r => match r with
              | .a0 z581 =>
               if (w64 (z577 + z580) == z581) = true then
                (F23 (b579)).bind fun r => match r with
                | .a0 z582 =>
                 (F23v1 (false) (List.take (Int.toNat (↑k570 : Int) - Int.toNat (Int.tmod (w64 (Int.tmod z1 (↑k570 : Int) + (↑k570 : Int))) (↑k570 : Int))) (List.drop (0 + Int.toNat (Int.tmod (w64 (Int.tmod z1 (↑k570 : Int) + (↑k570 : Int))) (↑k570 : Int))) l573))).bind fun r => match r with
                 | .a0 z583 =>
                  if (z582 == z583) = true then
                   bnd (F26v1 (false) (List.take k570 l573)) fun z584 =>
                   if (z584 == w64 ((↑k570 : Int) - 1)) = true then
                    (F25).bind fun r => match r with
                    | .a0 b585 =>
                     some (A5.a0 (b585))
                   else
                    none -- false
                  else
                   none -- false
               else
                none -- false
            else
             none -- none
           | .a1 b586 k587 l588 =>
            if 0 + Int.toNat (Int.tmod (w64 (Int.tmod z1 (↑k570 : Int) + (↑k570 : Int))) (↑k570 : Int)) + (Int.toNat (↑k570 : Int) - Int.toNat (Int.tmod (w64 (Int.tmod z1 (↑k570 : Int) + (↑k570 : Int))) (↑k570 : Int))) ≤ List.length l573 then
             (F23v1 (false) (List.take (Int.toNat (↑k570 : Int) - Int.toNat (Int.tmod (w64 (Int.tmod z1 (↑k570 : Int) + (↑k570 : Int))) (↑k570 : Int))) (List.drop (0 + Int.toNat (Int.tmod (w64 (Int.tmod z1 (↑k570 : Int) + (↑k570 : Int))) (↑k570 : Int))) l573))).bind fun r => match r with
             | .a0 z589 =>
              (F23v1 (false) (List.take k570 l573)).bind fun r => match r with
              | .a0 z590 =>
               if (w64 (z577 + z589) == z590) = true then
                if 0 + k587 ≤ List.length l588 then
                 (F23v1 (b586) (List.take k587 l588)).bind fun r => match r with
                 | .a0 z591 =>
                  (F23v1 (false) (List.take (Int.toNat (↑k570 : Int) - Int.toNat (Int.tmod (w64 (Int.tmod z1 (↑k570 : Int) + (↑k570 : Int))) (↑k570 : Int))) (List.drop (0 + Int.toNat (Int.tmod (w64 (Int.tmod z1 (↑k570 : Int) + (↑k570 : Int))) (↑k570 : Int))) l573))).bind fun r => match r with
                  | .a0 z592 =>
                   if (z591 == z592) = true then
                    if ((↑k587 : Int) == 0) = true then
                     bnd (F26v1 (false) (List.take k570 l573)) fun z593 =>
                     if (z593 == w64 ((↑k570 : Int) - 1)) = true then
                      (F25).bind fun r => match r with
                      | .a0 b594 =>
                       some (A5.a0 (b594))
                     else
                      none -- false
                    else
                     if (0 : Int) ≤ (0 : Int) ∧ (0 : Int) < (↑k587 : Int) then
                      ((l588[(0 : Nat)]?).bind W34.dec).bind fun e595 =>
                      if 0 ≤ Int.tmod (w64 (Int.tmod z1 (↑k570 : Int) + (↑k570 : Int))) (↑k570 : Int) ∧ Int.tmod (w64 (Int.tmod z1 (↑k570 : Int) + (↑k570 : Int))) (↑k570 : Int) < (↑k570 : Int) then
                       ((l573[(0 : Nat) + Int.toNat (Int.tmod (w64 (Int.tmod z1 (↑k570 : Int) + (↑k570 : Int))) (↑k570 : Int))]?).bind W34.dec).bind fun e596 =>
                       if (e595.c0 == e596.c0 && (e595.c1 == e596.c1 && true)) = true then
                        bnd (F26v1 (false) (List.take k570 l573)) fun z597 =>
                        if (z597 == w64 ((↑k570 : Int) - 1)) = true then
                         (F25).bind fun r => match r with
                         | .a0 b598 =>
                          some (A5.a0 (b598))
                        else
                         none -- false
                       else
                        none -- false
                      else
                       none -- none
                     else
                      none -- none
                   else
                    none -- false
                else
                 none -- none
               else
                none -- false
            else
             none -- none
         else
          none -- none
       else
        none -- none
      else
       none -- none
     else
      none -- none
theorem F5_ok (m : Nat) (l0 : List (List V)) (z1 : Int) (r : A5) (h : F5 l0 z1 = some r) : call Try.prog X O0 100000 (m + 8) 5 ([V.list 1 l0, i64 z1]) ([]) = some r.out := by
  unfold F5 at h
  obtain ⟨r0, h0, h⟩ := Option.bind_eq_some_iff.mp h
  have h0 := F22_ok (m + 3) (l0) (0) r0 h0
  cases r0 with
  | a0 b164 l165 z166 =>
    obtain ⟨r1, h1, h⟩ := Option.bind_eq_some_iff.mp h
    have h1 := F23_ok (m + 5) (false) r1 h1
    cases r1 with
    | a0 z194 =>
      rcases ite_eq h with ⟨h2, h⟩ | ⟨h2, h⟩
      · skip
        obtain ⟨z195, h3, h⟩ := bnd_eq h
        rcases ite_eq h with ⟨h4, h⟩ | ⟨h4, h⟩
        · skip
          obtain ⟨r5, h5, h⟩ := Option.bind_eq_some_iff.mp h
          have h5 := F25_ok (m + 0) r5 h5
          cases r5 with
          | a0 b567 =>
            cases h
            exact call_pathL (gs := [.an (V.agg [vb b164, V.nilS]) [Ob.cells true false 2 [[V.list 1 l165, i64 z166]]], .a, .a, .a, .a, .a, .an (i64 z194) [], .t, .a, .t, .an (i64 z195) [], .t, .t, .t, .an (vb b567) [], .t]) (notIn []) rfl rfl (by kernel_rfl) (And.intro h0 (And.intro h1 (And.intro h2 (And.intro h2 (And.intro (F26_ok (m + 6) (false) z195 h3) (And.intro h2 (And.intro h2 (And.intro h4 (And.intro h5 (And.intro h4 True.intro))))))))))
        · skip
          cases h
      · skip
        cases h
  | a1 b569 k570 l571 z572 l573 =>
    rcases ite_eq h with ⟨h1, h⟩ | ⟨h1, h⟩
    · skip
      rcases ite_eq h with ⟨h2, h⟩ | ⟨h2, h⟩
      · skip
        obtain ⟨r3, h3, h⟩ := Option.bind_eq_some_iff.mp h
        have h3 := F23v1_ok (m + 2) (false) (List.take k570 l573) r3 h3
        cases r3 with
        | a0 z574 =>
          rcases ite_eq h with ⟨h4, h⟩ | ⟨h4, h⟩
          · skip
            obtain ⟨z575, h5, h⟩ := bnd_eq h
            rcases ite_eq h with ⟨h6, h⟩ | ⟨h6, h⟩
            · skip
              obtain ⟨r7, h7, h⟩ := Option.bind_eq_some_iff.mp h
              have h7 := F25_ok (m + 0) r7 h7
              cases r7 with
              | a0 b576 =>
                cases h
                exact call_pathL (gs := [.an (V.agg [vb b569, V.hs 1 0 k570]) [Ob.cells true false 2 [[V.list 1 l571, i64 z572]], Ob.cells true true 2 l573], .a, .a, .a, .t, .a, .t, .an (i64 z574) [], .t, .a, .t, .t, .an (i64 z575) [], .t, .t, .t, .an (vb b576) [], .t]) (notIn []) rfl rfl (by kernel_rfl) (And.intro h0 (And.intro (decide_eq_true h1) (And.intro (decide_eq_true h2) (And.intro h3 (And.intro h4 (And.intro h4 (And.intro (decide_eq_true h2) (And.intro (F26v1_ok (m + 6) (false) (List.take k570 l573) z575 h5) (And.intro h4 (And.intro h4 (And.intro h6 (And.intro h7 (And.intro h6 True.intro)))))))))))))
            · skip
              cases h
          · skip
            cases h
      · skip
        cases h
    · skip
      rcases ite_eq h with ⟨h2, h⟩ | ⟨h2, h⟩
      · skip
        cases h
      · skip
        rcases ite_eq h with ⟨h3, h⟩ | ⟨h3, h⟩
        · skip
          rcases ite_eq h with ⟨h4, h⟩ | ⟨h4, h⟩
          · skip
            rcases ite_eq h with ⟨h5, h⟩ | ⟨h5, h⟩
            · skip
              obtain ⟨r6, h6, h⟩ := Option.bind_eq_some_iff.mp h
              have h6 := F23v1_ok (m + 2) (false) (List.take (Int.toNat (w64 (Int.tmod (w64 (Int.tmod z1 (↑k570 : Int) + (↑k570 : Int))) (↑k570 : Int) + 1)) - 0) l573) r6 h6
              cases r6 with
              | a0 z577 =>
                rcases ite_eq h with ⟨h7, h⟩ | ⟨h7, h⟩
                · skip
                  obtain ⟨r8, h8, h⟩ := Option.bind_eq_some_iff.mp h
                  have h8 := F23v1_ok (m + 2) (false) (List.take k570 l573) r8 h8
                  cases r8 with
                  | a0 z578 =>
                    obtain ⟨r9, h9, h⟩ := Option.bind_eq_some_iff.mp h
                    have h9 := F24_ok (m + 1) (false) (List.take k570 l573) (z577) (z578) r9 h9
                    cases r9 with
                    | a0 b579 =>
                      rcases ite_eq h with ⟨h10, h⟩ | ⟨h10, h⟩
                      · skip
                        obtain ⟨r11, h11, h⟩ := Option.bind_eq_some_iff.mp h
                        have h11 := F23v1_ok (m + 2) (false) (List.take (Int.toNat (↑k570 : Int) - Int.toNat (Int.tmod (w64 (Int.tmod z1 (↑k570 : Int) + (↑k570 : Int))) (↑k570 : Int))) (List.drop (0 + Int.toNat (Int.tmod (w64 (Int.tmod z1 (↑k570 : Int) + (↑k570 : Int))) (↑k570 : Int))) l573)) r11 h11
                        cases r11 with
                        | a0 z580 =>
                          obtain ⟨r12, h12, h⟩ := Option.bind_eq_some_iff.mp h
                          have h12 := F23v1_ok (m + 2) (false) (List.take k570 l573) r12 h12
                          cases r12 with
                          | a0 z581 =>
                            rcases ite_eq h with ⟨h13, h⟩ | ⟨h13, h⟩
                            · skip
                              obtain ⟨r14, h14, h⟩ := Option.bind_eq_some_iff.mp h
                              have h14 := F23_ok (m + 5) (b579) r14 h14
                              cases r14 with
                              | a0 z582 =>
                                obtain ⟨r15, h15, h⟩ := Option.bind_eq_some_iff.mp h
                                have h15 := F23v1_ok (m + 2) (false) (List.take (Int.toNat (↑k570 : Int) - Int.toNat (Int.tmod (w64 (Int.tmod z1 (↑k570 : Int) + (↑k570 : Int))) (↑k570 : Int))) (List.drop (0 + Int.toNat (Int.tmod (w64 (Int.tmod z1 (↑k570 : Int) + (↑k570 : Int))) (↑k570 : Int))) l573)) r15 h15
                                cases r15 with
                                | a0 z583 =>
                                  rcases ite_eq h with ⟨h16, h⟩ | ⟨h16, h⟩
                                  · skip
                                    obtain ⟨z584, h17, h⟩ := bnd_eq h
                                    rcases ite_eq h with ⟨h18, h⟩ | ⟨h18, h⟩
                                    · skip
                                      obtain ⟨r19, h19, h⟩ := Option.bind_eq_some_iff.mp h
                                      have h19 := F25_ok (m + 0) r19 h19
                                      cases r19 with
                                      | a0 b585 =>
                                        cases h
                                        exact call_pathL (gs := [.an (V.agg [vb b569, V.hs 1 0 k570]) [Ob.cells true false 2 [[V.list 1 l571, i64 z572]], Ob.cells true true 2 l573], .a, .a, .a, .f, .a, .f, .a, .a, .f, .ft [⟨0, [], []⟩, ⟨1, [2], []⟩, ⟨2, [2], []⟩, ⟨3, [1], []⟩, ⟨4, [], []⟩, ⟨5, [2], []⟩, ⟨6, [2], []⟩, ⟨7, [1], []⟩, ⟨8, [], []⟩, ⟨9, [2], []⟩, ⟨10, [2], []⟩, ⟨11, [1], []⟩, ⟨12, [], []⟩, ⟨13, [], []⟩], .a, .t, .a, .t, .a, .a, .ft [⟨0, [2], []⟩, ⟨1, [2], []⟩, ⟨2, [], []⟩, ⟨3, [], []⟩, ⟨4, [1], []⟩, ⟨5, [], []⟩, ⟨6, [2], []⟩, ⟨7, [2], []⟩, ⟨8, [], []⟩, ⟨9, [1], []⟩, ⟨10, [], []⟩, ⟨11, [3], [3]⟩, ⟨12, [4], [4]⟩, ⟨13, [3], [3]⟩, ⟨14, [4], [4]⟩], .a, .t, .an (i64 z577) [], .a, .a, .t, .an (i64 z578) [], .t, .an (V.agg [vb b579, V.nilS]) [], .a, .ft [⟨0, [2], []⟩, ⟨1, [], []⟩, ⟨2, [2], []⟩, ⟨3, [1], []⟩, ⟨4, [1], []⟩, ⟨5, [6], [6]⟩, ⟨6, [6], [6]⟩], .a, .t, .an (i64 z580) [], .a, .t, .an (i64 z581) [], .t, .a, .t, .an (i64 z582) [], .t, .a, .t, .t, .an (i64 z583) [], .t, .t, .t, .t, .a, .t, .t, .t, .a, .a, .a, .a, .a, .a, .a, .a, .a, .a, .t, .a, .t, .a, .a, .a, .t, .an (i64 z584) [], .a, .a, .a, .a, .a, .a, .a, .t, .an (vb b585) [], .t, .ft [⟨0, [], []⟩, ⟨1, [4], []⟩, ⟨2, [1], []⟩, ⟨3, [], []⟩, ⟨4, [2], []⟩, ⟨5, [1], []⟩, ⟨6, [], []⟩, ⟨7, [], []⟩, ⟨8, [6], []⟩, ⟨9, [], []⟩, ⟨10, [4], []⟩, ⟨11, [1], []⟩, ⟨12, [], []⟩, ⟨13, [], []⟩, ⟨14, [], []⟩, ⟨15, [6], []⟩, ⟨16, [6], []⟩, ⟨17, [], []⟩, ⟨18, [], []⟩, ⟨19, [], []⟩, ⟨20, [], []⟩, ⟨21, [], []⟩, ⟨22, [], []⟩, ⟨23, [], []⟩, ⟨24, [], []⟩, ⟨25, [], []⟩, ⟨26, [], []⟩, ⟨27, [], []⟩, ⟨28, [], []⟩, ⟨29, [], []⟩, ⟨30, [], []⟩, ⟨31, [], []⟩, ⟨32, [], []⟩, ⟨33, [2], []⟩, ⟨34, [1], []⟩, ⟨35, [2], []⟩, ⟨36, [2], []⟩, ⟨37, [1], []⟩, ⟨38, [], []⟩, ⟨39, [], []⟩, ⟨40, [], []⟩, ⟨41, [], []⟩, ⟨42, [], []⟩, ⟨43, [], []⟩, ⟨44, [], []⟩]]) (notIn []) rfl rfl (by kernel_rfl) (And.intro h0 (And.intro (decide_eq_false h1) (And.intro (decide_eq_false h2) (And.intro (decide_eq_false h2) (And.intro (Eq.refl ([⟨0, [], []⟩, ⟨1, [2], []⟩, ⟨2, [2], []⟩, ⟨3, [1], []⟩, ⟨4, [], []⟩, ⟨5, [2], []⟩, ⟨6, [2], []⟩, ⟨7, [1], []⟩, ⟨8, [], []⟩, ⟨9, [2], []⟩, ⟨10, [2], []⟩, ⟨11, [1], []⟩, ⟨12, [], []⟩, ⟨13, [], []⟩] : List Foot)) (And.intro (decide_eq_true h3) (And.intro (decide_eq_true h4) (And.intro (Eq.refl ([⟨0, [2], []⟩, ⟨1, [2], []⟩, ⟨2, [], []⟩, ⟨3, [], []⟩, ⟨4, [1], []⟩, ⟨5, [], []⟩, ⟨6, [2], []⟩, ⟨7, [2], []⟩, ⟨8, [], []⟩, ⟨9, [1], []⟩, ⟨10, [], []⟩, ⟨11, [3], [3]⟩, ⟨12, [4], [4]⟩, ⟨13, [3], [3]⟩, ⟨14, [4], [4]⟩] : List Foot)) (And.intro (decide_eq_true h5) (And.intro h6 (And.intro (decide_eq_true h7) (And.intro h8 (And.intro (decide_eq_true h7) (And.intro h9 (And.intro (Eq.refl ([⟨0, [2], []⟩, ⟨1, [], []⟩, ⟨2, [2], []⟩, ⟨3, [1], []⟩, ⟨4, [1], []⟩, ⟨5, [6], [6]⟩, ⟨6, [6], [6]⟩] : List Foot)) (And.intro (decide_eq_true h10) (And.intro h11 (And.intro (decide_eq_true h7) (And.intro h12 (And.intro h13 (And.intro h13 (And.intro h14 (And.intro h13 (And.intro h13 (And.intro (decide_eq_true h10) (And.intro h15 (And.intro h13 (And.intro h13 (And.intro h16 (And.intro h16 (And.intro h16 (And.intro h16 (And.intro h16 (And.intro h16 (And.intro h16 (And.intro (decide_eq_true h7) (And.intro (F26v1_ok (m + 6) (false) (List.take k570 l573) z584 h17) (And.intro h18 (And.intro h19 (And.intro h18 (And.intro (Eq.refl ([⟨0, [], []⟩, ⟨1, [4], []⟩, ⟨2, [1], []⟩, ⟨3, [], []⟩, ⟨4, [2], []⟩, ⟨5, [1], []⟩, ⟨6, [], []⟩, ⟨7, [], []⟩, ⟨8, [6], []⟩, ⟨9, [], []⟩, ⟨10, [4], []⟩, ⟨11, [1], []⟩, ⟨12, [], []⟩, ⟨13, [], []⟩, ⟨14, [], []⟩, ⟨15, [6], []⟩, ⟨16, [6], []⟩, ⟨17, [], []⟩, ⟨18, [], []⟩, ⟨19, [], []⟩, ⟨20, [], []⟩, ⟨21, [], []⟩, ⟨22, [], []⟩, ⟨23, [], []⟩, ⟨24, [], []⟩, ⟨25, [], []⟩, ⟨26, [], []⟩, ⟨27, [], []⟩, ⟨28, [], []⟩, ⟨29, [], []⟩, ⟨30, [], []⟩, ⟨31, [], []⟩, ⟨32, [], []⟩, ⟨33, [2], []⟩, ⟨34, [1], []⟩, ⟨35, [2], []⟩, ⟨36, [2], []⟩, ⟨37, [1], []⟩, ⟨38, [], []⟩, ⟨39, [], []⟩, ⟨40, [], []⟩, ⟨41, [], []⟩, ⟨42, [], []⟩, ⟨43, [], []⟩, ⟨44, [], []⟩] : List Foot)) True.intro)))))))))))))))))))))))))))))))))))))))))
                                    · skip
                                      cases h
                                  · skip
                                    cases h
                            · skip
                              cases h
                      · skip
                        cases h
                    | a1 b586 k587 l588 =>
                      rcases ite_eq h with ⟨h10, h⟩ | ⟨h10, h⟩
                      · skip
                        obtain ⟨r11, h11, h⟩ := Option.bind_eq_some_iff.mp h
                        have h11 := F23v1_ok (m + 2) (false) (List.take (Int.toNat (↑k570 : Int) - Int.toNat (Int.tmod (w64 (Int.tmod z1 (↑k570 : Int) + (↑k570 : Int))) (↑k570 : Int))) (List.drop (0 + Int.toNat (Int.tmod (w64 (Int.tmod z1 (↑k570 : Int) + (↑k570 : Int))) (↑k570 : Int))) l573)) r11 h11
                        cases r11 with
                        | a0 z589 =>
                          obtain ⟨r12, h12, h⟩ := Option.bind_eq_some_iff.mp h
                          have h12 := F23v1_ok (m + 2) (false) (List.take k570 l573) r12 h12
                          cases r12 with
                          | a0 z590 =>
                            rcases ite_eq h with ⟨h13, h⟩ | ⟨h13, h⟩
                            · skip
                              rcases ite_eq h with ⟨h14, h⟩ | ⟨h14, h⟩
                              · skip
                                obtain ⟨r15, h15, h⟩ := Option.bind_eq_some_iff.mp h
                                have h15 := F23v1_ok (m + 2) (b586) (List.take k587 l588) r15 h15
                                cases r15 with
                                | a0 z591 =>
                                  obtain ⟨r16, h16, h⟩ := Option.bind_eq_some_iff.mp h
                                  have h16 := F23v1_ok (m + 2) (false) (List.take (Int.toNat (↑k570 : Int) - Int.toNat (Int.tmod (w64 (Int.tmod z1 (↑k570 : Int) + (↑k570 : Int))) (↑k570 : Int))) (List.drop (0 + Int.toNat (Int.tmod (w64 (Int.tmod z1 (↑k570 : Int) + (↑k570 : Int))) (↑k570 : Int))) l573)) r16 h16
                                  cases r16 with
                                  | a0 z592 =>
                                    rcases ite_eq h with ⟨h17, h⟩ | ⟨h17, h⟩
                                    · skip
                                      rcases ite_eq h with ⟨h18, h⟩ | ⟨h18, h⟩
                                      · skip
                                        obtain ⟨z593, h19, h⟩ := bnd_eq h
                                        rcases ite_eq h with ⟨h20, h⟩ | ⟨h20, h⟩
                                        · skip
                                          obtain ⟨r21, h21, h⟩ := Option.bind_eq_some_iff.mp h
                                          have h21 := F25_ok (m + 0) r21 h21
                                          cases r21 with
                                          | a0 b594 =>
                                            cases h
                                            exact call_pathL (gs := [.an (V.agg [vb b569, V.hs 1 0 k570]) [Ob.cells true false 2 [[V.list 1 l571, i64 z572]], Ob.cells true true 2 l573], .a, .a, .a, .f, .a, .f, .a, .a, .f, .ft [⟨0, [], []⟩, ⟨1, [2], []⟩, ⟨2, [2], []⟩, ⟨3, [1], []⟩, ⟨4, [], []⟩, ⟨5, [2], []⟩, ⟨6, [2], []⟩, ⟨7, [1], []⟩, ⟨8, [], []⟩, ⟨9, [2], []⟩, ⟨10, [2], []⟩, ⟨11, [1], []⟩, ⟨12, [], []⟩, ⟨13, [], []⟩], .a, .t, .a, .t, .a, .a, .ft [⟨0, [2], []⟩, ⟨1, [2], []⟩, ⟨2, [], []⟩, ⟨3, [], []⟩, ⟨4, [1], []⟩, ⟨5, [], []⟩, ⟨6, [2], []⟩, ⟨7, [2], []⟩, ⟨8, [], []⟩, ⟨9, [1], []⟩, ⟨10, [], []⟩, ⟨11, [3], [3]⟩, ⟨12, [4], [4]⟩, ⟨13, [3], [3]⟩, ⟨14, [4], [4]⟩], .a, .t, .an (i64 z577) [], .a, .a, .t, .an (i64 z578) [], .t, .an (V.agg [vb b586, V.hs 0 0 k587]) [Ob.cells true true 2 l588], .a, .ft [⟨0, [2], []⟩, ⟨1, [], []⟩, ⟨2, [2], []⟩, ⟨3, [1], []⟩, ⟨4, [1, 5], [1, 5]⟩, ⟨5, [6], [6]⟩, ⟨6, [6], [6]⟩], .a, .t, .an (i64 z589) [], .a, .t, .an (i64 z590) [], .t, .a, .t, .t, .an (i64 z591) [], .t, .a, .t, .t, .an (i64 z592) [], .t, .t, .t, .t, .a, .t, .t, .t, .t, .t, .t, .t, .t, .t, .t, .t, .t, .t, .t, .t, .t, .a, .a, .a, .t, .an (i64 z593) [], .a, .a, .a, .a, .a, .a, .a, .t, .an (vb b594) [], .t, .ft [⟨0, [], []⟩, ⟨1, [4], []⟩, ⟨2, [1], []⟩, ⟨3, [], []⟩, ⟨4, [2], []⟩, ⟨5, [1], []⟩, ⟨6, [], []⟩, ⟨7, [], []⟩, ⟨8, [6], []⟩, ⟨9, [5], []⟩, ⟨10, [4], []⟩, ⟨11, [1], []⟩, ⟨12, [], []⟩, ⟨13, [], []⟩, ⟨14, [], []⟩, ⟨15, [6], []⟩, ⟨16, [6], []⟩, ⟨17, [5], []⟩, ⟨18, [], []⟩, ⟨19, [], []⟩, ⟨20, [], []⟩, ⟨21, [], []⟩, ⟨22, [], []⟩, ⟨23, [], []⟩, ⟨24, [], []⟩, ⟨25, [], []⟩, ⟨26, [], []⟩, ⟨27, [], []⟩, ⟨28, [], []⟩, ⟨29, [], []⟩, ⟨30, [], []⟩, ⟨31, [], []⟩, ⟨32, [], []⟩, ⟨33, [2], []⟩, ⟨34, [1], []⟩, ⟨35, [2], []⟩, ⟨36, [2], []⟩, ⟨37, [1], []⟩, ⟨38, [], []⟩, ⟨39, [], []⟩, ⟨40, [], []⟩, ⟨41, [], []⟩, ⟨42, [], []⟩, ⟨43, [], []⟩, ⟨44, [], []⟩]]) (notIn []) rfl rfl (by kernel_rfl) (And.intro h0 (And.intro (decide_eq_false h1) (And.intro (decide_eq_false h2) (And.intro (decide_eq_false h2) (And.intro (Eq.refl ([⟨0, [], []⟩, ⟨1, [2], []⟩, ⟨2, [2], []⟩, ⟨3, [1], []⟩, ⟨4, [], []⟩, ⟨5, [2], []⟩, ⟨6, [2], []⟩, ⟨7, [1], []⟩, ⟨8, [], []⟩, ⟨9, [2], []⟩, ⟨10, [2], []⟩, ⟨11, [1], []⟩, ⟨12, [], []⟩, ⟨13, [], []⟩] : List Foot)) (And.intro (decide_eq_true h3) (And.intro (decide_eq_true h4) (And.intro (Eq.refl ([⟨0, [2], []⟩, ⟨1, [2], []⟩, ⟨2, [], []⟩, ⟨3, [], []⟩, ⟨4, [1], []⟩, ⟨5, [], []⟩, ⟨6, [2], []⟩, ⟨7, [2], []⟩, ⟨8, [], []⟩, ⟨9, [1], []⟩, ⟨10, [], []⟩, ⟨11, [3], [3]⟩, ⟨12, [4], [4]⟩, ⟨13, [3], [3]⟩, ⟨14, [4], [4]⟩] : List Foot)) (And.intro (decide_eq_true h5) (And.intro h6 (And.intro (decide_eq_true h7) (And.intro h8 (And.intro (decide_eq_true h7) (And.intro h9 (And.intro (Eq.refl ([⟨0, [2], []⟩, ⟨1, [], []⟩, ⟨2, [2], []⟩, ⟨3, [1], []⟩, ⟨4, [1, 5], [1, 5]⟩, ⟨5, [6], [6]⟩, ⟨6, [6], [6]⟩] : List Foot)) (And.intro (decide_eq_true h10) (And.intro h11 (And.intro (decide_eq_true h7) (And.intro h12 (And.intro h13 (And.intro h13 (And.intro (decide_eq_true h14) (And.intro h15 (And.intro h13 (And.intro h13 (And.intro (decide_eq_true h10) (And.intro h16 (And.intro h13 (And.intro h13 (And.intro h17 (And.intro h17 (And.intro h17 (And.intro h17 (And.intro h17 (And.intro h18 (And.intro h18 (And.intro h18 (And.intro h18 (And.intro h18 (And.intro h18 (And.intro h18 (And.intro h18 (And.intro h18 (And.intro h18 (And.intro h17 (And.intro h18 (And.intro h17 (And.intro (decide_eq_true h7) (And.intro (F26v1_ok (m + 6) (false) (List.take k570 l573) z593 h19) (And.intro h20 (And.intro h21 (And.intro h20 (And.intro (Eq.refl ([⟨0, [], []⟩, ⟨1, [4], []⟩, ⟨2, [1], []⟩, ⟨3, [], []⟩, ⟨4, [2], []⟩, ⟨5, [1], []⟩, ⟨6, [], []⟩, ⟨7, [], []⟩, ⟨8, [6], []⟩, ⟨9, [5], []⟩, ⟨10, [4], []⟩, ⟨11, [1], []⟩, ⟨12, [], []⟩, ⟨13, [], []⟩, ⟨14, [], []⟩, ⟨15, [6], []⟩, ⟨16, [6], []⟩, ⟨17, [5], []⟩, ⟨18, [], []⟩, ⟨19, [], []⟩, ⟨20, [], []⟩, ⟨21, [], []⟩, ⟨22, [], []⟩, ⟨23, [], []⟩, ⟨24, [], []⟩, ⟨25, [], []⟩, ⟨26, [], []⟩, ⟨27, [], []⟩, ⟨28, [], []⟩, ⟨29, [], []⟩, ⟨30, [], []⟩, ⟨31, [], []⟩, ⟨32, [], []⟩, ⟨33, [2], []⟩, ⟨34, [1], []⟩, ⟨35, [2], []⟩, ⟨36, [2], []⟩, ⟨37, [1], []⟩, ⟨38, [], []⟩, ⟨39, [], []⟩, ⟨40, [], []⟩, ⟨41, [], []⟩, ⟨42, [], []⟩, ⟨43, [], []⟩, ⟨44, [], []⟩] : List Foot)) True.intro)))))))))))))))))))))))))))))))))))))))))))))))))))))
                                        · skip
                                          cases h
                                      · skip
                                        rcases ite_eq h with ⟨h19, h⟩ | ⟨h19, h⟩
                                        · skip
                                          obtain ⟨e595, h20, h⟩ := Option.bind_eq_some_iff.mp h
                                          rcases ite_eq h with ⟨h21, h⟩ | ⟨h21, h⟩
                                          · skip
                                            obtain ⟨e596, h22, h⟩ := Option.bind_eq_some_iff.mp h
                                            rcases ite_eq h with ⟨h23, h⟩ | ⟨h23, h⟩
                                            · skip
                                              obtain ⟨z597, h24, h⟩ := bnd_eq h
                                              rcases ite_eq h with ⟨h25, h⟩ | ⟨h25, h⟩
                                              · skip
                                                obtain ⟨r26, h26, h⟩ := Option.bind_eq_some_iff.mp h
                                                have h26 := F25_ok (m + 0) r26 h26
                                                cases r26 with
                                                | a0 b598 =>
                                                  cases h
                                                  exact call_pathL (gs := [.an (V.agg [vb b569, V.hs 1 0 k570]) [Ob.cells true false 2 [[V.list 1 l571, i64 z572]], Ob.cells true true 2 l573], .a, .a, .a, .f, .a, .f, .a, .a, .f, .ft [⟨0, [], []⟩, ⟨1, [2], []⟩, ⟨2, [2], []⟩, ⟨3, [1], []⟩, ⟨4, [], []⟩, ⟨5, [2], []⟩, ⟨6, [2], []⟩, ⟨7, [1], []⟩, ⟨8, [], []⟩, ⟨9, [2], []⟩, ⟨10, [2], []⟩, ⟨11, [1], []⟩, ⟨12, [], []⟩, ⟨13, [], []⟩], .a, .t, .a, .t, .a, .a, .ft [⟨0, [2], []⟩, ⟨1, [2], []⟩, ⟨2, [], []⟩, ⟨3, [], []⟩, ⟨4, [1], []⟩, ⟨5, [], []⟩, ⟨6, [2], []⟩, ⟨7, [2], []⟩, ⟨8, [], []⟩, ⟨9, [1], []⟩, ⟨10, [], []⟩, ⟨11, [3], [3]⟩, ⟨12, [4], [4]⟩, ⟨13, [3], [3]⟩, ⟨14, [4], [4]⟩], .a, .t, .an (i64 z577) [], .a, .a, .t, .an (i64 z578) [], .t, .an (V.agg [vb b586, V.hs 0 0 k587]) [Ob.cells true true 2 l588], .a, .ft [⟨0, [2], []⟩, ⟨1, [], []⟩, ⟨2, [2], []⟩, ⟨3, [1], []⟩, ⟨4, [1, 5], [1, 5]⟩, ⟨5, [6], [6]⟩, ⟨6, [6], [6]⟩], .a, .t, .an (i64 z589) [], .a, .t, .an (i64 z590) [], .t, .a, .t, .t, .an (i64 z591) [], .t, .a, .t, .t, .an (i64 z592) [], .t, .t, .t, .t, .a, .t, .t, .t, .f, .f, .a, .f, .t, .f, .el (W34.cells e595), .f, .f, .a, .f, .f, .t, .f, .el (W34.cells e596), .f, .t, .f, .t, .t, .a, .t, .t, .an (i64 z597) [], .t, .t, .a, .t, .t, .t, .t, .t, .an (vb b598) [], .t, .ft [⟨0, [], []⟩, ⟨1, [4], []⟩, ⟨2, [1], []⟩, ⟨3, [], []⟩, ⟨4, [2], []⟩, ⟨5, [1], []⟩, ⟨6, [], []⟩, ⟨7, [], []⟩, ⟨8, [6], []⟩, ⟨9, [5], []⟩, ⟨10, [4], []⟩, ⟨11, [1], []⟩, ⟨12, [], []⟩, ⟨13, [], []⟩, ⟨14, [], []⟩, ⟨15, [6], []⟩, ⟨16, [6], []⟩, ⟨17, [5], []⟩, ⟨18, [], []⟩, ⟨19, [], []⟩, ⟨20, [6], []⟩, ⟨21, [6], []⟩, ⟨22, [5], []⟩, ⟨23, [5], []⟩, ⟨24, [2], []⟩, ⟨25, [2], []⟩, ⟨26, [], []⟩, ⟨27, [1], []⟩, ⟨28, [1], []⟩, ⟨29, [], []⟩, ⟨30, [], []⟩, ⟨31, [], []⟩, ⟨32, [], []⟩, ⟨33, [2], []⟩, ⟨34, [1], []⟩, ⟨35, [2], []⟩, ⟨36, [2], []⟩, ⟨37, [1], []⟩, ⟨38, [], []⟩, ⟨39, [], []⟩, ⟨40, [], []⟩, ⟨41, [], []⟩, ⟨42, [], []⟩, ⟨43, [], []⟩, ⟨44, [], []⟩]]) (notIn []) rfl rfl (by kernel_rfl) (And.intro h0 (And.intro (decide_eq_false h1) (And.intro (decide_eq_false h2) (And.intro (decide_eq_false h2) (And.intro (Eq.refl ([⟨0, [], []⟩, ⟨1, [2], []⟩, ⟨2, [2], []⟩, ⟨3, [1], []⟩, ⟨4, [], []⟩, ⟨5, [2], []⟩, ⟨6, [2], []⟩, ⟨7, [1], []⟩, ⟨8, [], []⟩, ⟨9, [2], []⟩, ⟨10, [2], []⟩, ⟨11, [1], []⟩, ⟨12, [], []⟩, ⟨13, [], []⟩] : List Foot)) (And.intro (decide_eq_true h3) (And.intro (decide_eq_true h4) (And.intro (Eq.refl ([⟨0, [2], []⟩, ⟨1, [2], []⟩, ⟨2, [], []⟩, ⟨3, [], []⟩, ⟨4, [1], []⟩, ⟨5, [], []⟩, ⟨6, [2], []⟩, ⟨7, [2], []⟩, ⟨8, [], []⟩, ⟨9, [1], []⟩, ⟨10, [], []⟩, ⟨11, [3], [3]⟩, ⟨12, [4], [4]⟩, ⟨13, [3], [3]⟩, ⟨14, [4], [4]⟩] : List Foot)) (And.intro (decide_eq_true h5) (And.intro h6 (And.intro (decide_eq_true h7) (And.intro h8 (And.intro (decide_eq_true h7) (And.intro h9 (And.intro (Eq.refl ([⟨0, [2], []⟩, ⟨1, [], []⟩, ⟨2, [2], []⟩, ⟨3, [1], []⟩, ⟨4, [1, 5], [1, 5]⟩, ⟨5, [6], [6]⟩, ⟨6, [6], [6]⟩] : List Foot)) (And.intro (decide_eq_true h10) (And.intro h11 (And.intro (decide_eq_true h7) (And.intro h12 (And.intro h13 (And.intro h13 (And.intro (decide_eq_true h14) (And.intro h15 (And.intro h13 (And.intro h13 (And.intro (decide_eq_true h10) (And.intro h16 (And.intro h13 (And.intro h13 (And.intro h17 (And.intro h17 (And.intro h17 (And.intro h17 (And.intro h17 (And.intro (Bool.eq_false_iff.mpr h18) (And.intro (Bool.eq_false_iff.mpr h18) (And.intro (Bool.eq_false_iff.mpr h18) (And.intro (decide_eq_true h19) (And.intro (Bool.eq_false_iff.mpr h18) (And.intro (W34.dec_ok h20) (And.intro (Bool.eq_false_iff.mpr h18) (And.intro (Bool.eq_false_iff.mpr h18) (And.intro (Bool.eq_false_iff.mpr h18) (And.intro (Bool.eq_false_iff.mpr h18) (And.intro (decide_eq_true h21) (And.intro (Bool.eq_false_iff.mpr h18) (And.intro (W34.dec_ok h22) (And.intro (Bool.eq_false_iff.mpr h18) (And.intro h17 (And.intro (Bool.eq_false_iff.mpr h18) (And.intro h17 (And.intro h23 (And.intro h23 (And.intro (decide_eq_true h7) (And.intro (F26v1_ok (m + 6) (false) (List.take k570 l573) z597 h24) (And.intro h23 (And.intro h23 (And.intro h23 (And.intro h23 (And.intro h23 (And.intro h23 (And.intro h25 (And.intro h26 (And.intro h25 (And.intro (Eq.refl ([⟨0, [], []⟩, ⟨1, [4], []⟩, ⟨2, [1], []⟩, ⟨3, [], []⟩, ⟨4, [2], []⟩, ⟨5, [1], []⟩, ⟨6, [], []⟩, ⟨7, [], []⟩, ⟨8, [6], []⟩, ⟨9, [5], []⟩, ⟨10, [4], []⟩, ⟨11, [1], []⟩, ⟨12, [], []⟩, ⟨13, [], []⟩, ⟨14, [], []⟩, ⟨15, [6], []⟩, ⟨16, [6], []⟩, ⟨17, [5], []⟩, ⟨18, [], []⟩, ⟨19, [], []⟩, ⟨20, [6], []⟩, ⟨21, [6], []⟩, ⟨22, [5], []⟩, ⟨23, [5], []⟩, ⟨24, [2], []⟩, ⟨25, [2], []⟩, ⟨26, [], []⟩, ⟨27, [1], []⟩, ⟨28, [1], []⟩, ⟨29, [], []⟩, ⟨30, [], []⟩, ⟨31, [], []⟩, ⟨32, [], []⟩, ⟨33, [2], []⟩, ⟨34, [1], []⟩, ⟨35, [2], []⟩, ⟨36, [2], []⟩, ⟨37, [1], []⟩, ⟨38, [], []⟩, ⟨39, [], []⟩, ⟨40, [], []⟩, ⟨41, [], []⟩, ⟨42, [], []⟩, ⟨43, [], []⟩, ⟨44, [], []⟩] : List Foot)) True.intro)))))))))))))))))))))))))))))))))))))))))))))))))))))))))))))))))
                                              · skip
                                                cases h
                                            · skip
                                              cases h
                                          · skip
                                            cases h
                                        · skip
                                          cases h
                                    · skip
                                      cases h
                              · skip
                                cases h
                            · skip
                              cases h
                      · skip
                        cases h
                · skip
                  cases h
            · skip
              cases h
          · skip
            cases h
        · skip
          cases h
end Go.Proofs.Ythohhdcngdmbeaa.H
