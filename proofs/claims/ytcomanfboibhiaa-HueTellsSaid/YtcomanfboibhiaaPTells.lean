/- What the functions compute, and that they do so over the machine of plain values (printed by this session's program wip/vm/Walk.lean). No condition beyond those stated. -/
import Derived.Test.YtcomanfboibhiaaWk
import Derived.Test.YtcomanfboibhiaaRowsR4
set_option linter.unusedVariables false
set_option linter.unusedSimpArgs false
namespace Go.Proofs.Ytcomanfboibhiaa.H
open Go Go.VM
set_option maxRecDepth 100000
/-! ## 33 -/
def F33 (z28 : Int) (z29 : Int) (z30 : Int) : Int :=
  if z28 < z29 then
   z29
  else
   if z28 > z30 then
    z30
   else
    z28
theorem F33_ok (m : Nat) (z28 : Int) (z29 : Int) (z30 : Int) (z33 : Int) (h : F33 z28 z29 z30 = z33) : call Try.prog X O0 100000 (m + 1) 33 ([i64 z28, i64 z29, i64 z30]) ([]) = some (i64 z33, []) := by
  unfold F33 at h
  rcases ite_eq h with ⟨h0, h⟩ | ⟨h0, h⟩
  · skip
    subst h
    exact call_pathL (gs := [.t]) (notIn []) rfl rfl (by kernel_rfl) (And.intro (decide_eq_true h0) True.intro)
  · skip
    rcases ite_eq h with ⟨h1, h⟩ | ⟨h1, h⟩
    · skip
      subst h
      exact call_pathL (gs := [.f, .t]) (notIn []) rfl rfl (by kernel_rfl) (And.intro (decide_eq_false h0) (And.intro (decide_eq_true h1) True.intro))
    · skip
      subst h
      exact call_pathL (gs := [.f, .f]) (notIn []) rfl rfl (by kernel_rfl) (And.intro (decide_eq_false h0) (And.intro (decide_eq_false h1) True.intro))
/-! ## 32 -/
def F32 (z26 : Int) : Int :=
  bnd (F33 (z26) (-1099511627776) (1099511627776)) fun z34 =>
  z34
theorem F32_ok (m : Nat) (z26 : Int) (z36 : Int) (h : F32 z26 = z36) : call Try.prog X O0 100000 (m + 2) 32 ([i64 z26]) ([]) = some (i64 z36, []) := by
  unfold F32 at h
  obtain ⟨z34, h0, h⟩ := bnd_eq h
  subst h
  exact call_pathL (gs := [.an (i64 z34) []]) (notIn []) rfl rfl (by kernel_rfl) (And.intro (F33_ok (m + 0) (z26) (-1099511627776) (1099511627776) z34 h0) True.intro)
/-! ## 12 -/
inductive A12 where
  | a0 (z42 : Int) (z43 : Int) (z44 : Int) (z45 : Int)
@[reducible] def A12.out : A12 → V × Store
  | .a0 z42 z43 z44 z45 => (V.agg [u8 z42, u8 z43, u8 z44, u8 z45], [])
def F12 (z16 : Int) (z17 : Int) (z18 : Int) (z19 : Int) (z20 : Int) (z21 : Int) (z22 : Int) (z23 : Int) (z24 : Int) : Option A12 :=
  bnd (F32 (z24)) fun z37 =>
  bnd (F33 (w64 (w64 z16 + Int.fdiv (w64 (w64 (w64 z20 - w64 z16) * z37)) 65536)) (0) (255)) fun z38 =>
  bnd (F33 (w64 (w64 z17 + Int.fdiv (w64 (w64 (w64 z21 - w64 z17) * z37)) 65536)) (0) (255)) fun z39 =>
  bnd (F33 (w64 (w64 z18 + Int.fdiv (w64 (w64 (w64 z22 - w64 z18) * z37)) 65536)) (0) (255)) fun z40 =>
  bnd (F33 (w64 (w64 z19 + Int.fdiv (w64 (w64 (w64 z23 - w64 z19) * z37)) 65536)) (0) (255)) fun z41 =>
  some (A12.a0 (IntKind.wrap IntKind.u8 z38) (IntKind.wrap IntKind.u8 z39) (IntKind.wrap IntKind.u8 z40) (IntKind.wrap IntKind.u8 z41))
theorem F12_ok (m : Nat) (z16 : Int) (z17 : Int) (z18 : Int) (z19 : Int) (z20 : Int) (z21 : Int) (z22 : Int) (z23 : Int) (z24 : Int) (r : A12) (h : F12 z16 z17 z18 z19 z20 z21 z22 z23 z24 = some r) : call Try.prog X O0 100000 (m + 3) 12 ([V.agg [u8 z16, u8 z17, u8 z18, u8 z19], V.agg [u8 z20, u8 z21, u8 z22, u8 z23], i64 z24]) ([]) = some r.out := by
  unfold F12 at h
  obtain ⟨z37, h0, h⟩ := bnd_eq h
  obtain ⟨z38, h1, h⟩ := bnd_eq h
  obtain ⟨z39, h2, h⟩ := bnd_eq h
  obtain ⟨z40, h3, h⟩ := bnd_eq h
  obtain ⟨z41, h4, h⟩ := bnd_eq h
  cases h
  exact call_pathL (gs := [.an (i64 z37) [], .a, .a, .a, .a, .ft [⟨0, [], []⟩, ⟨1, [0], []⟩, ⟨2, [0], []⟩, ⟨3, [], []⟩, ⟨4, [], []⟩, ⟨5, [1], []⟩, ⟨6, [1], []⟩, ⟨7, [], []⟩, ⟨8, [], []⟩, ⟨9, [0], []⟩, ⟨10, [0], []⟩, ⟨11, [], []⟩, ⟨12, [], []⟩, ⟨13, [], []⟩, ⟨14, [], []⟩, ⟨15, [], []⟩, ⟨16, [], []⟩, ⟨17, [], []⟩], .an (i64 z38) [], .a, .a, .a, .a, .a, .ft [⟨0, [], []⟩, ⟨1, [0], []⟩, ⟨2, [0], []⟩, ⟨3, [], []⟩, ⟨4, [], []⟩, ⟨5, [1], []⟩, ⟨6, [1], []⟩, ⟨7, [], []⟩, ⟨8, [], []⟩, ⟨9, [0], []⟩, ⟨10, [0], []⟩, ⟨11, [], []⟩, ⟨12, [], []⟩, ⟨13, [], []⟩, ⟨14, [], []⟩, ⟨15, [], []⟩, ⟨16, [], []⟩, ⟨17, [], []⟩], .an (i64 z39) [], .a, .a, .a, .a, .a, .ft [⟨0, [], []⟩, ⟨1, [0], []⟩, ⟨2, [0], []⟩, ⟨3, [], []⟩, ⟨4, [], []⟩, ⟨5, [1], []⟩, ⟨6, [1], []⟩, ⟨7, [], []⟩, ⟨8, [], []⟩, ⟨9, [0], []⟩, ⟨10, [0], []⟩, ⟨11, [], []⟩, ⟨12, [], []⟩, ⟨13, [], []⟩, ⟨14, [], []⟩, ⟨15, [], []⟩, ⟨16, [], []⟩, ⟨17, [], []⟩], .an (i64 z40) [], .a, .a, .a, .a, .a, .ft [⟨0, [], []⟩, ⟨1, [0], []⟩, ⟨2, [0], []⟩, ⟨3, [], []⟩, ⟨4, [], []⟩, ⟨5, [1], []⟩, ⟨6, [1], []⟩, ⟨7, [], []⟩, ⟨8, [], []⟩, ⟨9, [0], []⟩, ⟨10, [0], []⟩, ⟨11, [], []⟩, ⟨12, [], []⟩, ⟨13, [], []⟩, ⟨14, [], []⟩, ⟨15, [], []⟩, ⟨16, [], []⟩, ⟨17, [], []⟩], .an (i64 z41) [], .a, .a, .a, .a]) (notIn [0]) rfl rfl (by kernel_rfl) (And.intro (F32_ok (m + 0) (z24) z37 h0) (And.intro (Eq.refl ([⟨0, [], []⟩, ⟨1, [0], []⟩, ⟨2, [0], []⟩, ⟨3, [], []⟩, ⟨4, [], []⟩, ⟨5, [1], []⟩, ⟨6, [1], []⟩, ⟨7, [], []⟩, ⟨8, [], []⟩, ⟨9, [0], []⟩, ⟨10, [0], []⟩, ⟨11, [], []⟩, ⟨12, [], []⟩, ⟨13, [], []⟩, ⟨14, [], []⟩, ⟨15, [], []⟩, ⟨16, [], []⟩, ⟨17, [], []⟩] : List Foot)) (And.intro (F33_ok (m + 1) (w64 (w64 z16 + Int.fdiv (w64 (w64 (w64 z20 - w64 z16) * z37)) 65536)) (0) (255) z38 h1) (And.intro (Eq.refl ([⟨0, [], []⟩, ⟨1, [0], []⟩, ⟨2, [0], []⟩, ⟨3, [], []⟩, ⟨4, [], []⟩, ⟨5, [1], []⟩, ⟨6, [1], []⟩, ⟨7, [], []⟩, ⟨8, [], []⟩, ⟨9, [0], []⟩, ⟨10, [0], []⟩, ⟨11, [], []⟩, ⟨12, [], []⟩, ⟨13, [], []⟩, ⟨14, [], []⟩, ⟨15, [], []⟩, ⟨16, [], []⟩, ⟨17, [], []⟩] : List Foot)) (And.intro (F33_ok (m + 1) (w64 (w64 z17 + Int.fdiv (w64 (w64 (w64 z21 - w64 z17) * z37)) 65536)) (0) (255) z39 h2) (And.intro (Eq.refl ([⟨0, [], []⟩, ⟨1, [0], []⟩, ⟨2, [0], []⟩, ⟨3, [], []⟩, ⟨4, [], []⟩, ⟨5, [1], []⟩, ⟨6, [1], []⟩, ⟨7, [], []⟩, ⟨8, [], []⟩, ⟨9, [0], []⟩, ⟨10, [0], []⟩, ⟨11, [], []⟩, ⟨12, [], []⟩, ⟨13, [], []⟩, ⟨14, [], []⟩, ⟨15, [], []⟩, ⟨16, [], []⟩, ⟨17, [], []⟩] : List Foot)) (And.intro (F33_ok (m + 1) (w64 (w64 z18 + Int.fdiv (w64 (w64 (w64 z22 - w64 z18) * z37)) 65536)) (0) (255) z40 h3) (And.intro (Eq.refl ([⟨0, [], []⟩, ⟨1, [0], []⟩, ⟨2, [0], []⟩, ⟨3, [], []⟩, ⟨4, [], []⟩, ⟨5, [1], []⟩, ⟨6, [1], []⟩, ⟨7, [], []⟩, ⟨8, [], []⟩, ⟨9, [0], []⟩, ⟨10, [0], []⟩, ⟨11, [], []⟩, ⟨12, [], []⟩, ⟨13, [], []⟩, ⟨14, [], []⟩, ⟨15, [], []⟩, ⟨16, [], []⟩, ⟨17, [], []⟩] : List Foot)) (And.intro (F33_ok (m + 1) (w64 (w64 z19 + Int.fdiv (w64 (w64 (w64 z23 - w64 z19) * z37)) 65536)) (0) (255) z41 h4) True.intro)))))))))
/-! ## 43 -/
def F43 (z62 : Int) (z63 : Int) (z64 : Int) : Int :=
  if z62 < z63 then
   z63
  else
   if z62 > z64 then
    z64
   else
    z62
theorem F43_ok (m : Nat) (z62 : Int) (z63 : Int) (z64 : Int) (z67 : Int) (h : F43 z62 z63 z64 = z67) : call Try.prog X O0 100000 (m + 1) 43 ([i64 z62, i64 z63, i64 z64]) ([]) = some (i64 z67, []) := by
  unfold F43 at h
  rcases ite_eq h with ⟨h0, h⟩ | ⟨h0, h⟩
  · skip
    subst h
    exact call_pathL (gs := [.t]) (notIn []) rfl rfl (by kernel_rfl) (And.intro (decide_eq_true h0) True.intro)
  · skip
    rcases ite_eq h with ⟨h1, h⟩ | ⟨h1, h⟩
    · skip
      subst h
      exact call_pathL (gs := [.f, .t]) (notIn []) rfl rfl (by kernel_rfl) (And.intro (decide_eq_false h0) (And.intro (decide_eq_true h1) True.intro))
    · skip
      subst h
      exact call_pathL (gs := [.f, .f]) (notIn []) rfl rfl (by kernel_rfl) (And.intro (decide_eq_false h0) (And.intro (decide_eq_false h1) True.intro))
/-! ## 42 -/
def F42 (z60 : Int) : Int :=
  bnd (F43 (z60) (-1099511627776) (1099511627776)) fun z68 =>
  z68
theorem F42_ok (m : Nat) (z60 : Int) (z70 : Int) (h : F42 z60 = z70) : call Try.prog X O0 100000 (m + 2) 42 ([i64 z60]) ([]) = some (i64 z70, []) := by
  unfold F42 at h
  obtain ⟨z68, h0, h⟩ := bnd_eq h
  subst h
  exact call_pathL (gs := [.an (i64 z68) []]) (notIn []) rfl rfl (by kernel_rfl) (And.intro (F43_ok (m + 0) (z60) (-1099511627776) (1099511627776) z68 h0) True.intro)
/-! ## 22 -/
inductive A22 where
  | a0 (z76 : Int) (z77 : Int) (z78 : Int) (z79 : Int)
@[reducible] def A22.out : A22 → V × Store
  | .a0 z76 z77 z78 z79 => (V.agg [u8 z76, u8 z77, u8 z78, u8 z79], [])
def F22 (z50 : Int) (z51 : Int) (z52 : Int) (z53 : Int) (z54 : Int) (z55 : Int) (z56 : Int) (z57 : Int) (z58 : Int) : Option A22 :=
  bnd (F42 (z58)) fun z71 =>
  if Int.tmod (w64 (w64 (w64 z54 - w64 z50) * z71)) 65536 < 0 then
   bnd (F43 (w64 (w64 z50 + w64 (w64 (Int.tdiv (w64 (w64 (w64 z54 - w64 z50) * z71)) 65536) - 1))) (0) (255)) fun z72 =>
   if Int.tmod (w64 (w64 (w64 z55 - w64 z51) * z71)) 65536 < 0 then
    bnd (F43 (w64 (w64 z51 + w64 (w64 (Int.tdiv (w64 (w64 (w64 z55 - w64 z51) * z71)) 65536) - 1))) (0) (255)) fun z73 =>
    if Int.tmod (w64 (w64 (w64 z56 - w64 z52) * z71)) 65536 < 0 then
     bnd (F43 (w64 (w64 z52 + w64 (w64 (Int.tdiv (w64 (w64 (w64 z56 - w64 z52) * z71)) 65536) - 1))) (0) (255)) fun z74 =>
     if Int.tmod (w64 (w64 (w64 z57 - w64 z53) * z71)) 65536 < 0 then
      bnd (F43 (w64 (w64 z53 + w64 (w64 (Int.tdiv (w64 (w64 (w64 z57 - w64 z53) * z71)) 65536) - 1))) (0) (255)) fun z75 =>
      some (A22.a0 (IntKind.wrap IntKind.u8 z72) (IntKind.wrap IntKind.u8 z73) (IntKind.wrap IntKind.u8 z74) (IntKind.wrap IntKind.u8 z75))
     else
      bnd (F43 (w64 (w64 z53 + w64 (Int.tdiv (w64 (w64 (w64 z57 - w64 z53) * z71)) 65536))) (0) (255)) fun z80 =>
      some (A22.a0 (IntKind.wrap IntKind.u8 z72) (IntKind.wrap IntKind.u8 z73) (IntKind.wrap IntKind.u8 z74) (IntKind.wrap IntKind.u8 z80))
    else
     bnd (F43 (w64 (w64 z52 + w64 (Int.tdiv (w64 (w64 (w64 z56 - w64 z52) * z71)) 65536))) (0) (255)) fun z81 =>
     if Int.tmod (w64 (w64 (w64 z57 - w64 z53) * z71)) 65536 < 0 then
      bnd (F43 (w64 (w64 z53 + w64 (w64 (Int.tdiv (w64 (w64 (w64 z57 - w64 z53) * z71)) 65536) - 1))) (0) (255)) fun z82 =>
      some (A22.a0 (IntKind.wrap IntKind.u8 z72) (IntKind.wrap IntKind.u8 z73) (IntKind.wrap IntKind.u8 z81) (IntKind.wrap IntKind.u8 z82))
     else
      bnd (F43 (w64 (w64 z53 + w64 (Int.tdiv (w64 (w64 (w64 z57 - w64 z53) * z71)) 65536))) (0) (255)) fun z83 =>
      some (A22.a0 (IntKind.wrap IntKind.u8 z72) (IntKind.wrap IntKind.u8 z73) (IntKind.wrap IntKind.u8 z81) (IntKind.wrap IntKind.u8 z83))
   else
    bnd (F43 (w64 (w64 z51 + w64 (Int.tdiv (w64 (w64 (w64 z55 - w64 z51) * z71)) 65536))) (0) (255)) fun z84 =>
    if Int.tmod (w64 (w64 (w64 z56 - w64 z52) * z71)) 65536 < 0 then
     bnd (F43 (w64 (w64 z52 + w64 (w64 (Int.tdiv (w64 (w64 (w64 z56 - w64 z52) * z71)) 65536) - 1))) (0) (255)) fun z85 =>
     if Int.tmod (w64 (w64 (w64 z57 - w64 z53) * z71)) 65536 < 0 then
      bnd (F43 (w64 (w64 z53 + w64 (w64 (Int.tdiv (w64 (w64 (w64 z57 - w64 z53) * z71)) 65536) - 1))) (0) (255)) fun z86 =>
      some (A22.a0 (IntKind.wrap IntKind.u8 z72) (IntKind.wrap IntKind.u8 z84) (IntKind.wrap IntKind.u8 z85) (IntKind.wrap IntKind.u8 z86))
     else
      bnd (F43 (w64 (w64 z53 + w64 (Int.tdiv (w64 (w64 (w64 z57 - w64 z53) * z71)) 65536))) (0) (255)) fun z87 =>
      some (A22.a0 (IntKind.wrap IntKind.u8 z72) (IntKind.wrap IntKind.u8 z84) (IntKind.wrap IntKind.u8 z85) (IntKind.wrap IntKind.u8 z87))
    else
     bnd (F43 (w64 (w64 z52 + w64 (Int.tdiv (w64 (w64 (w64 z56 - w64 z52) * z71)) 65536))) (0) (255)) fun z88 =>
     if Int.tmod (w64 (w64 (w64 z57 - w64 z53) * z71)) 65536 < 0 then
      bnd (F43 (w64 (w64 z53 + w64 (w64 (Int.tdiv (w64 (w64 (w64 z57 - w64 z53) * z71)) 65536) - 1))) (0) (255)) fun z89 =>
      some (A22.a0 (IntKind.wrap IntKind.u8 z72) (IntKind.wrap IntKind.u8 z84) (IntKind.wrap IntKind.u8 z88) (IntKind.wrap IntKind.u8 z89))
     else
      bnd (F43 (w64 (w64 z53 + w64 (Int.tdiv (w64 (w64 (w64 z57 - w64 z53) * z71)) 65536))) (0) (255)) fun z90 =>
      some (A22.a0 (IntKind.wrap IntKind.u8 z72) (IntKind.wrap IntKind.u8 z84) (IntKind.wrap IntKind.u8 z88) (IntKind.wrap IntKind.u8 z90))
  else
   bnd (F43 (w64 (w64 z50 + w64 (Int.tdiv (w64 (w64 (w64 z54 - w64 z50) * z71)) 65536))) (0) (255)) fun z91 =>
   if Int.tmod (w64 (w64 (w64 z55 - w64 z51) * z71)) 65536 < 0 then
    bnd (F43 (w64 (w64 z51 + w64 (w64 (Int.tdiv (w64 (w64 (w64 z55 - w64 z51) * z71)) 65536) - 1))) (0) (255)) fun z92 =>
    if Int.tmod (w64 (w64 (w64 z56 - w64 z52) * z71)) 65536 < 0 then
     bnd (F43 (w64 (w64 z52 + w64 (w64 (Int.tdiv (w64 (w64 (w64 z56 - w64 z52) * z71)) 65536) - 1))) (0) (255)) fun z93 =>
     if Int.tmod (w64 (w64 (w64 z57 - w64 z53) * z71)) 65536 < 0 then
      bnd (F43 (w64 (w64 z53 + w64 (w64 (Int.tdiv (w64 (w64 (w64 z57 - w64 z53) * z71)) 65536) - 1))) (0) (255)) fun z94 =>
      some (A22.a0 (IntKind.wrap IntKind.u8 z91) (IntKind.wrap IntKind.u8 z92) (IntKind.wrap IntKind.u8 z93) (IntKind.wrap IntKind.u8 z94))
     else
      bnd (F43 (w64 (w64 z53 + w64 (Int.tdiv (w64 (w64 (w64 z57 - w64 z53) * z71)) 65536))) (0) (255)) fun z95 =>
      some (A22.a0 (IntKind.wrap IntKind.u8 z91) (IntKind.wrap IntKind.u8 z92) (IntKind.wrap IntKind.u8 z93) (IntKind.wrap IntKind.u8 z95))
    else
     bnd (F43 (w64 (w64 z52 + w64 (Int.tdiv (w64 (w64 (w64 z56 - w64 z52) * z71)) 65536))) (0) (255)) fun z96 =>
     if Int.tmod (w64 (w64 (w64 z57 - w64 z53) * z71)) 65536 < 0 then
      bnd (F43 (w64 (w64 z53 + w64 (w64 (Int.tdiv (w64 (w64 (w64 z57 - w64 z53) * z71)) 65536) - 1))) (0) (255)) fun z97 =>
      some (A22.a0 (IntKind.wrap IntKind.u8 z91) (IntKind.wrap IntKind.u8 z92) (IntKind.wrap IntKind.u8 z96) (IntKind.wrap IntKind.u8 z97))
     else
      bnd (F43 (w64 (w64 z53 + w64 (Int.tdiv (w64 (w64 (w64 z57 - w64 z53) * z71)) 65536))) (0) (255)) fun z98 =>
      some (A22.a0 (IntKind.wrap IntKind.u8 z91) (IntKind.wrap IntKind.u8 z92) (IntKind.wrap IntKind.u8 z96) (IntKind.wrap IntKind.u8 z98))
   else
    bnd (F43 (w64 (w64 z51 + w64 (Int.tdiv (w64 (w64 (w64 z55 - w64 z51) * z71)) 65536))) (0) (255)) fun z99 =>
    if Int.tmod (w64 (w64 (w64 z56 - w64 z52) * z71)) 65536 < 0 then
     bnd (F43 (w64 (w64 z52 + w64 (w64 (Int.tdiv (w64 (w64 (w64 z56 - w64 z52) * z71)) 65536) - 1))) (0) (255)) fun z100 =>
     if Int.tmod (w64 (w64 (w64 z57 - w64 z53) * z71)) 65536 < 0 then
      bnd (F43 (w64 (w64 z53 + w64 (w64 (Int.tdiv (w64 (w64 (w64 z57 - w64 z53) * z71)) 65536) - 1))) (0) (255)) fun z101 =>
      some (A22.a0 (IntKind.wrap IntKind.u8 z91) (IntKind.wrap IntKind.u8 z99) (IntKind.wrap IntKind.u8 z100) (IntKind.wrap IntKind.u8 z101))
     else
      bnd (F43 (w64 (w64 z53 + w64 (Int.tdiv (w64 (w64 (w64 z57 - w64 z53) * z71)) 65536))) (0) (255)) fun z102 =>
      some (A22.a0 (IntKind.wrap IntKind.u8 z91) (IntKind.wrap IntKind.u8 z99) (IntKind.wrap IntKind.u8 z100) (IntKind.wrap IntKind.u8 z102))
    else
     bnd (F43 (w64 (w64 z52 + w64 (Int.tdiv (w64 (w64 (w64 z56 - w64 z52) * z71)) 65536))) (0) (255)) fun z103 =>
     if Int.tmod (w64 (w64 (w64 z57 - w64 z53) * z71)) 65536 < 0 then
      bnd (F43 (w64 (w64 z53 + w64 (w64 (Int.tdiv (w64 (w64 (w64 z57 - w64 z53) * z71)) 65536) - 1))) (0) (255)) fun z104 =>
      some (A22.a0 (IntKind.wrap IntKind.u8 z91) (IntKind.wrap IntKind.u8 z99) (IntKind.wrap IntKind.u8 z103) (IntKind.wrap IntKind.u8 z104))
     else
      bnd (F43 (w64 (w64 z53 + w64 (Int.tdiv (w64 (w64 (w64 z57 - w64 z53) * z71)) 65536))) (0) (255)) fun z105 =>
      some (A22.a0 (IntKind.wrap IntKind.u8 z91) (IntKind.wrap IntKind.u8 z99) (IntKind.wrap IntKind.u8 z103) (IntKind.wrap IntKind.u8 z105))
theorem F22_ok (m : Nat) (z50 : Int) (z51 : Int) (z52 : Int) (z53 : Int) (z54 : Int) (z55 : Int) (z56 : Int) (z57 : Int) (z58 : Int) (r : A22) (h : F22 z50 z51 z52 z53 z54 z55 z56 z57 z58 = some r) : call Try.prog X O0 100000 (m + 3) 22 ([V.agg [u8 z50, u8 z51, u8 z52, u8 z53], V.agg [u8 z54, u8 z55, u8 z56, u8 z57], i64 z58]) ([]) = some r.out := by
  unfold F22 at h
  obtain ⟨z71, h0, h⟩ := bnd_eq h
  rcases ite_eq h with ⟨h1, h⟩ | ⟨h1, h⟩
  · skip
    obtain ⟨z72, h2, h⟩ := bnd_eq h
    rcases ite_eq h with ⟨h3, h⟩ | ⟨h3, h⟩
    · skip
      obtain ⟨z73, h4, h⟩ := bnd_eq h
      rcases ite_eq h with ⟨h5, h⟩ | ⟨h5, h⟩
      · skip
        obtain ⟨z74, h6, h⟩ := bnd_eq h
        rcases ite_eq h with ⟨h7, h⟩ | ⟨h7, h⟩
        · skip
          obtain ⟨z75, h8, h⟩ := bnd_eq h
          cases h
          exact call_pathL (gs := [.an (i64 z71) [], .a, .a, .a, .ft [⟨0, [], []⟩, ⟨1, [1], []⟩, ⟨2, [1], []⟩, ⟨3, [], []⟩, ⟨4, [], []⟩, ⟨5, [0], []⟩, ⟨6, [0], []⟩, ⟨7, [], []⟩, ⟨8, [], []⟩, ⟨9, [], []⟩, ⟨10, [], []⟩, ⟨11, [], []⟩], .a, .a, .t, .a, .an (i64 z72) [], .a, .a, .a, .a, .ft [⟨0, [], []⟩, ⟨1, [1], []⟩, ⟨2, [1], []⟩, ⟨3, [], []⟩, ⟨4, [], []⟩, ⟨5, [0], []⟩, ⟨6, [0], []⟩, ⟨7, [], []⟩, ⟨8, [], []⟩, ⟨9, [], []⟩, ⟨10, [], []⟩, ⟨11, [], []⟩], .a, .a, .t, .a, .an (i64 z73) [], .a, .a, .a, .a, .ft [⟨0, [], []⟩, ⟨1, [1], []⟩, ⟨2, [1], []⟩, ⟨3, [], []⟩, ⟨4, [], []⟩, ⟨5, [0], []⟩, ⟨6, [0], []⟩, ⟨7, [], []⟩, ⟨8, [], []⟩, ⟨9, [], []⟩, ⟨10, [], []⟩, ⟨11, [], []⟩], .a, .a, .t, .a, .an (i64 z74) [], .a, .a, .a, .a, .ft [⟨0, [], []⟩, ⟨1, [1], []⟩, ⟨2, [1], []⟩, ⟨3, [], []⟩, ⟨4, [], []⟩, ⟨5, [0], []⟩, ⟨6, [0], []⟩, ⟨7, [], []⟩, ⟨8, [], []⟩, ⟨9, [], []⟩, ⟨10, [], []⟩, ⟨11, [], []⟩], .a, .a, .t, .a, .an (i64 z75) [], .a, .a, .a, .a]) (notIn [0]) rfl rfl (by kernel_rfl) (And.intro (F42_ok (m + 0) (z58) z71 h0) (And.intro (Eq.refl ([⟨0, [], []⟩, ⟨1, [1], []⟩, ⟨2, [1], []⟩, ⟨3, [], []⟩, ⟨4, [], []⟩, ⟨5, [0], []⟩, ⟨6, [0], []⟩, ⟨7, [], []⟩, ⟨8, [], []⟩, ⟨9, [], []⟩, ⟨10, [], []⟩, ⟨11, [], []⟩] : List Foot)) (And.intro (decide_eq_true h1) (And.intro (F43_ok (m + 1) (w64 (w64 z50 + w64 (w64 (Int.tdiv (w64 (w64 (w64 z54 - w64 z50) * z71)) 65536) - 1))) (0) (255) z72 h2) (And.intro (Eq.refl ([⟨0, [], []⟩, ⟨1, [1], []⟩, ⟨2, [1], []⟩, ⟨3, [], []⟩, ⟨4, [], []⟩, ⟨5, [0], []⟩, ⟨6, [0], []⟩, ⟨7, [], []⟩, ⟨8, [], []⟩, ⟨9, [], []⟩, ⟨10, [], []⟩, ⟨11, [], []⟩] : List Foot)) (And.intro (decide_eq_true h3) (And.intro (F43_ok (m + 1) (w64 (w64 z51 + w64 (w64 (Int.tdiv (w64 (w64 (w64 z55 - w64 z51) * z71)) 65536) - 1))) (0) (255) z73 h4) (And.intro (Eq.refl ([⟨0, [], []⟩, ⟨1, [1], []⟩, ⟨2, [1], []⟩, ⟨3, [], []⟩, ⟨4, [], []⟩, ⟨5, [0], []⟩, ⟨6, [0], []⟩, ⟨7, [], []⟩, ⟨8, [], []⟩, ⟨9, [], []⟩, ⟨10, [], []⟩, ⟨11, [], []⟩] : List Foot)) (And.intro (decide_eq_true h5) (And.intro (F43_ok (m + 1) (w64 (w64 z52 + w64 (w64 (Int.tdiv (w64 (w64 (w64 z56 - w64 z52) * z71)) 65536) - 1))) (0) (255) z74 h6) (And.intro (Eq.refl ([⟨0, [], []⟩, ⟨1, [1], []⟩, ⟨2, [1], []⟩, ⟨3, [], []⟩, ⟨4, [], []⟩, ⟨5, [0], []⟩, ⟨6, [0], []⟩, ⟨7, [], []⟩, ⟨8, [], []⟩, ⟨9, [], []⟩, ⟨10, [], []⟩, ⟨11, [], []⟩] : List Foot)) (And.intro (decide_eq_true h7) (And.intro (F43_ok (m + 1) (w64 (w64 z53 + w64 (w64 (Int.tdiv (w64 (w64 (w64 z57 - w64 z53) * z71)) 65536) - 1))) (0) (255) z75 h8) True.intro)))))))))))))
        · skip
          obtain ⟨z80, h8, h⟩ := bnd_eq h
          cases h
          exact call_pathL (gs := [.an (i64 z71) [], .a, .a, .a, .ft [⟨0, [], []⟩, ⟨1, [1], []⟩, ⟨2, [1], []⟩, ⟨3, [], []⟩, ⟨4, [], []⟩, ⟨5, [0], []⟩, ⟨6, [0], []⟩, ⟨7, [], []⟩, ⟨8, [], []⟩, ⟨9, [], []⟩, ⟨10, [], []⟩, ⟨11, [], []⟩], .a, .a, .t, .a, .an (i64 z72) [], .a, .a, .a, .a, .ft [⟨0, [], []⟩, ⟨1, [1], []⟩, ⟨2, [1], []⟩, ⟨3, [], []⟩, ⟨4, [], []⟩, ⟨5, [0], []⟩, ⟨6, [0], []⟩, ⟨7, [], []⟩, ⟨8, [], []⟩, ⟨9, [], []⟩, ⟨10, [], []⟩, ⟨11, [], []⟩], .a, .a, .t, .a, .an (i64 z73) [], .a, .a, .a, .a, .ft [⟨0, [], []⟩, ⟨1, [1], []⟩, ⟨2, [1], []⟩, ⟨3, [], []⟩, ⟨4, [], []⟩, ⟨5, [0], []⟩, ⟨6, [0], []⟩, ⟨7, [], []⟩, ⟨8, [], []⟩, ⟨9, [], []⟩, ⟨10, [], []⟩, ⟨11, [], []⟩], .a, .a, .t, .a, .an (i64 z74) [], .a, .a, .a, .a, .ft [⟨0, [], []⟩, ⟨1, [1], []⟩, ⟨2, [1], []⟩, ⟨3, [], []⟩, ⟨4, [], []⟩, ⟨5, [0], []⟩, ⟨6, [0], []⟩, ⟨7, [], []⟩, ⟨8, [], []⟩, ⟨9, [], []⟩, ⟨10, [], []⟩, ⟨11, [], []⟩], .a, .a, .f, .a, .an (i64 z80) [], .a, .a, .a, .a]) (notIn [0]) rfl rfl (by kernel_rfl) (And.intro (F42_ok (m + 0) (z58) z71 h0) (And.intro (Eq.refl ([⟨0, [], []⟩, ⟨1, [1], []⟩, ⟨2, [1], []⟩, ⟨3, [], []⟩, ⟨4, [], []⟩, ⟨5, [0], []⟩, ⟨6, [0], []⟩, ⟨7, [], []⟩, ⟨8, [], []⟩, ⟨9, [], []⟩, ⟨10, [], []⟩, ⟨11, [], []⟩] : List Foot)) (And.intro (decide_eq_true h1) (And.intro (F43_ok (m + 1) (w64 (w64 z50 + w64 (w64 (Int.tdiv (w64 (w64 (w64 z54 - w64 z50) * z71)) 65536) - 1))) (0) (255) z72 h2) (And.intro (Eq.refl ([⟨0, [], []⟩, ⟨1, [1], []⟩, ⟨2, [1], []⟩, ⟨3, [], []⟩, ⟨4, [], []⟩, ⟨5, [0], []⟩, ⟨6, [0], []⟩, ⟨7, [], []⟩, ⟨8, [], []⟩, ⟨9, [], []⟩, ⟨10, [], []⟩, ⟨11, [], []⟩] : List Foot)) (And.intro (decide_eq_true h3) (And.intro (F43_ok (m + 1) (w64 (w64 z51 + w64 (w64 (Int.tdiv (w64 (w64 (w64 z55 - w64 z51) * z71)) 65536) - 1))) (0) (255) z73 h4) (And.intro (Eq.refl ([⟨0, [], []⟩, ⟨1, [1], []⟩, ⟨2, [1], []⟩, ⟨3, [], []⟩, ⟨4, [], []⟩, ⟨5, [0], []⟩, ⟨6, [0], []⟩, ⟨7, [], []⟩, ⟨8, [], []⟩, ⟨9, [], []⟩, ⟨10, [], []⟩, ⟨11, [], []⟩] : List Foot)) (And.intro (decide_eq_true h5) (And.intro (F43_ok (m + 1) (w64 (w64 z52 + w64 (w64 (Int.tdiv (w64 (w64 (w64 z56 - w64 z52) * z71)) 65536) - 1))) (0) (255) z74 h6) (And.intro (Eq.refl ([⟨0, [], []⟩, ⟨1, [1], []⟩, ⟨2, [1], []⟩, ⟨3, [], []⟩, ⟨4, [], []⟩, ⟨5, [0], []⟩, ⟨6, [0], []⟩, ⟨7, [], []⟩, ⟨8, [], []⟩, ⟨9, [], []⟩, ⟨10, [], []⟩, ⟨11, [], []⟩] : List Foot)) (And.intro (decide_eq_false h7) (And.intro (F43_ok (m + 1) (w64 (w64 z53 + w64 (Int.tdiv (w64 (w64 (w64 z57 - w64 z53) * z71)) 65536))) (0) (255) z80 h8) True.intro)))))))))))))
      · skip
        obtain ⟨z81, h6, h⟩ := bnd_eq h
        rcases ite_eq h with ⟨h7, h⟩ | ⟨h7, h⟩
        · skip
          obtain ⟨z82, h8, h⟩ := bnd_eq h
          cases h
          exact call_pathL (gs := [.an (i64 z71) [], .a, .a, .a, .ft [⟨0, [], []⟩, ⟨1, [1], []⟩, ⟨2, [1], []⟩, ⟨3, [], []⟩, ⟨4, [], []⟩, ⟨5, [0], []⟩, ⟨6, [0], []⟩, ⟨7, [], []⟩, ⟨8, [], []⟩, ⟨9, [], []⟩, ⟨10, [], []⟩, ⟨11, [], []⟩], .a, .a, .t, .a, .an (i64 z72) [], .a, .a, .a, .a, .ft [⟨0, [], []⟩, ⟨1, [1], []⟩, ⟨2, [1], []⟩, ⟨3, [], []⟩, ⟨4, [], []⟩, ⟨5, [0], []⟩, ⟨6, [0], []⟩, ⟨7, [], []⟩, ⟨8, [], []⟩, ⟨9, [], []⟩, ⟨10, [], []⟩, ⟨11, [], []⟩], .a, .a, .t, .a, .an (i64 z73) [], .a, .a, .a, .a, .ft [⟨0, [], []⟩, ⟨1, [1], []⟩, ⟨2, [1], []⟩, ⟨3, [], []⟩, ⟨4, [], []⟩, ⟨5, [0], []⟩, ⟨6, [0], []⟩, ⟨7, [], []⟩, ⟨8, [], []⟩, ⟨9, [], []⟩, ⟨10, [], []⟩, ⟨11, [], []⟩], .a, .a, .f, .a, .an (i64 z81) [], .a, .a, .a, .a, .ft [⟨0, [], []⟩, ⟨1, [1], []⟩, ⟨2, [1], []⟩, ⟨3, [], []⟩, ⟨4, [], []⟩, ⟨5, [0], []⟩, ⟨6, [0], []⟩, ⟨7, [], []⟩, ⟨8, [], []⟩, ⟨9, [], []⟩, ⟨10, [], []⟩, ⟨11, [], []⟩], .a, .a, .t, .a, .an (i64 z82) [], .a, .a, .a, .a]) (notIn [0]) rfl rfl (by kernel_rfl) (And.intro (F42_ok (m + 0) (z58) z71 h0) (And.intro (Eq.refl ([⟨0, [], []⟩, ⟨1, [1], []⟩, ⟨2, [1], []⟩, ⟨3, [], []⟩, ⟨4, [], []⟩, ⟨5, [0], []⟩, ⟨6, [0], []⟩, ⟨7, [], []⟩, ⟨8, [], []⟩, ⟨9, [], []⟩, ⟨10, [], []⟩, ⟨11, [], []⟩] : List Foot)) (And.intro (decide_eq_true h1) (And.intro (F43_ok (m + 1) (w64 (w64 z50 + w64 (w64 (Int.tdiv (w64 (w64 (w64 z54 - w64 z50) * z71)) 65536) - 1))) (0) (255) z72 h2) (And.intro (Eq.refl ([⟨0, [], []⟩, ⟨1, [1], []⟩, ⟨2, [1], []⟩, ⟨3, [], []⟩, ⟨4, [], []⟩, ⟨5, [0], []⟩, ⟨6, [0], []⟩, ⟨7, [], []⟩, ⟨8, [], []⟩, ⟨9, [], []⟩, ⟨10, [], []⟩, ⟨11, [], []⟩] : List Foot)) (And.intro (decide_eq_true h3) (And.intro (F43_ok (m + 1) (w64 (w64 z51 + w64 (w64 (Int.tdiv (w64 (w64 (w64 z55 - w64 z51) * z71)) 65536) - 1))) (0) (255) z73 h4) (And.intro (Eq.refl ([⟨0, [], []⟩, ⟨1, [1], []⟩, ⟨2, [1], []⟩, ⟨3, [], []⟩, ⟨4, [], []⟩, ⟨5, [0], []⟩, ⟨6, [0], []⟩, ⟨7, [], []⟩, ⟨8, [], []⟩, ⟨9, [], []⟩, ⟨10, [], []⟩, ⟨11, [], []⟩] : List Foot)) (And.intro (decide_eq_false h5) (And.intro (F43_ok (m + 1) (w64 (w64 z52 + w64 (Int.tdiv (w64 (w64 (w64 z56 - w64 z52) * z71)) 65536))) (0) (255) z81 h6) (And.intro (Eq.refl ([⟨0, [], []⟩, ⟨1, [1], []⟩, ⟨2, [1], []⟩, ⟨3, [], []⟩, ⟨4, [], []⟩, ⟨5, [0], []⟩, ⟨6, [0], []⟩, ⟨7, [], []⟩, ⟨8, [], []⟩, ⟨9, [], []⟩, ⟨10, [], []⟩, ⟨11, [], []⟩] : List Foot)) (And.intro (decide_eq_true h7) (And.intro (F43_ok (m + 1) (w64 (w64 z53 + w64 (w64 (Int.tdiv (w64 (w64 (w64 z57 - w64 z53) * z71)) 65536) - 1))) (0) (255) z82 h8) True.intro)))))))))))))
        · skip
          obtain ⟨z83, h8, h⟩ := bnd_eq h
          cases h
          exact call_pathL (gs := [.an (i64 z71) [], .a, .a, .a, .ft [⟨0, [], []⟩, ⟨1, [1], []⟩, ⟨2, [1], []⟩, ⟨3, [], []⟩, ⟨4, [], []⟩, ⟨5, [0], []⟩, ⟨6, [0], []⟩, ⟨7, [], []⟩, ⟨8, [], []⟩, ⟨9, [], []⟩, ⟨10, [], []⟩, ⟨11, [], []⟩], .a, .a, .t, .a, .an (i64 z72) [], .a, .a, .a, .a, .ft [⟨0, [], []⟩, ⟨1, [1], []⟩, ⟨2, [1], []⟩, ⟨3, [], []⟩, ⟨4, [], []⟩, ⟨5, [0], []⟩, ⟨6, [0], []⟩, ⟨7, [], []⟩, ⟨8, [], []⟩, ⟨9, [], []⟩, ⟨10, [], []⟩, ⟨11, [], []⟩], .a, .a, .t, .a, .an (i64 z73) [], .a, .a, .a, .a, .ft [⟨0, [], []⟩, ⟨1, [1], []⟩, ⟨2, [1], []⟩, ⟨3, [], []⟩, ⟨4, [], []⟩, ⟨5, [0], []⟩, ⟨6, [0], []⟩, ⟨7, [], []⟩, ⟨8, [], []⟩, ⟨9, [], []⟩, ⟨10, [], []⟩, ⟨11, [], []⟩], .a, .a, .f, .a, .an (i64 z81) [], .a, .a, .a, .a, .ft [⟨0, [], []⟩, ⟨1, [1], []⟩, ⟨2, [1], []⟩, ⟨3, [], []⟩, ⟨4, [], []⟩, ⟨5, [0], []⟩, ⟨6, [0], []⟩, ⟨7, [], []⟩, ⟨8, [], []⟩, ⟨9, [], []⟩, ⟨10, [], []⟩, ⟨11, [], []⟩], .a, .a, .f, .a, .an (i64 z83) [], .a, .a, .a, .a]) (notIn [0]) rfl rfl (by kernel_rfl) (And.intro (F42_ok (m + 0) (z58) z71 h0) (And.intro (Eq.refl ([⟨0, [], []⟩, ⟨1, [1], []⟩, ⟨2, [1], []⟩, ⟨3, [], []⟩, ⟨4, [], []⟩, ⟨5, [0], []⟩, ⟨6, [0], []⟩, ⟨7, [], []⟩, ⟨8, [], []⟩, ⟨9, [], []⟩, ⟨10, [], []⟩, ⟨11, [], []⟩] : List Foot)) (And.intro (decide_eq_true h1) (And.intro (F43_ok (m + 1) (w64 (w64 z50 + w64 (w64 (Int.tdiv (w64 (w64 (w64 z54 - w64 z50) * z71)) 65536) - 1))) (0) (255) z72 h2) (And.intro (Eq.refl ([⟨0, [], []⟩, ⟨1, [1], []⟩, ⟨2, [1], []⟩, ⟨3, [], []⟩, ⟨4, [], []⟩, ⟨5, [0], []⟩, ⟨6, [0], []⟩, ⟨7, [], []⟩, ⟨8, [], []⟩, ⟨9, [], []⟩, ⟨10, [], []⟩, ⟨11, [], []⟩] : List Foot)) (And.intro (decide_eq_true h3) (And.intro (F43_ok (m + 1) (w64 (w64 z51 + w64 (w64 (Int.tdiv (w64 (w64 (w64 z55 - w64 z51) * z71)) 65536) - 1))) (0) (255) z73 h4) (And.intro (Eq.refl ([⟨0, [], []⟩, ⟨1, [1], []⟩, ⟨2, [1], []⟩, ⟨3, [], []⟩, ⟨4, [], []⟩, ⟨5, [0], []⟩, ⟨6, [0], []⟩, ⟨7, [], []⟩, ⟨8, [], []⟩, ⟨9, [], []⟩, ⟨10, [], []⟩, ⟨11, [], []⟩] : List Foot)) (And.intro (decide_eq_false h5) (And.intro (F43_ok (m + 1) (w64 (w64 z52 + w64 (Int.tdiv (w64 (w64 (w64 z56 - w64 z52) * z71)) 65536))) (0) (255) z81 h6) (And.intro (Eq.refl ([⟨0, [], []⟩, ⟨1, [1], []⟩, ⟨2, [1], []⟩, ⟨3, [], []⟩, ⟨4, [], []⟩, ⟨5, [0], []⟩, ⟨6, [0], []⟩, ⟨7, [], []⟩, ⟨8, [], []⟩, ⟨9, [], []⟩, ⟨10, [], []⟩, ⟨11, [], []⟩] : List Foot)) (And.intro (decide_eq_false h7) (And.intro (F43_ok (m + 1) (w64 (w64 z53 + w64 (Int.tdiv (w64 (w64 (w64 z57 - w64 z53) * z71)) 65536))) (0) (255) z83 h8) True.intro)))))))))))))
    · skip
      obtain ⟨z84, h4, h⟩ := bnd_eq h
      rcases ite_eq h with ⟨h5, h⟩ | ⟨h5, h⟩
      · skip
        obtain ⟨z85, h6, h⟩ := bnd_eq h
        rcases ite_eq h with ⟨h7, h⟩ | ⟨h7, h⟩
        · skip
          obtain ⟨z86, h8, h⟩ := bnd_eq h
          cases h
          exact call_pathL (gs := [.an (i64 z71) [], .a, .a, .a, .ft [⟨0, [], []⟩, ⟨1, [1], []⟩, ⟨2, [1], []⟩, ⟨3, [], []⟩, ⟨4, [], []⟩, ⟨5, [0], []⟩, ⟨6, [0], []⟩, ⟨7, [], []⟩, ⟨8, [], []⟩, ⟨9, [], []⟩, ⟨10, [], []⟩, ⟨11, [], []⟩], .a, .a, .t, .a, .an (i64 z72) [], .a, .a, .a, .a, .ft [⟨0, [], []⟩, ⟨1, [1], []⟩, ⟨2, [1], []⟩, ⟨3, [], []⟩, ⟨4, [], []⟩, ⟨5, [0], []⟩, ⟨6, [0], []⟩, ⟨7, [], []⟩, ⟨8, [], []⟩, ⟨9, [], []⟩, ⟨10, [], []⟩, ⟨11, [], []⟩], .a, .a, .f, .a, .an (i64 z84) [], .a, .a, .a, .a, .ft [⟨0, [], []⟩, ⟨1, [1], []⟩, ⟨2, [1], []⟩, ⟨3, [], []⟩, ⟨4, [], []⟩, ⟨5, [0], []⟩, ⟨6, [0], []⟩, ⟨7, [], []⟩, ⟨8, [], []⟩, ⟨9, [], []⟩, ⟨10, [], []⟩, ⟨11, [], []⟩], .a, .a, .t, .a, .an (i64 z85) [], .a, .a, .a, .a, .ft [⟨0, [], []⟩, ⟨1, [1], []⟩, ⟨2, [1], []⟩, ⟨3, [], []⟩, ⟨4, [], []⟩, ⟨5, [0], []⟩, ⟨6, [0], []⟩, ⟨7, [], []⟩, ⟨8, [], []⟩, ⟨9, [], []⟩, ⟨10, [], []⟩, ⟨11, [], []⟩], .a, .a, .t, .a, .an (i64 z86) [], .a, .a, .a, .a]) (notIn [0]) rfl rfl (by kernel_rfl) (And.intro (F42_ok (m + 0) (z58) z71 h0) (And.intro (Eq.refl ([⟨0, [], []⟩, ⟨1, [1], []⟩, ⟨2, [1], []⟩, ⟨3, [], []⟩, ⟨4, [], []⟩, ⟨5, [0], []⟩, ⟨6, [0], []⟩, ⟨7, [], []⟩, ⟨8, [], []⟩, ⟨9, [], []⟩, ⟨10, [], []⟩, ⟨11, [], []⟩] : List Foot)) (And.intro (decide_eq_true h1) (And.intro (F43_ok (m + 1) (w64 (w64 z50 + w64 (w64 (Int.tdiv (w64 (w64 (w64 z54 - w64 z50) * z71)) 65536) - 1))) (0) (255) z72 h2) (And.intro (Eq.refl ([⟨0, [], []⟩, ⟨1, [1], []⟩, ⟨2, [1], []⟩, ⟨3, [], []⟩, ⟨4, [], []⟩, ⟨5, [0], []⟩, ⟨6, [0], []⟩, ⟨7, [], []⟩, ⟨8, [], []⟩, ⟨9, [], []⟩, ⟨10, [], []⟩, ⟨11, [], []⟩] : List Foot)) (And.intro (decide_eq_false h3) (And.intro (F43_ok (m + 1) (w64 (w64 z51 + w64 (Int.tdiv (w64 (w64 (w64 z55 - w64 z51) * z71)) 65536))) (0) (255) z84 h4) (And.intro (Eq.refl ([⟨0, [], []⟩, ⟨1, [1], []⟩, ⟨2, [1], []⟩, ⟨3, [], []⟩, ⟨4, [], []⟩, ⟨5, [0], []⟩, ⟨6, [0], []⟩, ⟨7, [], []⟩, ⟨8, [], []⟩, ⟨9, [], []⟩, ⟨10, [], []⟩, ⟨11, [], []⟩] : List Foot)) (And.intro (decide_eq_true h5) (And.intro (F43_ok (m + 1) (w64 (w64 z52 + w64 (w64 (Int.tdiv (w64 (w64 (w64 z56 - w64 z52) * z71)) 65536) - 1))) (0) (255) z85 h6) (And.intro (Eq.refl ([⟨0, [], []⟩, ⟨1, [1], []⟩, ⟨2, [1], []⟩, ⟨3, [], []⟩, ⟨4, [], []⟩, ⟨5, [0], []⟩, ⟨6, [0], []⟩, ⟨7, [], []⟩, ⟨8, [], []⟩, ⟨9, [], []⟩, ⟨10, [], []⟩, ⟨11, [], []⟩] : List Foot)) (And.intro (decide_eq_true h7) (And.intro (F43_ok (m + 1) (w64 (w64 z53 + w64 (w64 (Int.tdiv (w64 (w64 (w64 z57 - w64 z53) * z71)) 65536) - 1))) (0) (255) z86 h8) True.intro)))))))))))))
        · skip
          obtain ⟨z87, h8, h⟩ := bnd_eq h
          cases h
          exact call_pathL (gs := [.an (i64 z71) [], .a, .a, .a, .ft [⟨0, [], []⟩, ⟨1, [1], []⟩, ⟨2, [1], []⟩, ⟨3, [], []⟩, ⟨4, [], []⟩, ⟨5, [0], []⟩, ⟨6, [0], []⟩, ⟨7, [], []⟩, ⟨8, [], []⟩, ⟨9, [], []⟩, ⟨10, [], []⟩, ⟨11, [], []⟩], .a, .a, .t, .a, .an (i64 z72) [], .a, .a, .a, .a, .ft [⟨0, [], []⟩, ⟨1, [1], []⟩, ⟨2, [1], []⟩, ⟨3, [], []⟩, ⟨4, [], []⟩, ⟨5, [0], []⟩, ⟨6, [0], []⟩, ⟨7, [], []⟩, ⟨8, [], []⟩, ⟨9, [], []⟩, ⟨10, [], []⟩, ⟨11, [], []⟩], .a, .a, .f, .a, .an (i64 z84) [], .a, .a, .a, .a, .ft [⟨0, [], []⟩, ⟨1, [1], []⟩, ⟨2, [1], []⟩, ⟨3, [], []⟩, ⟨4, [], []⟩, ⟨5, [0], []⟩, ⟨6, [0], []⟩, ⟨7, [], []⟩, ⟨8, [], []⟩, ⟨9, [], []⟩, ⟨10, [], []⟩, ⟨11, [], []⟩], .a, .a, .t, .a, .an (i64 z85) [], .a, .a, .a, .a, .ft [⟨0, [], []⟩, ⟨1, [1], []⟩, ⟨2, [1], []⟩, ⟨3, [], []⟩, ⟨4, [], []⟩, ⟨5, [0], []⟩, ⟨6, [0], []⟩, ⟨7, [], []⟩, ⟨8, [], []⟩, ⟨9, [], []⟩, ⟨10, [], []⟩, ⟨11, [], []⟩], .a, .a, .f, .a, .an (i64 z87) [], .a, .a, .a, .a]) (notIn [0]) rfl rfl (by kernel_rfl) (And.intro (F42_ok (m + 0) (z58) z71 h0) (And.intro (Eq.refl ([⟨0, [], []⟩, ⟨1, [1], []⟩, ⟨2, [1], []⟩, ⟨3, [], []⟩, ⟨4, [], []⟩, ⟨5, [0], []⟩, ⟨6, [0], []⟩, ⟨7, [], []⟩, ⟨8, [], []⟩, ⟨9, [], []⟩, ⟨10, [], []⟩, ⟨11, [], []⟩] : List Foot)) (And.intro (decide_eq_true h1) (And.intro (F43_ok (m + 1) (w64 (w64 z50 + w64 (w64 (Int.tdiv (w64 (w64 (w64 z54 - w64 z50) * z71)) 65536) - 1))) (0) (255) z72 h2) (And.intro (Eq.refl ([⟨0, [], []⟩, ⟨1, [1], []⟩, ⟨2, [1], []⟩, ⟨3, [], []⟩, ⟨4, [], []⟩, ⟨5, [0], []⟩, ⟨6, [0], []⟩, ⟨7, [], []⟩, ⟨8, [], []⟩, ⟨9, [], []⟩, ⟨10, [], []⟩, ⟨11, [], []⟩] : List Foot)) (And.intro (decide_eq_false h3) (And.intro (F43_ok (m + 1) (w64 (w64 z51 + w64 (Int.tdiv (w64 (w64 (w64 z55 - w64 z51) * z71)) 65536))) (0) (255) z84 h4) (And.intro (Eq.refl ([⟨0, [], []⟩, ⟨1, [1], []⟩, ⟨2, [1], []⟩, ⟨3, [], []⟩, ⟨4, [], []⟩, ⟨5, [0], []⟩, ⟨6, [0], []⟩, ⟨7, [], []⟩, ⟨8, [], []⟩, ⟨9, [], []⟩, ⟨10, [], []⟩, ⟨11, [], []⟩] : List Foot)) (And.intro (decide_eq_true h5) (And.intro (F43_ok (m + 1) (w64 (w64 z52 + w64 (w64 (Int.tdiv (w64 (w64 (w64 z56 - w64 z52) * z71)) 65536) - 1))) (0) (255) z85 h6) (And.intro (Eq.refl ([⟨0, [], []⟩, ⟨1, [1], []⟩, ⟨2, [1], []⟩, ⟨3, [], []⟩, ⟨4, [], []⟩, ⟨5, [0], []⟩, ⟨6, [0], []⟩, ⟨7, [], []⟩, ⟨8, [], []⟩, ⟨9, [], []⟩, ⟨10, [], []⟩, ⟨11, [], []⟩] : List Foot)) (And.intro (decide_eq_false h7) (And.intro (F43_ok (m + 1) (w64 (w64 z53 + w64 (Int.tdiv (w64 (w64 (w64 z57 - w64 z53) * z71)) 65536))) (0) (255) z87 h8) True.intro)))))))))))))
      · skip
        obtain ⟨z88, h6, h⟩ := bnd_eq h
        rcases ite_eq h with ⟨h7, h⟩ | ⟨h7, h⟩
        · skip
          obtain ⟨z89, h8, h⟩ := bnd_eq h
          cases h
          exact call_pathL (gs := [.an (i64 z71) [], .a, .a, .a, .ft [⟨0, [], []⟩, ⟨1, [1], []⟩, ⟨2, [1], []⟩, ⟨3, [], []⟩, ⟨4, [], []⟩, ⟨5, [0], []⟩, ⟨6, [0], []⟩, ⟨7, [], []⟩, ⟨8, [], []⟩, ⟨9, [], []⟩, ⟨10, [], []⟩, ⟨11, [], []⟩], .a, .a, .t, .a, .an (i64 z72) [], .a, .a, .a, .a, .ft [⟨0, [], []⟩, ⟨1, [1], []⟩, ⟨2, [1], []⟩, ⟨3, [], []⟩, ⟨4, [], []⟩, ⟨5, [0], []⟩, ⟨6, [0], []⟩, ⟨7, [], []⟩, ⟨8, [], []⟩, ⟨9, [], []⟩, ⟨10, [], []⟩, ⟨11, [], []⟩], .a, .a, .f, .a, .an (i64 z84) [], .a, .a, .a, .a, .ft [⟨0, [], []⟩, ⟨1, [1], []⟩, ⟨2, [1], []⟩, ⟨3, [], []⟩, ⟨4, [], []⟩, ⟨5, [0], []⟩, ⟨6, [0], []⟩, ⟨7, [], []⟩, ⟨8, [], []⟩, ⟨9, [], []⟩, ⟨10, [], []⟩, ⟨11, [], []⟩], .a, .a, .f, .a, .an (i64 z88) [], .a, .a, .a, .a, .ft [⟨0, [], []⟩, ⟨1, [1], []⟩, ⟨2, [1], []⟩, ⟨3, [], []⟩, ⟨4, [], []⟩, ⟨5, [0], []⟩, ⟨6, [0], []⟩, ⟨7, [], []⟩, ⟨8, [], []⟩, ⟨9, [], []⟩, ⟨10, [], []⟩, ⟨11, [], []⟩], .a, .a, .t, .a, .an (i64 z89) [], .a, .a, .a, .a]) (notIn [0]) rfl rfl (by kernel_rfl) (And.intro (F42_ok (m + 0) (z58) z71 h0) (And.intro (Eq.refl ([⟨0, [], []⟩, ⟨1, [1], []⟩, ⟨2, [1], []⟩, ⟨3, [], []⟩, ⟨4, [], []⟩, ⟨5, [0], []⟩, ⟨6, [0], []⟩, ⟨7, [], []⟩, ⟨8, [], []⟩, ⟨9, [], []⟩, ⟨10, [], []⟩, ⟨11, [], []⟩] : List Foot)) (And.intro (decide_eq_true h1) (And.intro (F43_ok (m + 1) (w64 (w64 z50 + w64 (w64 (Int.tdiv (w64 (w64 (w64 z54 - w64 z50) * z71)) 65536) - 1))) (0) (255) z72 h2) (And.intro (Eq.refl ([⟨0, [], []⟩, ⟨1, [1], []⟩, ⟨2, [1], []⟩, ⟨3, [], []⟩, ⟨4, [], []⟩, ⟨5, [0], []⟩, ⟨6, [0], []⟩, ⟨7, [], []⟩, ⟨8, [], []⟩, ⟨9, [], []⟩, ⟨10, [], []⟩, ⟨11, [], []⟩] : List Foot)) (And.intro (decide_eq_false h3) (And.intro (F43_ok (m + 1) (w64 (w64 z51 + w64 (Int.tdiv (w64 (w64 (w64 z55 - w64 z51) * z71)) 65536))) (0) (255) z84 h4) (And.intro (Eq.refl ([⟨0, [], []⟩, ⟨1, [1], []⟩, ⟨2, [1], []⟩, ⟨3, [], []⟩, ⟨4, [], []⟩, ⟨5, [0], []⟩, ⟨6, [0], []⟩, ⟨7, [], []⟩, ⟨8, [], []⟩, ⟨9, [], []⟩, ⟨10, [], []⟩, ⟨11, [], []⟩] : List Foot)) (And.intro (decide_eq_false h5) (And.intro (F43_ok (m + 1) (w64 (w64 z52 + w64 (Int.tdiv (w64 (w64 (w64 z56 - w64 z52) * z71)) 65536))) (0) (255) z88 h6) (And.intro (Eq.refl ([⟨0, [], []⟩, ⟨1, [1], []⟩, ⟨2, [1], []⟩, ⟨3, [], []⟩, ⟨4, [], []⟩, ⟨5, [0], []⟩, ⟨6, [0], []⟩, ⟨7, [], []⟩, ⟨8, [], []⟩, ⟨9, [], []⟩, ⟨10, [], []⟩, ⟨11, [], []⟩] : List Foot)) (And.intro (decide_eq_true h7) (And.intro (F43_ok (m + 1) (w64 (w64 z53 + w64 (w64 (Int.tdiv (w64 (w64 (w64 z57 - w64 z53) * z71)) 65536) - 1))) (0) (255) z89 h8) True.intro)))))))))))))
        · skip
          obtain ⟨z90, h8, h⟩ := bnd_eq h
          cases h
          exact call_pathL (gs := [.an (i64 z71) [], .a, .a, .a, .ft [⟨0, [], []⟩, ⟨1, [1], []⟩, ⟨2, [1], []⟩, ⟨3, [], []⟩, ⟨4, [], []⟩, ⟨5, [0], []⟩, ⟨6, [0], []⟩, ⟨7, [], []⟩, ⟨8, [], []⟩, ⟨9, [], []⟩, ⟨10, [], []⟩, ⟨11, [], []⟩], .a, .a, .t, .a, .an (i64 z72) [], .a, .a, .a, .a, .ft [⟨0, [], []⟩, ⟨1, [1], []⟩, ⟨2, [1], []⟩, ⟨3, [], []⟩, ⟨4, [], []⟩, ⟨5, [0], []⟩, ⟨6, [0], []⟩, ⟨7, [], []⟩, ⟨8, [], []⟩, ⟨9, [], []⟩, ⟨10, [], []⟩, ⟨11, [], []⟩], .a, .a, .f, .a, .an (i64 z84) [], .a, .a, .a, .a, .ft [⟨0, [], []⟩, ⟨1, [1], []⟩, ⟨2, [1], []⟩, ⟨3, [], []⟩, ⟨4, [], []⟩, ⟨5, [0], []⟩, ⟨6, [0], []⟩, ⟨7, [], []⟩, ⟨8, [], []⟩, ⟨9, [], []⟩, ⟨10, [], []⟩, ⟨11, [], []⟩], .a, .a, .f, .a, .an (i64 z88) [], .a, .a, .a, .a, .ft [⟨0, [], []⟩, ⟨1, [1], []⟩, ⟨2, [1], []⟩, ⟨3, [], []⟩, ⟨4, [], []⟩, ⟨5, [0], []⟩, ⟨6, [0], []⟩, ⟨7, [], []⟩, ⟨8, [], []⟩, ⟨9, [], []⟩, ⟨10, [], []⟩, ⟨11, [], []⟩], .a, .a, .f, .a, .an (i64 z90) [], .a, .a, .a, .a]) (notIn [0]) rfl rfl (by kernel_rfl) (And.intro (F42_ok (m + 0) (z58) z71 h0) (And.intro (Eq.refl ([⟨0, [], []⟩, ⟨1, [1], []⟩, ⟨2, [1], []⟩, ⟨3, [], []⟩, ⟨4, [], []⟩, ⟨5, [0], []⟩, ⟨6, [0], []⟩, ⟨7, [], []⟩, ⟨8, [], []⟩, ⟨9, [], []⟩, ⟨10, [], []⟩, ⟨11, [], []⟩] : List Foot)) (And.intro (decide_eq_true h1) (And.intro (F43_ok (m + 1) (w64 (w64 z50 + w64 (w64 (Int.tdiv (w64 (w64 (w64 z54 - w64 z50) * z71)) 65536) - 1))) (0) (255) z72 h2) (And.intro (Eq.refl ([⟨0, [], []⟩, ⟨1, [1], []⟩, ⟨2, [1], []⟩, ⟨3, [], []⟩, ⟨4, [], []⟩, ⟨5, [0], []⟩, ⟨6, [0], []⟩, ⟨7, [], []⟩, ⟨8, [], []⟩, ⟨9, [], []⟩, ⟨10, [], []⟩, ⟨11, [], []⟩] : List Foot)) (And.intro (decide_eq_false h3) (And.intro (F43_ok (m + 1) (w64 (w64 z51 + w64 (Int.tdiv (w64 (w64 (w64 z55 - w64 z51) * z71)) 65536))) (0) (255) z84 h4) (And.intro (Eq.refl ([⟨0, [], []⟩, ⟨1, [1], []⟩, ⟨2, [1], []⟩, ⟨3, [], []⟩, ⟨4, [], []⟩, ⟨5, [0], []⟩, ⟨6, [0], []⟩, ⟨7, [], []⟩, ⟨8, [], []⟩, ⟨9, [], []⟩, ⟨10, [], []⟩, ⟨11, [], []⟩] : List Foot)) (And.intro (decide_eq_false h5) (And.intro (F43_ok (m + 1) (w64 (w64 z52 + w64 (Int.tdiv (w64 (w64 (w64 z56 - w64 z52) * z71)) 65536))) (0) (255) z88 h6) (And.intro (Eq.refl ([⟨0, [], []⟩, ⟨1, [1], []⟩, ⟨2, [1], []⟩, ⟨3, [], []⟩, ⟨4, [], []⟩, ⟨5, [0], []⟩, ⟨6, [0], []⟩, ⟨7, [], []⟩, ⟨8, [], []⟩, ⟨9, [], []⟩, ⟨10, [], []⟩, ⟨11, [], []⟩] : List Foot)) (And.intro (decide_eq_false h7) (And.intro (F43_ok (m + 1) (w64 (w64 z53 + w64 (Int.tdiv (w64 (w64 (w64 z57 - w64 z53) * z71)) 65536))) (0) (255) z90 h8) True.intro)))))))))))))
  · skip
    obtain ⟨z91, h2, h⟩ := bnd_eq h
    rcases ite_eq h with ⟨h3, h⟩ | ⟨h3, h⟩
    · skip
      obtain ⟨z92, h4, h⟩ := bnd_eq h
      rcases ite_eq h with ⟨h5, h⟩ | ⟨h5, h⟩
      · skip
        obtain ⟨z93, h6, h⟩ := bnd_eq h
        rcases ite_eq h with ⟨h7, h⟩ | ⟨h7, h⟩
        · skip
          obtain ⟨z94, h8, h⟩ := bnd_eq h
          cases h
          exact call_pathL (gs := [.an (i64 z71) [], .a, .a, .a, .ft [⟨0, [], []⟩, ⟨1, [1], []⟩, ⟨2, [1], []⟩, ⟨3, [], []⟩, ⟨4, [], []⟩, ⟨5, [0], []⟩, ⟨6, [0], []⟩, ⟨7, [], []⟩, ⟨8, [], []⟩, ⟨9, [], []⟩, ⟨10, [], []⟩, ⟨11, [], []⟩], .a, .a, .f, .a, .an (i64 z91) [], .a, .a, .a, .a, .ft [⟨0, [], []⟩, ⟨1, [1], []⟩, ⟨2, [1], []⟩, ⟨3, [], []⟩, ⟨4, [], []⟩, ⟨5, [0], []⟩, ⟨6, [0], []⟩, ⟨7, [], []⟩, ⟨8, [], []⟩, ⟨9, [], []⟩, ⟨10, [], []⟩, ⟨11, [], []⟩], .a, .a, .t, .a, .an (i64 z92) [], .a, .a, .a, .a, .ft [⟨0, [], []⟩, ⟨1, [1], []⟩, ⟨2, [1], []⟩, ⟨3, [], []⟩, ⟨4, [], []⟩, ⟨5, [0], []⟩, ⟨6, [0], []⟩, ⟨7, [], []⟩, ⟨8, [], []⟩, ⟨9, [], []⟩, ⟨10, [], []⟩, ⟨11, [], []⟩], .a, .a, .t, .a, .an (i64 z93) [], .a, .a, .a, .a, .ft [⟨0, [], []⟩, ⟨1, [1], []⟩, ⟨2, [1], []⟩, ⟨3, [], []⟩, ⟨4, [], []⟩, ⟨5, [0], []⟩, ⟨6, [0], []⟩, ⟨7, [], []⟩, ⟨8, [], []⟩, ⟨9, [], []⟩, ⟨10, [], []⟩, ⟨11, [], []⟩], .a, .a, .t, .a, .an (i64 z94) [], .a, .a, .a, .a]) (notIn [0]) rfl rfl (by kernel_rfl) (And.intro (F42_ok (m + 0) (z58) z71 h0) (And.intro (Eq.refl ([⟨0, [], []⟩, ⟨1, [1], []⟩, ⟨2, [1], []⟩, ⟨3, [], []⟩, ⟨4, [], []⟩, ⟨5, [0], []⟩, ⟨6, [0], []⟩, ⟨7, [], []⟩, ⟨8, [], []⟩, ⟨9, [], []⟩, ⟨10, [], []⟩, ⟨11, [], []⟩] : List Foot)) (And.intro (decide_eq_false h1) (And.intro (F43_ok (m + 1) (w64 (w64 z50 + w64 (Int.tdiv (w64 (w64 (w64 z54 - w64 z50) * z71)) 65536))) (0) (255) z91 h2) (And.intro (Eq.refl ([⟨0, [], []⟩, ⟨1, [1], []⟩, ⟨2, [1], []⟩, ⟨3, [], []⟩, ⟨4, [], []⟩, ⟨5, [0], []⟩, ⟨6, [0], []⟩, ⟨7, [], []⟩, ⟨8, [], []⟩, ⟨9, [], []⟩, ⟨10, [], []⟩, ⟨11, [], []⟩] : List Foot)) (And.intro (decide_eq_true h3) (And.intro (F43_ok (m + 1) (w64 (w64 z51 + w64 (w64 (Int.tdiv (w64 (w64 (w64 z55 - w64 z51) * z71)) 65536) - 1))) (0) (255) z92 h4) (And.intro (Eq.refl ([⟨0, [], []⟩, ⟨1, [1], []⟩, ⟨2, [1], []⟩, ⟨3, [], []⟩, ⟨4, [], []⟩, ⟨5, [0], []⟩, ⟨6, [0], []⟩, ⟨7, [], []⟩, ⟨8, [], []⟩, ⟨9, [], []⟩, ⟨10, [], []⟩, ⟨11, [], []⟩] : List Foot)) (And.intro (decide_eq_true h5) (And.intro (F43_ok (m + 1) (w64 (w64 z52 + w64 (w64 (Int.tdiv (w64 (w64 (w64 z56 - w64 z52) * z71)) 65536) - 1))) (0) (255) z93 h6) (And.intro (Eq.refl ([⟨0, [], []⟩, ⟨1, [1], []⟩, ⟨2, [1], []⟩, ⟨3, [], []⟩, ⟨4, [], []⟩, ⟨5, [0], []⟩, ⟨6, [0], []⟩, ⟨7, [], []⟩, ⟨8, [], []⟩, ⟨9, [], []⟩, ⟨10, [], []⟩, ⟨11, [], []⟩] : List Foot)) (And.intro (decide_eq_true h7) (And.intro (F43_ok (m + 1) (w64 (w64 z53 + w64 (w64 (Int.tdiv (w64 (w64 (w64 z57 - w64 z53) * z71)) 65536) - 1))) (0) (255) z94 h8) True.intro)))))))))))))
        · skip
          obtain ⟨z95, h8, h⟩ := bnd_eq h
          cases h
          exact call_pathL (gs := [.an (i64 z71) [], .a, .a, .a, .ft [⟨0, [], []⟩, ⟨1, [1], []⟩, ⟨2, [1], []⟩, ⟨3, [], []⟩, ⟨4, [], []⟩, ⟨5, [0], []⟩, ⟨6, [0], []⟩, ⟨7, [], []⟩, ⟨8, [], []⟩, ⟨9, [], []⟩, ⟨10, [], []⟩, ⟨11, [], []⟩], .a, .a, .f, .a, .an (i64 z91) [], .a, .a, .a, .a, .ft [⟨0, [], []⟩, ⟨1, [1], []⟩, ⟨2, [1], []⟩, ⟨3, [], []⟩, ⟨4, [], []⟩, ⟨5, [0], []⟩, ⟨6, [0], []⟩, ⟨7, [], []⟩, ⟨8, [], []⟩, ⟨9, [], []⟩, ⟨10, [], []⟩, ⟨11, [], []⟩], .a, .a, .t, .a, .an (i64 z92) [], .a, .a, .a, .a, .ft [⟨0, [], []⟩, ⟨1, [1], []⟩, ⟨2, [1], []⟩, ⟨3, [], []⟩, ⟨4, [], []⟩, ⟨5, [0], []⟩, ⟨6, [0], []⟩, ⟨7, [], []⟩, ⟨8, [], []⟩, ⟨9, [], []⟩, ⟨10, [], []⟩, ⟨11, [], []⟩], .a, .a, .t, .a, .an (i64 z93) [], .a, .a, .a, .a, .ft [⟨0, [], []⟩, ⟨1, [1], []⟩, ⟨2, [1], []⟩, ⟨3, [], []⟩, ⟨4, [], []⟩, ⟨5, [0], []⟩, ⟨6, [0], []⟩, ⟨7, [], []⟩, ⟨8, [], []⟩, ⟨9, [], []⟩, ⟨10, [], []⟩, ⟨11, [], []⟩], .a, .a, .f, .a, .an (i64 z95) [], .a, .a, .a, .a]) (notIn [0]) rfl rfl (by kernel_rfl) (And.intro (F42_ok (m + 0) (z58) z71 h0) (And.intro (Eq.refl ([⟨0, [], []⟩, ⟨1, [1], []⟩, ⟨2, [1], []⟩, ⟨3, [], []⟩, ⟨4, [], []⟩, ⟨5, [0], []⟩, ⟨6, [0], []⟩, ⟨7, [], []⟩, ⟨8, [], []⟩, ⟨9, [], []⟩, ⟨10, [], []⟩, ⟨11, [], []⟩] : List Foot)) (And.intro (decide_eq_false h1) (And.intro (F43_ok (m + 1) (w64 (w64 z50 + w64 (Int.tdiv (w64 (w64 (w64 z54 - w64 z50) * z71)) 65536))) (0) (255) z91 h2) (And.intro (Eq.refl ([⟨0, [], []⟩, ⟨1, [1], []⟩, ⟨2, [1], []⟩, ⟨3, [], []⟩, ⟨4, [], []⟩, ⟨5, [0], []⟩, ⟨6, [0], []⟩, ⟨7, [], []⟩, ⟨8, [], []⟩, ⟨9, [], []⟩, ⟨10, [], []⟩, ⟨11, [], []⟩] : List Foot)) (And.intro (decide_eq_true h3) (And.intro (F43_ok (m + 1) (w64 (w64 z51 + w64 (w64 (Int.tdiv (w64 (w64 (w64 z55 - w64 z51) * z71)) 65536) - 1))) (0) (255) z92 h4) (And.intro (Eq.refl ([⟨0, [], []⟩, ⟨1, [1], []⟩, ⟨2, [1], []⟩, ⟨3, [], []⟩, ⟨4, [], []⟩, ⟨5, [0], []⟩, ⟨6, [0], []⟩, ⟨7, [], []⟩, ⟨8, [], []⟩, ⟨9, [], []⟩, ⟨10, [], []⟩, ⟨11, [], []⟩] : List Foot)) (And.intro (decide_eq_true h5) (And.intro (F43_ok (m + 1) (w64 (w64 z52 + w64 (w64 (Int.tdiv (w64 (w64 (w64 z56 - w64 z52) * z71)) 65536) - 1))) (0) (255) z93 h6) (And.intro (Eq.refl ([⟨0, [], []⟩, ⟨1, [1], []⟩, ⟨2, [1], []⟩, ⟨3, [], []⟩, ⟨4, [], []⟩, ⟨5, [0], []⟩, ⟨6, [0], []⟩, ⟨7, [], []⟩, ⟨8, [], []⟩, ⟨9, [], []⟩, ⟨10, [], []⟩, ⟨11, [], []⟩] : List Foot)) (And.intro (decide_eq_false h7) (And.intro (F43_ok (m + 1) (w64 (w64 z53 + w64 (Int.tdiv (w64 (w64 (w64 z57 - w64 z53) * z71)) 65536))) (0) (255) z95 h8) True.intro)))))))))))))
      · skip
        obtain ⟨z96, h6, h⟩ := bnd_eq h
        rcases ite_eq h with ⟨h7, h⟩ | ⟨h7, h⟩
        · skip
          obtain ⟨z97, h8, h⟩ := bnd_eq h
          cases h
          exact call_pathL (gs := [.an (i64 z71) [], .a, .a, .a, .ft [⟨0, [], []⟩, ⟨1, [1], []⟩, ⟨2, [1], []⟩, ⟨3, [], []⟩, ⟨4, [], []⟩, ⟨5, [0], []⟩, ⟨6, [0], []⟩, ⟨7, [], []⟩, ⟨8, [], []⟩, ⟨9, [], []⟩, ⟨10, [], []⟩, ⟨11, [], []⟩], .a, .a, .f, .a, .an (i64 z91) [], .a, .a, .a, .a, .ft [⟨0, [], []⟩, ⟨1, [1], []⟩, ⟨2, [1], []⟩, ⟨3, [], []⟩, ⟨4, [], []⟩, ⟨5, [0], []⟩, ⟨6, [0], []⟩, ⟨7, [], []⟩, ⟨8, [], []⟩, ⟨9, [], []⟩, ⟨10, [], []⟩, ⟨11, [], []⟩], .a, .a, .t, .a, .an (i64 z92) [], .a, .a, .a, .a, .ft [⟨0, [], []⟩, ⟨1, [1], []⟩, ⟨2, [1], []⟩, ⟨3, [], []⟩, ⟨4, [], []⟩, ⟨5, [0], []⟩, ⟨6, [0], []⟩, ⟨7, [], []⟩, ⟨8, [], []⟩, ⟨9, [], []⟩, ⟨10, [], []⟩, ⟨11, [], []⟩], .a, .a, .f, .a, .an (i64 z96) [], .a, .a, .a, .a, .ft [⟨0, [], []⟩, ⟨1, [1], []⟩, ⟨2, [1], []⟩, ⟨3, [], []⟩, ⟨4, [], []⟩, ⟨5, [0], []⟩, ⟨6, [0], []⟩, ⟨7, [], []⟩, ⟨8, [], []⟩, ⟨9, [], []⟩, ⟨10, [], []⟩, ⟨11, [], []⟩], .a, .a, .t, .a, .an (i64 z97) [], .a, .a, .a, .a]) (notIn [0]) rfl rfl (by kernel_rfl) (And.intro (F42_ok (m + 0) (z58) z71 h0) (And.intro (Eq.refl ([⟨0, [], []⟩, ⟨1, [1], []⟩, ⟨2, [1], []⟩, ⟨3, [], []⟩, ⟨4, [], []⟩, ⟨5, [0], []⟩, ⟨6, [0], []⟩, ⟨7, [], []⟩, ⟨8, [], []⟩, ⟨9, [], []⟩, ⟨10, [], []⟩, ⟨11, [], []⟩] : List Foot)) (And.intro (decide_eq_false h1) (And.intro (F43_ok (m + 1) (w64 (w64 z50 + w64 (Int.tdiv (w64 (w64 (w64 z54 - w64 z50) * z71)) 65536))) (0) (255) z91 h2) (And.intro (Eq.refl ([⟨0, [], []⟩, ⟨1, [1], []⟩, ⟨2, [1], []⟩, ⟨3, [], []⟩, ⟨4, [], []⟩, ⟨5, [0], []⟩, ⟨6, [0], []⟩, ⟨7, [], []⟩, ⟨8, [], []⟩, ⟨9, [], []⟩, ⟨10, [], []⟩, ⟨11, [], []⟩] : List Foot)) (And.intro (decide_eq_true h3) (And.intro (F43_ok (m + 1) (w64 (w64 z51 + w64 (w64 (Int.tdiv (w64 (w64 (w64 z55 - w64 z51) * z71)) 65536) - 1))) (0) (255) z92 h4) (And.intro (Eq.refl ([⟨0, [], []⟩, ⟨1, [1], []⟩, ⟨2, [1], []⟩, ⟨3, [], []⟩, ⟨4, [], []⟩, ⟨5, [0], []⟩, ⟨6, [0], []⟩, ⟨7, [], []⟩, ⟨8, [], []⟩, ⟨9, [], []⟩, ⟨10, [], []⟩, ⟨11, [], []⟩] : List Foot)) (And.intro (decide_eq_false h5) (And.intro (F43_ok (m + 1) (w64 (w64 z52 + w64 (Int.tdiv (w64 (w64 (w64 z56 - w64 z52) * z71)) 65536))) (0) (255) z96 h6) (And.intro (Eq.refl ([⟨0, [], []⟩, ⟨1, [1], []⟩, ⟨2, [1], []⟩, ⟨3, [], []⟩, ⟨4, [], []⟩, ⟨5, [0], []⟩, ⟨6, [0], []⟩, ⟨7, [], []⟩, ⟨8, [], []⟩, ⟨9, [], []⟩, ⟨10, [], []⟩, ⟨11, [], []⟩] : List Foot)) (And.intro (decide_eq_true h7) (And.intro (F43_ok (m + 1) (w64 (w64 z53 + w64 (w64 (Int.tdiv (w64 (w64 (w64 z57 - w64 z53) * z71)) 65536) - 1))) (0) (255) z97 h8) True.intro)))))))))))))
        · skip
          obtain ⟨z98, h8, h⟩ := bnd_eq h
          cases h
          exact call_pathL (gs := [.an (i64 z71) [], .a, .a, .a, .ft [⟨0, [], []⟩, ⟨1, [1], []⟩, ⟨2, [1], []⟩, ⟨3, [], []⟩, ⟨4, [], []⟩, ⟨5, [0], []⟩, ⟨6, [0], []⟩, ⟨7, [], []⟩, ⟨8, [], []⟩, ⟨9, [], []⟩, ⟨10, [], []⟩, ⟨11, [], []⟩], .a, .a, .f, .a, .an (i64 z91) [], .a, .a, .a, .a, .ft [⟨0, [], []⟩, ⟨1, [1], []⟩, ⟨2, [1], []⟩, ⟨3, [], []⟩, ⟨4, [], []⟩, ⟨5, [0], []⟩, ⟨6, [0], []⟩, ⟨7, [], []⟩, ⟨8, [], []⟩, ⟨9, [], []⟩, ⟨10, [], []⟩, ⟨11, [], []⟩], .a, .a, .t, .a, .an (i64 z92) [], .a, .a, .a, .a, .ft [⟨0, [], []⟩, ⟨1, [1], []⟩, ⟨2, [1], []⟩, ⟨3, [], []⟩, ⟨4, [], []⟩, ⟨5, [0], []⟩, ⟨6, [0], []⟩, ⟨7, [], []⟩, ⟨8, [], []⟩, ⟨9, [], []⟩, ⟨10, [], []⟩, ⟨11, [], []⟩], .a, .a, .f, .a, .an (i64 z96) [], .a, .a, .a, .a, .ft [⟨0, [], []⟩, ⟨1, [1], []⟩, ⟨2, [1], []⟩, ⟨3, [], []⟩, ⟨4, [], []⟩, ⟨5, [0], []⟩, ⟨6, [0], []⟩, ⟨7, [], []⟩, ⟨8, [], []⟩, ⟨9, [], []⟩, ⟨10, [], []⟩, ⟨11, [], []⟩], .a, .a, .f, .a, .an (i64 z98) [], .a, .a, .a, .a]) (notIn [0]) rfl rfl (by kernel_rfl) (And.intro (F42_ok (m + 0) (z58) z71 h0) (And.intro (Eq.refl ([⟨0, [], []⟩, ⟨1, [1], []⟩, ⟨2, [1], []⟩, ⟨3, [], []⟩, ⟨4, [], []⟩, ⟨5, [0], []⟩, ⟨6, [0], []⟩, ⟨7, [], []⟩, ⟨8, [], []⟩, ⟨9, [], []⟩, ⟨10, [], []⟩, ⟨11, [], []⟩] : List Foot)) (And.intro (decide_eq_false h1) (And.intro (F43_ok (m + 1) (w64 (w64 z50 + w64 (Int.tdiv (w64 (w64 (w64 z54 - w64 z50) * z71)) 65536))) (0) (255) z91 h2) (And.intro (Eq.refl ([⟨0, [], []⟩, ⟨1, [1], []⟩, ⟨2, [1], []⟩, ⟨3, [], []⟩, ⟨4, [], []⟩, ⟨5, [0], []⟩, ⟨6, [0], []⟩, ⟨7, [], []⟩, ⟨8, [], []⟩, ⟨9, [], []⟩, ⟨10, [], []⟩, ⟨11, [], []⟩] : List Foot)) (And.intro (decide_eq_true h3) (And.intro (F43_ok (m + 1) (w64 (w64 z51 + w64 (w64 (Int.tdiv (w64 (w64 (w64 z55 - w64 z51) * z71)) 65536) - 1))) (0) (255) z92 h4) (And.intro (Eq.refl ([⟨0, [], []⟩, ⟨1, [1], []⟩, ⟨2, [1], []⟩, ⟨3, [], []⟩, ⟨4, [], []⟩, ⟨5, [0], []⟩, ⟨6, [0], []⟩, ⟨7, [], []⟩, ⟨8, [], []⟩, ⟨9, [], []⟩, ⟨10, [], []⟩, ⟨11, [], []⟩] : List Foot)) (And.intro (decide_eq_false h5) (And.intro (F43_ok (m + 1) (w64 (w64 z52 + w64 (Int.tdiv (w64 (w64 (w64 z56 - w64 z52) * z71)) 65536))) (0) (255) z96 h6) (And.intro (Eq.refl ([⟨0, [], []⟩, ⟨1, [1], []⟩, ⟨2, [1], []⟩, ⟨3, [], []⟩, ⟨4, [], []⟩, ⟨5, [0], []⟩, ⟨6, [0], []⟩, ⟨7, [], []⟩, ⟨8, [], []⟩, ⟨9, [], []⟩, ⟨10, [], []⟩, ⟨11, [], []⟩] : List Foot)) (And.intro (decide_eq_false h7) (And.intro (F43_ok (m + 1) (w64 (w64 z53 + w64 (Int.tdiv (w64 (w64 (w64 z57 - w64 z53) * z71)) 65536))) (0) (255) z98 h8) True.intro)))))))))))))
    · skip
      obtain ⟨z99, h4, h⟩ := bnd_eq h
      rcases ite_eq h with ⟨h5, h⟩ | ⟨h5, h⟩
      · skip
        obtain ⟨z100, h6, h⟩ := bnd_eq h
        rcases ite_eq h with ⟨h7, h⟩ | ⟨h7, h⟩
        · skip
          obtain ⟨z101, h8, h⟩ := bnd_eq h
          cases h
          exact call_pathL (gs := [.an (i64 z71) [], .a, .a, .a, .ft [⟨0, [], []⟩, ⟨1, [1], []⟩, ⟨2, [1], []⟩, ⟨3, [], []⟩, ⟨4, [], []⟩, ⟨5, [0], []⟩, ⟨6, [0], []⟩, ⟨7, [], []⟩, ⟨8, [], []⟩, ⟨9, [], []⟩, ⟨10, [], []⟩, ⟨11, [], []⟩], .a, .a, .f, .a, .an (i64 z91) [], .a, .a, .a, .a, .ft [⟨0, [], []⟩, ⟨1, [1], []⟩, ⟨2, [1], []⟩, ⟨3, [], []⟩, ⟨4, [], []⟩, ⟨5, [0], []⟩, ⟨6, [0], []⟩, ⟨7, [], []⟩, ⟨8, [], []⟩, ⟨9, [], []⟩, ⟨10, [], []⟩, ⟨11, [], []⟩], .a, .a, .f, .a, .an (i64 z99) [], .a, .a, .a, .a, .ft [⟨0, [], []⟩, ⟨1, [1], []⟩, ⟨2, [1], []⟩, ⟨3, [], []⟩, ⟨4, [], []⟩, ⟨5, [0], []⟩, ⟨6, [0], []⟩, ⟨7, [], []⟩, ⟨8, [], []⟩, ⟨9, [], []⟩, ⟨10, [], []⟩, ⟨11, [], []⟩], .a, .a, .t, .a, .an (i64 z100) [], .a, .a, .a, .a, .ft [⟨0, [], []⟩, ⟨1, [1], []⟩, ⟨2, [1], []⟩, ⟨3, [], []⟩, ⟨4, [], []⟩, ⟨5, [0], []⟩, ⟨6, [0], []⟩, ⟨7, [], []⟩, ⟨8, [], []⟩, ⟨9, [], []⟩, ⟨10, [], []⟩, ⟨11, [], []⟩], .a, .a, .t, .a, .an (i64 z101) [], .a, .a, .a, .a]) (notIn [0]) rfl rfl (by kernel_rfl) (And.intro (F42_ok (m + 0) (z58) z71 h0) (And.intro (Eq.refl ([⟨0, [], []⟩, ⟨1, [1], []⟩, ⟨2, [1], []⟩, ⟨3, [], []⟩, ⟨4, [], []⟩, ⟨5, [0], []⟩, ⟨6, [0], []⟩, ⟨7, [], []⟩, ⟨8, [], []⟩, ⟨9, [], []⟩, ⟨10, [], []⟩, ⟨11, [], []⟩] : List Foot)) (And.intro (decide_eq_false h1) (And.intro (F43_ok (m + 1) (w64 (w64 z50 + w64 (Int.tdiv (w64 (w64 (w64 z54 - w64 z50) * z71)) 65536))) (0) (255) z91 h2) (And.intro (Eq.refl ([⟨0, [], []⟩, ⟨1, [1], []⟩, ⟨2, [1], []⟩, ⟨3, [], []⟩, ⟨4, [], []⟩, ⟨5, [0], []⟩, ⟨6, [0], []⟩, ⟨7, [], []⟩, ⟨8, [], []⟩, ⟨9, [], []⟩, ⟨10, [], []⟩, ⟨11, [], []⟩] : List Foot)) (And.intro (decide_eq_false h3) (And.intro (F43_ok (m + 1) (w64 (w64 z51 + w64 (Int.tdiv (w64 (w64 (w64 z55 - w64 z51) * z71)) 65536))) (0) (255) z99 h4) (And.intro (Eq.refl ([⟨0, [], []⟩, ⟨1, [1], []⟩, ⟨2, [1], []⟩, ⟨3, [], []⟩, ⟨4, [], []⟩, ⟨5, [0], []⟩, ⟨6, [0], []⟩, ⟨7, [], []⟩, ⟨8, [], []⟩, ⟨9, [], []⟩, ⟨10, [], []⟩, ⟨11, [], []⟩] : List Foot)) (And.intro (decide_eq_true h5) (And.intro (F43_ok (m + 1) (w64 (w64 z52 + w64 (w64 (Int.tdiv (w64 (w64 (w64 z56 - w64 z52) * z71)) 65536) - 1))) (0) (255) z100 h6) (And.intro (Eq.refl ([⟨0, [], []⟩, ⟨1, [1], []⟩, ⟨2, [1], []⟩, ⟨3, [], []⟩, ⟨4, [], []⟩, ⟨5, [0], []⟩, ⟨6, [0], []⟩, ⟨7, [], []⟩, ⟨8, [], []⟩, ⟨9, [], []⟩, ⟨10, [], []⟩, ⟨11, [], []⟩] : List Foot)) (And.intro (decide_eq_true h7) (And.intro (F43_ok (m + 1) (w64 (w64 z53 + w64 (w64 (Int.tdiv (w64 (w64 (w64 z57 - w64 z53) * z71)) 65536) - 1))) (0) (255) z101 h8) True.intro)))))))))))))
        · skip
          obtain ⟨z102, h8, h⟩ := bnd_eq h
          cases h
          exact call_pathL (gs := [.an (i64 z71) [], .a, .a, .a, .ft [⟨0, [], []⟩, ⟨1, [1], []⟩, ⟨2, [1], []⟩, ⟨3, [], []⟩, ⟨4, [], []⟩, ⟨5, [0], []⟩, ⟨6, [0], []⟩, ⟨7, [], []⟩, ⟨8, [], []⟩, ⟨9, [], []⟩, ⟨10, [], []⟩, ⟨11, [], []⟩], .a, .a, .f, .a, .an (i64 z91) [], .a, .a, .a, .a, .ft [⟨0, [], []⟩, ⟨1, [1], []⟩, ⟨2, [1], []⟩, ⟨3, [], []⟩, ⟨4, [], []⟩, ⟨5, [0], []⟩, ⟨6, [0], []⟩, ⟨7, [], []⟩, ⟨8, [], []⟩, ⟨9, [], []⟩, ⟨10, [], []⟩, ⟨11, [], []⟩], .a, .a, .f, .a, .an (i64 z99) [], .a, .a, .a, .a, .ft [⟨0, [], []⟩, ⟨1, [1], []⟩, ⟨2, [1], []⟩, ⟨3, [], []⟩, ⟨4, [], []⟩, ⟨5, [0], []⟩, ⟨6, [0], []⟩, ⟨7, [], []⟩, ⟨8, [], []⟩, ⟨9, [], []⟩, ⟨10, [], []⟩, ⟨11, [], []⟩], .a, .a, .t, .a, .an (i64 z100) [], .a, .a, .a, .a, .ft [⟨0, [], []⟩, ⟨1, [1], []⟩, ⟨2, [1], []⟩, ⟨3, [], []⟩, ⟨4, [], []⟩, ⟨5, [0], []⟩, ⟨6, [0], []⟩, ⟨7, [], []⟩, ⟨8, [], []⟩, ⟨9, [], []⟩, ⟨10, [], []⟩, ⟨11, [], []⟩], .a, .a, .f, .a, .an (i64 z102) [], .a, .a, .a, .a]) (notIn [0]) rfl rfl (by kernel_rfl) (And.intro (F42_ok (m + 0) (z58) z71 h0) (And.intro (Eq.refl ([⟨0, [], []⟩, ⟨1, [1], []⟩, ⟨2, [1], []⟩, ⟨3, [], []⟩, ⟨4, [], []⟩, ⟨5, [0], []⟩, ⟨6, [0], []⟩, ⟨7, [], []⟩, ⟨8, [], []⟩, ⟨9, [], []⟩, ⟨10, [], []⟩, ⟨11, [], []⟩] : List Foot)) (And.intro (decide_eq_false h1) (And.intro (F43_ok (m + 1) (w64 (w64 z50 + w64 (Int.tdiv (w64 (w64 (w64 z54 - w64 z50) * z71)) 65536))) (0) (255) z91 h2) (And.intro (Eq.refl ([⟨0, [], []⟩, ⟨1, [1], []⟩, ⟨2, [1], []⟩, ⟨3, [], []⟩, ⟨4, [], []⟩, ⟨5, [0], []⟩, ⟨6, [0], []⟩, ⟨7, [], []⟩, ⟨8, [], []⟩, ⟨9, [], []⟩, ⟨10, [], []⟩, ⟨11, [], []⟩] : List Foot)) (And.intro (decide_eq_false h3) (And.intro (F43_ok (m + 1) (w64 (w64 z51 + w64 (Int.tdiv (w64 (w64 (w64 z55 - w64 z51) * z71)) 65536))) (0) (255) z99 h4) (And.intro (Eq.refl ([⟨0, [], []⟩, ⟨1, [1], []⟩, ⟨2, [1], []⟩, ⟨3, [], []⟩, ⟨4, [], []⟩, ⟨5, [0], []⟩, ⟨6, [0], []⟩, ⟨7, [], []⟩, ⟨8, [], []⟩, ⟨9, [], []⟩, ⟨10, [], []⟩, ⟨11, [], []⟩] : List Foot)) (And.intro (decide_eq_true h5) (And.intro (F43_ok (m + 1) (w64 (w64 z52 + w64 (w64 (Int.tdiv (w64 (w64 (w64 z56 - w64 z52) * z71)) 65536) - 1))) (0) (255) z100 h6) (And.intro (Eq.refl ([⟨0, [], []⟩, ⟨1, [1], []⟩, ⟨2, [1], []⟩, ⟨3, [], []⟩, ⟨4, [], []⟩, ⟨5, [0], []⟩, ⟨6, [0], []⟩, ⟨7, [], []⟩, ⟨8, [], []⟩, ⟨9, [], []⟩, ⟨10, [], []⟩, ⟨11, [], []⟩] : List Foot)) (And.intro (decide_eq_false h7) (And.intro (F43_ok (m + 1) (w64 (w64 z53 + w64 (Int.tdiv (w64 (w64 (w64 z57 - w64 z53) * z71)) 65536))) (0) (255) z102 h8) True.intro)))))))))))))
      · skip
        obtain ⟨z103, h6, h⟩ := bnd_eq h
        rcases ite_eq h with ⟨h7, h⟩ | ⟨h7, h⟩
        · skip
          obtain ⟨z104, h8, h⟩ := bnd_eq h
          cases h
          exact call_pathL (gs := [.an (i64 z71) [], .a, .a, .a, .ft [⟨0, [], []⟩, ⟨1, [1], []⟩, ⟨2, [1], []⟩, ⟨3, [], []⟩, ⟨4, [], []⟩, ⟨5, [0], []⟩, ⟨6, [0], []⟩, ⟨7, [], []⟩, ⟨8, [], []⟩, ⟨9, [], []⟩, ⟨10, [], []⟩, ⟨11, [], []⟩], .a, .a, .f, .a, .an (i64 z91) [], .a, .a, .a, .a, .ft [⟨0, [], []⟩, ⟨1, [1], []⟩, ⟨2, [1], []⟩, ⟨3, [], []⟩, ⟨4, [], []⟩, ⟨5, [0], []⟩, ⟨6, [0], []⟩, ⟨7, [], []⟩, ⟨8, [], []⟩, ⟨9, [], []⟩, ⟨10, [], []⟩, ⟨11, [], []⟩], .a, .a, .f, .a, .an (i64 z99) [], .a, .a, .a, .a, .ft [⟨0, [], []⟩, ⟨1, [1], []⟩, ⟨2, [1], []⟩, ⟨3, [], []⟩, ⟨4, [], []⟩, ⟨5, [0], []⟩, ⟨6, [0], []⟩, ⟨7, [], []⟩, ⟨8, [], []⟩, ⟨9, [], []⟩, ⟨10, [], []⟩, ⟨11, [], []⟩], .a, .a, .f, .a, .an (i64 z103) [], .a, .a, .a, .a, .ft [⟨0, [], []⟩, ⟨1, [1], []⟩, ⟨2, [1], []⟩, ⟨3, [], []⟩, ⟨4, [], []⟩, ⟨5, [0], []⟩, ⟨6, [0], []⟩, ⟨7, [], []⟩, ⟨8, [], []⟩, ⟨9, [], []⟩, ⟨10, [], []⟩, ⟨11, [], []⟩], .a, .a, .t, .a, .an (i64 z104) [], .a, .a, .a, .a]) (notIn [0]) rfl rfl (by kernel_rfl) (And.intro (F42_ok (m + 0) (z58) z71 h0) (And.intro (Eq.refl ([⟨0, [], []⟩, ⟨1, [1], []⟩, ⟨2, [1], []⟩, ⟨3, [], []⟩, ⟨4, [], []⟩, ⟨5, [0], []⟩, ⟨6, [0], []⟩, ⟨7, [], []⟩, ⟨8, [], []⟩, ⟨9, [], []⟩, ⟨10, [], []⟩, ⟨11, [], []⟩] : List Foot)) (And.intro (decide_eq_false h1) (And.intro (F43_ok (m + 1) (w64 (w64 z50 + w64 (Int.tdiv (w64 (w64 (w64 z54 - w64 z50) * z71)) 65536))) (0) (255) z91 h2) (And.intro (Eq.refl ([⟨0, [], []⟩, ⟨1, [1], []⟩, ⟨2, [1], []⟩, ⟨3, [], []⟩, ⟨4, [], []⟩, ⟨5, [0], []⟩, ⟨6, [0], []⟩, ⟨7, [], []⟩, ⟨8, [], []⟩, ⟨9, [], []⟩, ⟨10, [], []⟩, ⟨11, [], []⟩] : List Foot)) (And.intro (decide_eq_false h3) (And.intro (F43_ok (m + 1) (w64 (w64 z51 + w64 (Int.tdiv (w64 (w64 (w64 z55 - w64 z51) * z71)) 65536))) (0) (255) z99 h4) (And.intro (Eq.refl ([⟨0, [], []⟩, ⟨1, [1], []⟩, ⟨2, [1], []⟩, ⟨3, [], []⟩, ⟨4, [], []⟩, ⟨5, [0], []⟩, ⟨6, [0], []⟩, ⟨7, [], []⟩, ⟨8, [], []⟩, ⟨9, [], []⟩, ⟨10, [], []⟩, ⟨11, [], []⟩] : List Foot)) (And.intro (decide_eq_false h5) (And.intro (F43_ok (m + 1) (w64 (w64 z52 + w64 (Int.tdiv (w64 (w64 (w64 z56 - w64 z52) * z71)) 65536))) (0) (255) z103 h6) (And.intro (Eq.refl ([⟨0, [], []⟩, ⟨1, [1], []⟩, ⟨2, [1], []⟩, ⟨3, [], []⟩, ⟨4, [], []⟩, ⟨5, [0], []⟩, ⟨6, [0], []⟩, ⟨7, [], []⟩, ⟨8, [], []⟩, ⟨9, [], []⟩, ⟨10, [], []⟩, ⟨11, [], []⟩] : List Foot)) (And.intro (decide_eq_true h7) (And.intro (F43_ok (m + 1) (w64 (w64 z53 + w64 (w64 (Int.tdiv (w64 (w64 (w64 z57 - w64 z53) * z71)) 65536) - 1))) (0) (255) z104 h8) True.intro)))))))))))))
        · skip
          obtain ⟨z105, h8, h⟩ := bnd_eq h
          cases h
          exact call_pathL (gs := [.an (i64 z71) [], .a, .a, .a, .ft [⟨0, [], []⟩, ⟨1, [1], []⟩, ⟨2, [1], []⟩, ⟨3, [], []⟩, ⟨4, [], []⟩, ⟨5, [0], []⟩, ⟨6, [0], []⟩, ⟨7, [], []⟩, ⟨8, [], []⟩, ⟨9, [], []⟩, ⟨10, [], []⟩, ⟨11, [], []⟩], .a, .a, .f, .a, .an (i64 z91) [], .a, .a, .a, .a, .ft [⟨0, [], []⟩, ⟨1, [1], []⟩, ⟨2, [1], []⟩, ⟨3, [], []⟩, ⟨4, [], []⟩, ⟨5, [0], []⟩, ⟨6, [0], []⟩, ⟨7, [], []⟩, ⟨8, [], []⟩, ⟨9, [], []⟩, ⟨10, [], []⟩, ⟨11, [], []⟩], .a, .a, .f, .a, .an (i64 z99) [], .a, .a, .a, .a, .ft [⟨0, [], []⟩, ⟨1, [1], []⟩, ⟨2, [1], []⟩, ⟨3, [], []⟩, ⟨4, [], []⟩, ⟨5, [0], []⟩, ⟨6, [0], []⟩, ⟨7, [], []⟩, ⟨8, [], []⟩, ⟨9, [], []⟩, ⟨10, [], []⟩, ⟨11, [], []⟩], .a, .a, .f, .a, .an (i64 z103) [], .a, .a, .a, .a, .ft [⟨0, [], []⟩, ⟨1, [1], []⟩, ⟨2, [1], []⟩, ⟨3, [], []⟩, ⟨4, [], []⟩, ⟨5, [0], []⟩, ⟨6, [0], []⟩, ⟨7, [], []⟩, ⟨8, [], []⟩, ⟨9, [], []⟩, ⟨10, [], []⟩, ⟨11, [], []⟩], .a, .a, .f, .a, .an (i64 z105) [], .a, .a, .a, .a]) (notIn [0]) rfl rfl (by kernel_rfl) (And.intro (F42_ok (m + 0) (z58) z71 h0) (And.intro (Eq.refl ([⟨0, [], []⟩, ⟨1, [1], []⟩, ⟨2, [1], []⟩, ⟨3, [], []⟩, ⟨4, [], []⟩, ⟨5, [0], []⟩, ⟨6, [0], []⟩, ⟨7, [], []⟩, ⟨8, [], []⟩, ⟨9, [], []⟩, ⟨10, [], []⟩, ⟨11, [], []⟩] : List Foot)) (And.intro (decide_eq_false h1) (And.intro (F43_ok (m + 1) (w64 (w64 z50 + w64 (Int.tdiv (w64 (w64 (w64 z54 - w64 z50) * z71)) 65536))) (0) (255) z91 h2) (And.intro (Eq.refl ([⟨0, [], []⟩, ⟨1, [1], []⟩, ⟨2, [1], []⟩, ⟨3, [], []⟩, ⟨4, [], []⟩, ⟨5, [0], []⟩, ⟨6, [0], []⟩, ⟨7, [], []⟩, ⟨8, [], []⟩, ⟨9, [], []⟩, ⟨10, [], []⟩, ⟨11, [], []⟩] : List Foot)) (And.intro (decide_eq_false h3) (And.intro (F43_ok (m + 1) (w64 (w64 z51 + w64 (Int.tdiv (w64 (w64 (w64 z55 - w64 z51) * z71)) 65536))) (0) (255) z99 h4) (And.intro (Eq.refl ([⟨0, [], []⟩, ⟨1, [1], []⟩, ⟨2, [1], []⟩, ⟨3, [], []⟩, ⟨4, [], []⟩, ⟨5, [0], []⟩, ⟨6, [0], []⟩, ⟨7, [], []⟩, ⟨8, [], []⟩, ⟨9, [], []⟩, ⟨10, [], []⟩, ⟨11, [], []⟩] : List Foot)) (And.intro (decide_eq_false h5) (And.intro (F43_ok (m + 1) (w64 (w64 z52 + w64 (Int.tdiv (w64 (w64 (w64 z56 - w64 z52) * z71)) 65536))) (0) (255) z103 h6) (And.intro (Eq.refl ([⟨0, [], []⟩, ⟨1, [1], []⟩, ⟨2, [1], []⟩, ⟨3, [], []⟩, ⟨4, [], []⟩, ⟨5, [0], []⟩, ⟨6, [0], []⟩, ⟨7, [], []⟩, ⟨8, [], []⟩, ⟨9, [], []⟩, ⟨10, [], []⟩, ⟨11, [], []⟩] : List Foot)) (And.intro (decide_eq_false h7) (And.intro (F43_ok (m + 1) (w64 (w64 z53 + w64 (Int.tdiv (w64 (w64 (w64 z57 - w64 z53) * z71)) 65536))) (0) (255) z105 h8) True.intro)))))))))))))
/-! ## 14 -/
noncomputable abbrev B14 : Code := (Try.f14.body).getD .skip
inductive R14_0 where
  | e0
  | e1 (k155 : Nat) (l161 : List (List V))
  | e2 (k163 : Nat) (l168 : List (List V))
@[reducible] def s14_0_0 (l150 : List (List V)) (z151 : Int) (b152 : Bool) : S := { T := V.list 10 l150 :: U :: U :: V.nilS :: i64 (-5) :: i64 0 :: U :: i64 0 :: V.list 10 l150 :: i64 z151 :: vb b152 :: vb b152 :: E :: E :: vb false :: un 44 [], σ := [] }
@[reducible] def s14_0_1 (l154 : List (List V)) (k155 : Nat) (z156 : Int) (z157 : Int) (z158 : Int) (b159 : Bool) (b160 : Bool) (l161 : List (List V)) : S := { T := V.list 10 l154 :: U :: U :: V.hs 0 0 k155 :: i64 z156 :: i64 z157 :: U :: i64 z157 :: V.list 10 l154 :: i64 z158 :: vb b159 :: vb b159 :: i64 z157 :: vb b160 :: vb b160 :: un 44 [], σ := [Ob.cells true true 10 l161] }
@[reducible] def s14_0_2 (l162 : List (List V)) (k163 : Nat) (z164 : Int) (z165 : Int) (z166 : Int) (b167 : Bool) (l168 : List (List V)) : S := { T := V.list 10 l162 :: U :: U :: V.hs 0 0 k163 :: i64 z164 :: i64 z165 :: U :: i64 z165 :: V.list 10 l162 :: i64 z166 :: vb b167 :: vb b167 :: E :: E :: vb false :: un 44 [], σ := [Ob.cells true true 10 l168] }
def R14_0.St : R14_0 → VX × S → Prop
  | .e0, p => ∃ l150 : List (List V), ∃ z151 : Int, ∃ b152 : Bool, p = (VX.exit 0, s14_0_0 l150 z151 b152)
  | .e1 k155 l161, p => ∃ l154 : List (List V), ∃ z156 : Int, ∃ z157 : Int, ∃ z158 : Int, ∃ b159 : Bool, ∃ b160 : Bool, p = (VX.exit 0, s14_0_1 l154 k155 z156 z157 z158 b159 b160 l161)
  | .e2 k163 l168, p => ∃ l162 : List (List V), ∃ z164 : Int, ∃ z165 : Int, ∃ z166 : Int, ∃ b167 : Bool, p = (VX.exit 0, s14_0_2 l162 k163 z164 z165 z166 b167 l168)
def L14_0s1 : Nat → List (List V) → Nat → Int → Int → List (List V) → Option R14_0
  | 0, _, _, _, _, _ => none
  | n + 1, l129, k130, z131, z132, l133 =>
    if z132 < (↑(List.length l129) : Int) then
     if z132 < 40 then
      if 0 ≤ z132 then
       ((l129[Int.toNat z132]?).bind W33.dec).bind fun e153 =>
       if (Int.tmod (w64 e153.c1) 3 != 2) = true then
        if 0 + k130 ≤ List.length l133 ∧ (k130 + 1) * 56 ≤ 140737488355328 ∧ k130 + 1 ≤ 140737488355328 then
         L14_0s1 n (l129) (k130 + 1) (w64 (w64 (z131 + 1) + w64 (↑(BitVec.toNat (BitVec.ofInt (IntKind.bits IntKind.i64) e153.c0 &&& BitVec.ofInt (IntKind.bits IntKind.i64) 7)) : Int))) (w64 (z132 + 1)) (List.take k130 l133 ++ [[i64 (w64 (w64 (z131 + 1) + w64 (↑(BitVec.toNat (BitVec.ofInt (IntKind.bits IntKind.i64) e153.c0 &&& BitVec.ofInt (IntKind.bits IntKind.i64) 7)) : Int))), u8 e153.c1, u8 e153.c2, u8 e153.c3, u8 e153.c4, i64 (Int.tmod (w64 e153.c1) 3), i64 0, i64 0, i64 0, i64 0]])
        else
         none -- none
       else
        if 0 + k130 ≤ List.length l133 ∧ (k130 + 1) * 56 ≤ 140737488355328 ∧ k130 + 1 ≤ 140737488355328 then
         L14_0s1 n (l129) (k130 + 1) (w64 (w64 (z131 + 1) + w64 (↑(BitVec.toNat (BitVec.ofInt (IntKind.bits IntKind.i64) e153.c0 &&& BitVec.ofInt (IntKind.bits IntKind.i64) 7)) : Int))) (w64 (z132 + 1)) (List.take k130 l133 ++ [[i64 (w64 (w64 (z131 + 1) + w64 (↑(BitVec.toNat (BitVec.ofInt (IntKind.bits IntKind.i64) e153.c0 &&& BitVec.ofInt (IntKind.bits IntKind.i64) 7)) : Int))), u8 e153.c1, u8 e153.c2, u8 e153.c3, u8 e153.c4, i64 (Int.tmod (w64 e153.c1) 3), i64 (w64 (↑(BitVec.toNat (BitVec.ofInt (IntKind.bits IntKind.i64) e153.c6 &&& BitVec.ofInt (IntKind.bits IntKind.i64) 65535)) : Int)), i64 (Int.tmod e153.c7 65536), i64 (w64 (↑(BitVec.toNat (BitVec.ofInt (IntKind.bits IntKind.i64) e153.c8 &&& BitVec.ofInt (IntKind.bits IntKind.i64) 65535)) : Int)), i64 131072]])
        else
         none -- none
      else
       none -- none
     else
      some (R14_0.e1 (k130) (l133))
    else
     some (R14_0.e2 (k130) (l133))
theorem L14_0s1_ok (m : Nat) : ∀ (n : Nat) (l129 : List (List V)) (k130 : Nat) (z131 : Int) (z132 : Int) (l133 : List (List V)) (r : R14_0), L14_0s1 n l129 k130 z131 z132 l133 = some r → ∃ st, loopFrom Try.prog X (call Try.prog X O0 100000 (m + 0)) 14 (0) 100000 B14 0 n ({ T := V.list 10 l129 :: U :: U :: V.hs 0 0 k130 :: i64 z131 :: i64 z132 :: un 53 [], σ := [Ob.cells true true 10 l133] }) = some st ∧ r.St st
  | 0, _, _, _, _, _, r, h => by cases h
  | n + 1, l129, k130, z131, z132, l133, r, h => by
    rw [L14_0s1] at h
    rcases ite_eq h with ⟨h0, h⟩ | ⟨h0, h⟩
    · skip
      rcases ite_eq h with ⟨h1, h⟩ | ⟨h1, h⟩
      · skip
        rcases ite_eq h with ⟨h2, h⟩ | ⟨h2, h⟩
        · skip
          obtain ⟨e153, h3, h⟩ := Option.bind_eq_some_iff.mp h
          rcases ite_eq h with ⟨h4, h⟩ | ⟨h4, h⟩
          · skip
            rcases ite_eq h with ⟨h5, h⟩ | ⟨h5, h⟩
            · skip
              obtain ⟨st, hs, hr⟩ := L14_0s1_ok m n (l129) (k130 + 1) (w64 (w64 (z131 + 1) + w64 (↑(BitVec.toNat (BitVec.ofInt (IntKind.bits IntKind.i64) e153.c0 &&& BitVec.ofInt (IntKind.bits IntKind.i64) 7)) : Int))) (w64 (z132 + 1)) (List.take k130 l133 ++ [[i64 (w64 (w64 (z131 + 1) + w64 (↑(BitVec.toNat (BitVec.ofInt (IntKind.bits IntKind.i64) e153.c0 &&& BitVec.ofInt (IntKind.bits IntKind.i64) 7)) : Int))), u8 e153.c1, u8 e153.c2, u8 e153.c3, u8 e153.c4, i64 (Int.tmod (w64 e153.c1) 3), i64 0, i64 0, i64 0, i64 0]]) r h
              exact ⟨st, (round_on (gs := [.t, .t, .t, .t, .t, .el (W33.cells e153), .a, .a, .a, .a, .a, .a, .a, .t, .a, .a, .a, .t]) (notIn []) (by kernel_rfl) (And.intro (decide_eq_true h0) (And.intro (decide_eq_true h0) (And.intro (decide_eq_true h0) (And.intro (decide_eq_true h1) (And.intro (decide_eq_true h2) (And.intro (W33.dec_ok h3) (And.intro h4 (And.intro (decide_eq_true h5) True.intro)))))))) n).trans hs, hr⟩
            · skip
              cases h
          · skip
            rcases ite_eq h with ⟨h5, h⟩ | ⟨h5, h⟩
            · skip
              obtain ⟨st, hs, hr⟩ := L14_0s1_ok m n (l129) (k130 + 1) (w64 (w64 (z131 + 1) + w64 (↑(BitVec.toNat (BitVec.ofInt (IntKind.bits IntKind.i64) e153.c0 &&& BitVec.ofInt (IntKind.bits IntKind.i64) 7)) : Int))) (w64 (z132 + 1)) (List.take k130 l133 ++ [[i64 (w64 (w64 (z131 + 1) + w64 (↑(BitVec.toNat (BitVec.ofInt (IntKind.bits IntKind.i64) e153.c0 &&& BitVec.ofInt (IntKind.bits IntKind.i64) 7)) : Int))), u8 e153.c1, u8 e153.c2, u8 e153.c3, u8 e153.c4, i64 (Int.tmod (w64 e153.c1) 3), i64 (w64 (↑(BitVec.toNat (BitVec.ofInt (IntKind.bits IntKind.i64) e153.c6 &&& BitVec.ofInt (IntKind.bits IntKind.i64) 65535)) : Int)), i64 (Int.tmod e153.c7 65536), i64 (w64 (↑(BitVec.toNat (BitVec.ofInt (IntKind.bits IntKind.i64) e153.c8 &&& BitVec.ofInt (IntKind.bits IntKind.i64) 65535)) : Int)), i64 131072]]) r h
              exact ⟨st, (round_on (gs := [.t, .t, .t, .t, .t, .el (W33.cells e153), .a, .a, .a, .a, .a, .a, .a, .f, .a, .a, .a, .a, .a, .a, .a, .t]) (notIn []) (by kernel_rfl) (And.intro (decide_eq_true h0) (And.intro (decide_eq_true h0) (And.intro (decide_eq_true h0) (And.intro (decide_eq_true h1) (And.intro (decide_eq_true h2) (And.intro (W33.dec_ok h3) (And.intro (Bool.eq_false_iff.mpr h4) (And.intro (decide_eq_true h5) True.intro)))))))) n).trans hs, hr⟩
            · skip
              cases h
        · skip
          cases h
      · skip
        cases h
        exact ⟨_, round_out (gs := [.t, .t, .t, .f]) (notIn []) (by kernel_rfl) rfl (And.intro (decide_eq_true h0) (And.intro (decide_eq_true h0) (And.intro (decide_eq_true h0) (And.intro (decide_eq_false h1) True.intro)))) n, l129, z131, z132, (↑(List.length l129) : Int), decide (z132 < (↑(List.length l129) : Int)), decide (z132 < 40), rfl⟩
    · skip
      cases h
      exact ⟨_, round_out (gs := [.f, .f, .f, .a]) (notIn []) (by kernel_rfl) rfl (And.intro (decide_eq_false h0) (And.intro (decide_eq_false h0) (And.intro (decide_eq_false h0) True.intro))) n, l129, z131, z132, (↑(List.length l129) : Int), decide (z132 < (↑(List.length l129) : Int)), rfl⟩
def L14_0 : Nat → List (List V) → Option R14_0
  | 0, _ => none
  | n + 1, l120 =>
    if 0 < (↑(List.length l120) : Int) then
     ((l120[(0 : Nat)]?).bind W33.dec).bind fun e149 =>
     if (Int.tmod (w64 e149.c1) 3 != 2) = true then
      L14_0s1 n (l120) (1) (w64 (-4 + w64 (↑(BitVec.toNat (BitVec.ofInt (IntKind.bits IntKind.i64) e149.c0 &&& BitVec.ofInt (IntKind.bits IntKind.i64) 7)) : Int))) (1) ([[i64 (w64 (-4 + w64 (↑(BitVec.toNat (BitVec.ofInt (IntKind.bits IntKind.i64) e149.c0 &&& BitVec.ofInt (IntKind.bits IntKind.i64) 7)) : Int))), u8 e149.c1, u8 e149.c2, u8 e149.c3, u8 e149.c4, i64 (Int.tmod (w64 e149.c1) 3), i64 0, i64 0, i64 0, i64 0]])
     else
      L14_0s1 n (l120) (1) (w64 (-4 + w64 (↑(BitVec.toNat (BitVec.ofInt (IntKind.bits IntKind.i64) e149.c0 &&& BitVec.ofInt (IntKind.bits IntKind.i64) 7)) : Int))) (1) ([[i64 (w64 (-4 + w64 (↑(BitVec.toNat (BitVec.ofInt (IntKind.bits IntKind.i64) e149.c0 &&& BitVec.ofInt (IntKind.bits IntKind.i64) 7)) : Int))), u8 e149.c1, u8 e149.c2, u8 e149.c3, u8 e149.c4, i64 (Int.tmod (w64 e149.c1) 3), i64 (w64 (↑(BitVec.toNat (BitVec.ofInt (IntKind.bits IntKind.i64) e149.c6 &&& BitVec.ofInt (IntKind.bits IntKind.i64) 65535)) : Int)), i64 (Int.tmod e149.c7 65536), i64 (w64 (↑(BitVec.toNat (BitVec.ofInt (IntKind.bits IntKind.i64) e149.c8 &&& BitVec.ofInt (IntKind.bits IntKind.i64) 65535)) : Int)), i64 131072]])
    else
     some (R14_0.e0)
theorem L14_0_ok (m : Nat) : ∀ (n : Nat) (l120 : List (List V)) (r : R14_0), L14_0 n l120 = some r → ∃ st, loopFrom Try.prog X (call Try.prog X O0 100000 (m + 0)) 14 (0) 100000 B14 0 n ({ T := V.list 10 l120 :: U :: U :: V.nilS :: i64 (-5) :: i64 0 :: un 53 [], σ := [] }) = some st ∧ r.St st
  | 0, _, r, h => by cases h
  | n + 1, l120, r, h => by
    rw [L14_0] at h
    rcases ite_eq h with ⟨h0, h⟩ | ⟨h0, h⟩
    · skip
      obtain ⟨e149, h1, h⟩ := Option.bind_eq_some_iff.mp h
      rcases ite_eq h with ⟨h2, h⟩ | ⟨h2, h⟩
      · skip
        obtain ⟨st, hs, hr⟩ := L14_0s1_ok m n (l120) (1) (w64 (-4 + w64 (↑(BitVec.toNat (BitVec.ofInt (IntKind.bits IntKind.i64) e149.c0 &&& BitVec.ofInt (IntKind.bits IntKind.i64) 7)) : Int))) (1) ([[i64 (w64 (-4 + w64 (↑(BitVec.toNat (BitVec.ofInt (IntKind.bits IntKind.i64) e149.c0 &&& BitVec.ofInt (IntKind.bits IntKind.i64) 7)) : Int))), u8 e149.c1, u8 e149.c2, u8 e149.c3, u8 e149.c4, i64 (Int.tmod (w64 e149.c1) 3), i64 0, i64 0, i64 0, i64 0]]) r h
        exact ⟨st, (round_on (gs := [.t, .t, .t, .a, .a, .el (W33.cells e149), .a, .a, .a, .a, .a, .a, .a, .t, .a, .a, .a, .a]) (notIn []) (by kernel_rfl) (And.intro (decide_eq_true h0) (And.intro (decide_eq_true h0) (And.intro (decide_eq_true h0) (And.intro (W33.dec_ok h1) (And.intro h2 True.intro))))) n).trans hs, hr⟩
      · skip
        obtain ⟨st, hs, hr⟩ := L14_0s1_ok m n (l120) (1) (w64 (-4 + w64 (↑(BitVec.toNat (BitVec.ofInt (IntKind.bits IntKind.i64) e149.c0 &&& BitVec.ofInt (IntKind.bits IntKind.i64) 7)) : Int))) (1) ([[i64 (w64 (-4 + w64 (↑(BitVec.toNat (BitVec.ofInt (IntKind.bits IntKind.i64) e149.c0 &&& BitVec.ofInt (IntKind.bits IntKind.i64) 7)) : Int))), u8 e149.c1, u8 e149.c2, u8 e149.c3, u8 e149.c4, i64 (Int.tmod (w64 e149.c1) 3), i64 (w64 (↑(BitVec.toNat (BitVec.ofInt (IntKind.bits IntKind.i64) e149.c6 &&& BitVec.ofInt (IntKind.bits IntKind.i64) 65535)) : Int)), i64 (Int.tmod e149.c7 65536), i64 (w64 (↑(BitVec.toNat (BitVec.ofInt (IntKind.bits IntKind.i64) e149.c8 &&& BitVec.ofInt (IntKind.bits IntKind.i64) 65535)) : Int)), i64 131072]]) r h
        exact ⟨st, (round_on (gs := [.t, .t, .t, .a, .a, .el (W33.cells e149), .a, .a, .a, .a, .a, .a, .a, .f, .a, .a, .a, .a, .a, .a, .a, .a]) (notIn []) (by kernel_rfl) (And.intro (decide_eq_true h0) (And.intro (decide_eq_true h0) (And.intro (decide_eq_true h0) (And.intro (W33.dec_ok h1) (And.intro (Bool.eq_false_iff.mpr h2) True.intro))))) n).trans hs, hr⟩
    · skip
      cases h
      exact ⟨_, round_out (gs := [.f, .f, .f, .a]) (notIn []) (by kernel_rfl) rfl (And.intro (decide_eq_false h0) (And.intro (decide_eq_false h0) (And.intro (decide_eq_false h0) True.intro))) n, l120, (↑(List.length l120) : Int), decide (0 < (↑(List.length l120) : Int)), rfl⟩
inductive A14 where
  | a0
  | a1 (k180 : Nat) (l181 : List (List V))
@[reducible] def A14.out : A14 → V × Store
  | .a0 => (V.nilS, [])
  | .a1 k180 l181 => (V.hs 0 0 k180, [Ob.cells true true 10 l181])
def F14 (l118 : List (List V)) : Option A14 :=
  (L14_0 100000 (l118)).bind fun r => match r with
  | .e0 =>
   some (A14.a0)
  | .e1 k173 l179 =>
   some (A14.a1 (k173) (l179))
  | .e2 k183 l188 =>
   some (A14.a1 (k183) (l188))
theorem F14_ok (m : Nat) (l118 : List (List V)) (r : A14) (h : F14 l118 = some r) : call Try.prog X O0 100000 (m + 1) 14 ([V.list 10 l118]) ([]) = some r.out := by
  unfold F14 at h
  obtain ⟨r0, h0, h⟩ := Option.bind_eq_some_iff.mp h
  obtain ⟨st0, h0, hr0⟩ := L14_0_ok m 100000 (l118) r0 h0
  have h0 : loopRun Try.prog X (call Try.prog X O0 100000 (m + 0)) 14 (0) 100000 B14 0 ({ T := V.list 10 l118 :: U :: V.nilS :: V.nilS :: i64 (-5) :: i64 0 :: un 53 [], σ := [] }) = some st0 := by
    rw [loopRun_from, show prep (0) (X.keep 14 0) ({ T := V.list 10 l118 :: U :: V.nilS :: V.nilS :: i64 (-5) :: i64 0 :: un 53 [], σ := [] }) = { T := V.list 10 l118 :: U :: U :: V.nilS :: i64 (-5) :: i64 0 :: un 53 [], σ := [] } by kernel_rfl]
    exact h0
  cases r0 with
  | e0 =>
    obtain ⟨l169, z170, b171, rfl⟩ := hr0
    cases h
    exact call_pathL (gs := [.lp (VX.exit 0) (s14_0_0 l169 z170 b171)]) (notIn []) rfl rfl (by kernel_rfl) (And.intro h0 True.intro)
  | e1 k173 l179 =>
    obtain ⟨l172, z174, z175, z176, b177, b178, rfl⟩ := hr0
    cases h
    exact call_pathL (gs := [.lp (VX.exit 0) (s14_0_1 l172 k173 z174 z175 z176 b177 b178 l179)]) (notIn []) rfl rfl (by kernel_rfl) (And.intro h0 True.intro)
  | e2 k183 l188 =>
    obtain ⟨l182, z184, z185, z186, b187, rfl⟩ := hr0
    cases h
    exact call_pathL (gs := [.lp (VX.exit 0) (s14_0_2 l182 k183 z184 z185 z186 b187 l188)]) (notIn []) rfl rfl (by kernel_rfl) (And.intro h0 True.intro)
/-! ## 16 -/
noncomputable abbrev B16 : Code := (Try.f16.body).getD .skip
inductive R16_0 where
  | e0
@[reducible] def s16_0_0 : S := { T := V.nilS :: U :: U :: i64 0 :: U :: U :: V.nilS :: i64 0 :: i64 0 :: vb false :: un 19 [], σ := [] }
def R16_0.St : R16_0 → VX × S → Prop
  | .e0, p => p = (VX.exit 0, s16_0_0)
def L16_0 : Nat → Option R16_0
  | 0 => none
  | n + 1 =>
    some (R16_0.e0)
theorem L16_0_ok (m : Nat) : ∀ (n : Nat) (r : R16_0), L16_0 n = some r → ∃ st, loopFrom Try.prog X (call Try.prog X O0 100000 (m + 0)) 16 (0) 100000 B16 0 n ({ T := V.nilS :: U :: U :: i64 0 :: U :: U :: V.nilS :: i64 0 :: i64 0 :: un 20 [], σ := [] }) = some st ∧ r.St st
  | 0, r, h => by cases h
  | n + 1, r, h => by
    rw [L16_0] at h
    cases h
    exact ⟨_, round_out (gs := [.a]) (notIn []) (by kernel_rfl) rfl True.intro n, rfl⟩
inductive A16 where
  | a0 (b197 : Bool)
@[reducible] def A16.out : A16 → V × Store
  | .a0 b197 => (vb b197, [])
def F16 : Option A16 :=
  (L16_0 100000).bind fun r => match r with
  | .e0 =>
   some (A16.a0 (true))
theorem F16_ok (m : Nat) (r : A16) (h : F16 = some r) : call Try.prog X O0 100000 (m + 1) 16 ([V.nilS]) ([]) = some r.out := by
  unfold F16 at h
  obtain ⟨r0, h0, h⟩ := Option.bind_eq_some_iff.mp h
  obtain ⟨st0, h0, hr0⟩ := L16_0_ok m 100000 r0 h0
  have h0 : loopRun Try.prog X (call Try.prog X O0 100000 (m + 0)) 16 (0) 100000 B16 0 ({ T := V.nilS :: U :: vb false :: i64 0 :: U :: U :: V.nilS :: i64 0 :: i64 0 :: un 20 [], σ := [] }) = some st0 := by
    rw [loopRun_from, show prep (0) (X.keep 16 0) ({ T := V.nilS :: U :: vb false :: i64 0 :: U :: U :: V.nilS :: i64 0 :: i64 0 :: un 20 [], σ := [] }) = { T := V.nilS :: U :: U :: i64 0 :: U :: U :: V.nilS :: i64 0 :: i64 0 :: un 20 [], σ := [] } by kernel_rfl]
    exact h0
  cases r0 with
  | e0 =>
    obtain ⟨rfl⟩ := hr0
    cases h
    exact call_pathL (gs := [.lp (VX.exit 0) (s16_0_0)]) (notIn []) rfl rfl (by kernel_rfl) (And.intro h0 True.intro)
/-! ## 44 -/
noncomputable abbrev B44 : Code := (Try.f44.body).getD .skip
inductive R44_0 where
  | e0
@[reducible] def s44_0_0 : S := { T := V.nilS :: U :: U :: i64 0 :: i64 0 :: V.nilS :: i64 0 :: vb false :: un 40 [], σ := [] }
def R44_0.St : R44_0 → VX × S → Prop
  | .e0, p => p = (VX.exit 0, s44_0_0)
def L44_0 : Nat → Option R44_0
  | 0 => none
  | n + 1 =>
    some (R44_0.e0)
theorem L44_0_ok (m : Nat) : ∀ (n : Nat) (r : R44_0), L44_0 n = some r → ∃ st, loopFrom Try.prog X (call Try.prog X O0 100000 (m + 0)) 44 (0) 100000 B44 0 n ({ T := V.nilS :: U :: U :: i64 0 :: un 44 [], σ := [] }) = some st ∧ r.St st
  | 0, r, h => by cases h
  | n + 1, r, h => by
    rw [L44_0] at h
    cases h
    exact ⟨_, round_out (gs := [.a]) (notIn []) (by kernel_rfl) rfl True.intro n, rfl⟩
inductive A44 where
  | a0 (b201 : Bool)
@[reducible] def A44.out : A44 → V × Store
  | .a0 b201 => (vb b201, [])
def F44 : Option A44 :=
  (L44_0 100000).bind fun r => match r with
  | .e0 =>
   some (A44.a0 (true))
theorem F44_ok (m : Nat) (r : A44) (h : F44 = some r) : call Try.prog X O0 100000 (m + 1) 44 ([V.nilS]) ([]) = some r.out := by
  unfold F44 at h
  obtain ⟨r0, h0, h⟩ := Option.bind_eq_some_iff.mp h
  obtain ⟨st0, h0, hr0⟩ := L44_0_ok m 100000 r0 h0
  have h0 : loopRun Try.prog X (call Try.prog X O0 100000 (m + 0)) 44 (0) 100000 B44 0 ({ T := V.nilS :: U :: vb false :: i64 0 :: un 44 [], σ := [] }) = some st0 := by
    rw [loopRun_from, show prep (0) (X.keep 44 0) ({ T := V.nilS :: U :: vb false :: i64 0 :: un 44 [], σ := [] }) = { T := V.nilS :: U :: U :: i64 0 :: un 44 [], σ := [] } by kernel_rfl]
    exact h0
  cases r0 with
  | e0 =>
    obtain ⟨rfl⟩ := hr0
    cases h
    exact call_pathL (gs := [.lp (VX.exit 0) (s44_0_0)]) (notIn []) rfl rfl (by kernel_rfl) (And.intro h0 True.intro)
/-! ## 15 -/
inductive A15 where
  | a0 (z209 : Int) (z210 : Int) (z211 : Int) (z212 : Int)
@[reducible] def A15.out : A15 → V × Store
  | .a0 z209 z210 z211 z212 => (V.agg [u8 z209, u8 z210, u8 z211, u8 z212], [])
def F15 (z203 : Int) (z204 : Int) (z205 : Int) (z206 : Int) (z207 : Int) : Option A15 :=
  some (A15.a0 (z204) (z205) (z206) (z207))
theorem F15_ok (m : Nat) (z203 : Int) (z204 : Int) (z205 : Int) (z206 : Int) (z207 : Int) (r : A15) (h : F15 z203 z204 z205 z206 z207 = some r) : call Try.prog X O0 100000 (m + 1) 15 ([V.nilS, i64 z203, V.agg [u8 z204, u8 z205, u8 z206, u8 z207]]) ([]) = some r.out := by
  unfold F15 at h
  cases h
  exact call_pathL (gs := [.a, .a, .a]) (notIn []) rfl rfl (by kernel_rfl) True.intro
/-! ## 45 -/
inductive A45 where
  | a0 (z223 : Int) (z224 : Int) (z225 : Int) (z226 : Int)
@[reducible] def A45.out : A45 → V × Store
  | .a0 z223 z224 z225 z226 => (V.agg [u8 z223, u8 z224, u8 z225, u8 z226], [])
def F45 (z217 : Int) (z218 : Int) (z219 : Int) (z220 : Int) (z221 : Int) : Option A45 :=
  some (A45.a0 (z218) (z219) (z220) (z221))
theorem F45_ok (m : Nat) (z217 : Int) (z218 : Int) (z219 : Int) (z220 : Int) (z221 : Int) (r : A45) (h : F45 z217 z218 z219 z220 z221 = some r) : call Try.prog X O0 100000 (m + 1) 45 ([V.nilS, i64 z217, V.agg [u8 z218, u8 z219, u8 z220, u8 z221]]) ([]) = some r.out := by
  unfold F45 at h
  cases h
  exact call_pathL (gs := [.a, .a, .a]) (notIn []) rfl rfl (by kernel_rfl) True.intro
/-! ## 24 -/
inductive A24 where
  | a0 (b231 : Bool)
@[reducible] def A24.out : A24 → V × Store
  | .a0 b231 => (vb b231, [])
def F24 (z189 : Int) (z190 : Int) (z191 : Int) (z192 : Int) (z193 : Int) : Option A24 :=
  (F16).bind fun r => match r with
  | .a0 b198 =>
   (F44).bind fun r => match r with
   | .a0 b202 =>
    if (b198 == b202) = true then
     (F15 (z189) (z190) (z191) (z192) (z193)).bind fun r => match r with
     | .a0 z213 z214 z215 z216 =>
      (F45 (z189) (z190) (z191) (z192) (z193)).bind fun r => match r with
      | .a0 z227 z228 z229 z230 =>
       some (A24.a0 (z213 == z227 && (z214 == z228 && (z215 == z229 && (z216 == z230 && true)))))
    else
     some (A24.a0 (false))
theorem F24_ok (m : Nat) (z189 : Int) (z190 : Int) (z191 : Int) (z192 : Int) (z193 : Int) (r : A24) (h : F24 z189 z190 z191 z192 z193 = some r) : call Try.prog X O0 100000 (m + 2) 24 ([V.nilS, i64 z189, V.agg [u8 z190, u8 z191, u8 z192, u8 z193]]) ([]) = some r.out := by
  unfold F24 at h
  obtain ⟨r0, h0, h⟩ := Option.bind_eq_some_iff.mp h
  have h0 := F16_ok (m + 0) r0 h0
  cases r0 with
  | a0 b198 =>
    obtain ⟨r1, h1, h⟩ := Option.bind_eq_some_iff.mp h
    have h1 := F44_ok (m + 0) r1 h1
    cases r1 with
    | a0 b202 =>
      rcases ite_eq h with ⟨h2, h⟩ | ⟨h2, h⟩
      · skip
        obtain ⟨r3, h3, h⟩ := Option.bind_eq_some_iff.mp h
        have h3 := F15_ok (m + 0) (z189) (z190) (z191) (z192) (z193) r3 h3
        cases r3 with
        | a0 z213 z214 z215 z216 =>
          obtain ⟨r4, h4, h⟩ := Option.bind_eq_some_iff.mp h
          have h4 := F45_ok (m + 0) (z189) (z190) (z191) (z192) (z193) r4 h4
          cases r4 with
          | a0 z227 z228 z229 z230 =>
            cases h
            exact call_pathL (gs := [.an (vb b198) [], .an (vb b202) [], .t, .t, .t, .a, .t, .an (V.agg [u8 z213, u8 z214, u8 z215, u8 z216]) [], .t, .t, .t, .a, .t, .an (V.agg [u8 z227, u8 z228, u8 z229, u8 z230]) [], .t, .t, .ft [⟨0, [], []⟩, ⟨1, [], []⟩, ⟨2, [], []⟩, ⟨3, [], []⟩, ⟨4, [], []⟩, ⟨5, [], []⟩, ⟨6, [], []⟩, ⟨7, [], []⟩, ⟨8, [0], []⟩, ⟨9, [], []⟩, ⟨10, [], []⟩, ⟨11, [], []⟩, ⟨12, [0], []⟩, ⟨13, [], []⟩, ⟨14, [], []⟩, ⟨15, [], []⟩, ⟨16, [], []⟩]]) (notIn []) rfl rfl (by kernel_rfl) (And.intro h0 (And.intro h1 (And.intro h2 (And.intro h2 (And.intro h2 (And.intro h2 (And.intro h3 (And.intro h2 (And.intro h2 (And.intro h2 (And.intro h2 (And.intro h4 (And.intro h2 (And.intro h2 (And.intro (Eq.refl ([⟨0, [], []⟩, ⟨1, [], []⟩, ⟨2, [], []⟩, ⟨3, [], []⟩, ⟨4, [], []⟩, ⟨5, [], []⟩, ⟨6, [], []⟩, ⟨7, [], []⟩, ⟨8, [0], []⟩, ⟨9, [], []⟩, ⟨10, [], []⟩, ⟨11, [], []⟩, ⟨12, [0], []⟩, ⟨13, [], []⟩, ⟨14, [], []⟩, ⟨15, [], []⟩, ⟨16, [], []⟩] : List Foot)) True.intro)))))))))))))))
      · skip
        cases h
        exact call_pathL (gs := [.an (vb b198) [], .an (vb b202) [], .f, .f, .f, .f, .f, .f, .f, .f, .f, .f, .ft [⟨0, [], []⟩, ⟨1, [], []⟩, ⟨2, [], []⟩, ⟨3, [], []⟩, ⟨4, [], []⟩, ⟨5, [], []⟩, ⟨6, [], []⟩, ⟨7, [], []⟩, ⟨8, [], []⟩, ⟨9, [], []⟩, ⟨10, [], []⟩, ⟨11, [], []⟩, ⟨12, [], []⟩, ⟨13, [], []⟩, ⟨14, [], []⟩, ⟨15, [], []⟩, ⟨16, [], []⟩]]) (notIn []) rfl rfl (by kernel_rfl) (And.intro h0 (And.intro h1 (And.intro (Bool.eq_false_iff.mpr h2) (And.intro (Bool.eq_false_iff.mpr h2) (And.intro (Bool.eq_false_iff.mpr h2) (And.intro (Bool.eq_false_iff.mpr h2) (And.intro (Bool.eq_false_iff.mpr h2) (And.intro (Bool.eq_false_iff.mpr h2) (And.intro (Bool.eq_false_iff.mpr h2) (And.intro (Bool.eq_false_iff.mpr h2) (And.intro (Bool.eq_false_iff.mpr h2) (And.intro (Bool.eq_false_iff.mpr h2) (And.intro (Eq.refl ([⟨0, [], []⟩, ⟨1, [], []⟩, ⟨2, [], []⟩, ⟨3, [], []⟩, ⟨4, [], []⟩, ⟨5, [], []⟩, ⟨6, [], []⟩, ⟨7, [], []⟩, ⟨8, [], []⟩, ⟨9, [], []⟩, ⟨10, [], []⟩, ⟨11, [], []⟩, ⟨12, [], []⟩, ⟨13, [], []⟩, ⟨14, [], []⟩, ⟨15, [], []⟩, ⟨16, [], []⟩] : List Foot)) True.intro)))))))))))))
/-! ## 95 -/
def F95 (z260 : Int) (z261 : Int) (z262 : Int) : Bool :=
  if z260 ≥ z261 then
   decide (z260 ≤ z262)
  else
   false
theorem F95_ok (m : Nat) (z260 : Int) (z261 : Int) (z262 : Int) (b265 : Bool) (h : F95 z260 z261 z262 = b265) : call Try.prog X O0 100000 (m + 1) 95 ([i64 z260, i64 z261, i64 z262]) ([]) = some (vb b265, []) := by
  unfold F95 at h
  rcases ite_eq h with ⟨h0, h⟩ | ⟨h0, h⟩
  · skip
    subst h
    exact call_pathL (gs := [.t, .t, .t, .t]) (notIn []) rfl rfl (by kernel_rfl) (And.intro (decide_eq_true h0) (And.intro (decide_eq_true h0) (And.intro (decide_eq_true h0) (And.intro (decide_eq_true h0) True.intro))))
  · skip
    subst h
    exact call_pathL (gs := [.f, .f, .f, .f]) (notIn []) rfl rfl (by kernel_rfl) (And.intro (decide_eq_false h0) (And.intro (decide_eq_false h0) (And.intro (decide_eq_false h0) (And.intro (decide_eq_false h0) True.intro))))
/-! ## 67 -/
def F67 (z255 : Int) (z256 : Int) (z257 : Int) (z258 : Int) : Bool :=
  bnd (F95 (z255) (0) (65536)) fun b266 =>
  if (b266) = true then
   bnd (F95 (z257) (0) (65536)) fun b267 =>
   if (b267) = true then
    bnd (F95 (z256) (-131072) (196608)) fun b268 =>
    if (b268) = true then
     bnd (F95 (z258) (-131072) (196608)) fun b269 =>
     b269
    else
     false
   else
    false
  else
   false
theorem F67_ok (m : Nat) (z255 : Int) (z256 : Int) (z257 : Int) (z258 : Int) (b271 : Bool) (h : F67 z255 z256 z257 z258 = b271) : call Try.prog X O0 100000 (m + 2) 67 ([V.agg [i64 z255, i64 z256, i64 z257, i64 z258]]) ([]) = some (vb b271, []) := by
  unfold F67 at h
  obtain ⟨b266, h0, h⟩ := bnd_eq h
  rcases ite_eq h with ⟨h1, h⟩ | ⟨h1, h⟩
  · skip
    obtain ⟨b267, h2, h⟩ := bnd_eq h
    rcases ite_eq h with ⟨h3, h⟩ | ⟨h3, h⟩
    · skip
      obtain ⟨b268, h4, h⟩ := bnd_eq h
      rcases ite_eq h with ⟨h5, h⟩ | ⟨h5, h⟩
      · skip
        obtain ⟨b269, h6, h⟩ := bnd_eq h
        subst h
        exact call_pathL (gs := [.a, .an (vb b266) [], .t, .t, .t, .a, .t, .an (vb b267) [], .t, .t, .t, .t, .a, .t, .an (vb b268) [], .t, .t, .t, .t, .a, .t, .an (vb b269) [], .t]) (notIn []) rfl rfl (by kernel_rfl) (And.intro (F95_ok (m + 0) (z255) (0) (65536) b266 h0) (And.intro h1 (And.intro h1 (And.intro h1 (And.intro h1 (And.intro (F95_ok (m + 0) (z257) (0) (65536) b267 h2) (And.intro h1 (And.intro h3 (And.intro h3 (And.intro h3 (And.intro h3 (And.intro (F95_ok (m + 0) (z256) (-131072) (196608) b268 h4) (And.intro h3 (And.intro h5 (And.intro h5 (And.intro h5 (And.intro h5 (And.intro (F95_ok (m + 0) (z258) (-131072) (196608) b269 h6) (And.intro h5 True.intro)))))))))))))))))))
      · skip
        subst h
        exact call_pathL (gs := [.a, .an (vb b266) [], .t, .t, .t, .a, .t, .an (vb b267) [], .t, .t, .t, .t, .a, .t, .an (vb b268) [], .t, .f, .f, .f, .f, .f]) (notIn []) rfl rfl (by kernel_rfl) (And.intro (F95_ok (m + 0) (z255) (0) (65536) b266 h0) (And.intro h1 (And.intro h1 (And.intro h1 (And.intro h1 (And.intro (F95_ok (m + 0) (z257) (0) (65536) b267 h2) (And.intro h1 (And.intro h3 (And.intro h3 (And.intro h3 (And.intro h3 (And.intro (F95_ok (m + 0) (z256) (-131072) (196608) b268 h4) (And.intro h3 (And.intro (Bool.eq_false_iff.mpr h5) (And.intro (Bool.eq_false_iff.mpr h5) (And.intro (Bool.eq_false_iff.mpr h5) (And.intro (Bool.eq_false_iff.mpr h5) (And.intro (Bool.eq_false_iff.mpr h5) True.intro))))))))))))))))))
    · skip
      subst h
      exact call_pathL (gs := [.a, .an (vb b266) [], .t, .t, .t, .a, .t, .an (vb b267) [], .t, .f, .f, .f, .f, .f, .a, .a, .a, .a, .a]) (notIn []) rfl rfl (by kernel_rfl) (And.intro (F95_ok (m + 0) (z255) (0) (65536) b266 h0) (And.intro h1 (And.intro h1 (And.intro h1 (And.intro h1 (And.intro (F95_ok (m + 0) (z257) (0) (65536) b267 h2) (And.intro h1 (And.intro (Bool.eq_false_iff.mpr h3) (And.intro (Bool.eq_false_iff.mpr h3) (And.intro (Bool.eq_false_iff.mpr h3) (And.intro (Bool.eq_false_iff.mpr h3) (And.intro (Bool.eq_false_iff.mpr h3) True.intro))))))))))))
  · skip
    subst h
    exact call_pathL (gs := [.a, .an (vb b266) [], .f, .f, .f, .f, .f, .a, .a, .a, .a, .a, .a, .a, .a, .a, .a]) (notIn []) rfl rfl (by kernel_rfl) (And.intro (F95_ok (m + 0) (z255) (0) (65536) b266 h0) (And.intro (Bool.eq_false_iff.mpr h1) (And.intro (Bool.eq_false_iff.mpr h1) (And.intro (Bool.eq_false_iff.mpr h1) (And.intro (Bool.eq_false_iff.mpr h1) (And.intro (Bool.eq_false_iff.mpr h1) True.intro))))))
/-! ## 36 -/
def F36 (z245 : Int) (z246 : Int) (z247 : Int) (z248 : Int) (z249 : Int) (z250 : Int) (z251 : Int) (z252 : Int) : Bool :=
  if z247 < -1073741824 then
   false
  else
   if z247 > 1073741824 then
    false
   else
    if z245 > 0 then
     if z247 ≤ z246 then
      false
     else
      if (z248 == 2) = true then
       bnd (F67 (z249) (z250) (z251) (z252)) fun b272 =>
       b272
      else
       if (z248 == 0) = true then
        z249 == 0 && (z250 == 0 && (z251 == 0 && (z252 == 0 && true)))
       else
        if (z248 == 1) = true then
         z249 == 0 && (z250 == 0 && (z251 == 0 && (z252 == 0 && true)))
        else
         false
    else
     if (z248 == 2) = true then
      bnd (F67 (z249) (z250) (z251) (z252)) fun b273 =>
      b273
     else
      if (z248 == 0) = true then
       z249 == 0 && (z250 == 0 && (z251 == 0 && (z252 == 0 && true)))
      else
       if (z248 == 1) = true then
        z249 == 0 && (z250 == 0 && (z251 == 0 && (z252 == 0 && true)))
       else
        false
theorem F36_ok (m : Nat) (z245 : Int) (z246 : Int) (z247 : Int) (z248 : Int) (z249 : Int) (z250 : Int) (z251 : Int) (z252 : Int) (b274 : Bool) (h : F36 z245 z246 z247 z248 z249 z250 z251 z252 = b274) : call Try.prog X O0 100000 (m + 3) 36 ([i64 z245, i64 z246, i64 z247, i64 z248, V.agg [i64 z249, i64 z250, i64 z251, i64 z252]]) ([]) = some (vb b274, []) := by
  unfold F36 at h
  rcases ite_eq h with ⟨h0, h⟩ | ⟨h0, h⟩
  · skip
    subst h
    exact call_pathL (gs := [.t, .t, .t, .a, .a, .a, .a, .a, .a]) (notIn []) rfl rfl (by kernel_rfl) (And.intro (decide_eq_true h0) (And.intro (decide_eq_true h0) (And.intro (decide_eq_true h0) True.intro)))
  · skip
    rcases ite_eq h with ⟨h1, h⟩ | ⟨h1, h⟩
    · skip
      subst h
      exact call_pathL (gs := [.f, .f, .f, .t, .t, .t, .t, .t, .a]) (notIn []) rfl rfl (by kernel_rfl) (And.intro (decide_eq_false h0) (And.intro (decide_eq_false h0) (And.intro (decide_eq_false h0) (And.intro (decide_eq_true h1) (And.intro (decide_eq_true h1) (And.intro (decide_eq_true h1) (And.intro (decide_eq_true h1) (And.intro (decide_eq_true h1) True.intro))))))))
    · skip
      rcases ite_eq h with ⟨h2, h⟩ | ⟨h2, h⟩
      · skip
        rcases ite_eq h with ⟨h3, h⟩ | ⟨h3, h⟩
        · skip
          subst h
          exact call_pathL (gs := [.f, .f, .f, .f, .f, .f, .t, .t, .t, .f, .t, .f, .t]) (notIn []) rfl rfl (by kernel_rfl) (And.intro (decide_eq_false h0) (And.intro (decide_eq_false h0) (And.intro (decide_eq_false h0) (And.intro (decide_eq_false h1) (And.intro (decide_eq_false h1) (And.intro (decide_eq_false h1) (And.intro (decide_eq_true h2) (And.intro (decide_eq_true h2) (And.intro (decide_eq_true h2) (And.intro (decide_eq_false h1) (And.intro (decide_eq_true h2) (And.intro (decide_eq_false h1) (And.intro (decide_eq_true h3) True.intro)))))))))))))
        · skip
          rcases ite_eq h with ⟨h4, h⟩ | ⟨h4, h⟩
          · skip
            obtain ⟨b272, h5, h⟩ := bnd_eq h
            subst h
            exact call_pathL (gs := [.f, .f, .f, .f, .f, .f, .t, .t, .t, .f, .t, .f, .f, .t, .a, .an (vb b272) []]) (notIn []) rfl rfl (by kernel_rfl) (And.intro (decide_eq_false h0) (And.intro (decide_eq_false h0) (And.intro (decide_eq_false h0) (And.intro (decide_eq_false h1) (And.intro (decide_eq_false h1) (And.intro (decide_eq_false h1) (And.intro (decide_eq_true h2) (And.intro (decide_eq_true h2) (And.intro (decide_eq_true h2) (And.intro (decide_eq_false h1) (And.intro (decide_eq_true h2) (And.intro (decide_eq_false h1) (And.intro (decide_eq_false h3) (And.intro h4 (And.intro (F67_ok (m + 0) (z249) (z250) (z251) (z252) b272 h5) True.intro)))))))))))))))
          · skip
            rcases ite_eq h with ⟨h5, h⟩ | ⟨h5, h⟩
            · skip
              subst h
              exact call_pathL (gs := [.f, .f, .f, .f, .f, .f, .t, .t, .t, .f, .t, .f, .f, .f, .t, .t, .t, .a, .a, .a, .a, .a]) (notIn []) rfl rfl (by kernel_rfl) (And.intro (decide_eq_false h0) (And.intro (decide_eq_false h0) (And.intro (decide_eq_false h0) (And.intro (decide_eq_false h1) (And.intro (decide_eq_false h1) (And.intro (decide_eq_false h1) (And.intro (decide_eq_true h2) (And.intro (decide_eq_true h2) (And.intro (decide_eq_true h2) (And.intro (decide_eq_false h1) (And.intro (decide_eq_true h2) (And.intro (decide_eq_false h1) (And.intro (decide_eq_false h3) (And.intro (Bool.eq_false_iff.mpr h4) (And.intro h5 (And.intro h5 (And.intro h5 True.intro)))))))))))))))))
            · skip
              rcases ite_eq h with ⟨h6, h⟩ | ⟨h6, h⟩
              · skip
                subst h
                exact call_pathL (gs := [.f, .f, .f, .f, .f, .f, .t, .t, .t, .f, .t, .f, .f, .f, .f, .f, .f, .t, .a, .t, .t, .t]) (notIn []) rfl rfl (by kernel_rfl) (And.intro (decide_eq_false h0) (And.intro (decide_eq_false h0) (And.intro (decide_eq_false h0) (And.intro (decide_eq_false h1) (And.intro (decide_eq_false h1) (And.intro (decide_eq_false h1) (And.intro (decide_eq_true h2) (And.intro (decide_eq_true h2) (And.intro (decide_eq_true h2) (And.intro (decide_eq_false h1) (And.intro (decide_eq_true h2) (And.intro (decide_eq_false h1) (And.intro (decide_eq_false h3) (And.intro (Bool.eq_false_iff.mpr h4) (And.intro (Bool.eq_false_iff.mpr h5) (And.intro (Bool.eq_false_iff.mpr h5) (And.intro (Bool.eq_false_iff.mpr h5) (And.intro h6 (And.intro h6 (And.intro h6 (And.intro h6 True.intro)))))))))))))))))))))
              · skip
                subst h
                exact call_pathL (gs := [.f, .f, .f, .f, .f, .f, .t, .t, .t, .f, .t, .f, .f, .f, .f, .f, .f, .f, .f, .f, .f]) (notIn []) rfl rfl (by kernel_rfl) (And.intro (decide_eq_false h0) (And.intro (decide_eq_false h0) (And.intro (decide_eq_false h0) (And.intro (decide_eq_false h1) (And.intro (decide_eq_false h1) (And.intro (decide_eq_false h1) (And.intro (decide_eq_true h2) (And.intro (decide_eq_true h2) (And.intro (decide_eq_true h2) (And.intro (decide_eq_false h1) (And.intro (decide_eq_true h2) (And.intro (decide_eq_false h1) (And.intro (decide_eq_false h3) (And.intro (Bool.eq_false_iff.mpr h4) (And.intro (Bool.eq_false_iff.mpr h5) (And.intro (Bool.eq_false_iff.mpr h5) (And.intro (Bool.eq_false_iff.mpr h5) (And.intro (Bool.eq_false_iff.mpr h6) (And.intro (Bool.eq_false_iff.mpr h6) (And.intro (Bool.eq_false_iff.mpr h6) (And.intro (Bool.eq_false_iff.mpr h6) True.intro)))))))))))))))))))))
      · skip
        rcases ite_eq h with ⟨h3, h⟩ | ⟨h3, h⟩
        · skip
          obtain ⟨b273, h4, h⟩ := bnd_eq h
          subst h
          exact call_pathL (gs := [.f, .f, .f, .f, .f, .f, .f, .f, .f, .f, .f, .f, .a, .t, .a, .an (vb b273) []]) (notIn []) rfl rfl (by kernel_rfl) (And.intro (decide_eq_false h0) (And.intro (decide_eq_false h0) (And.intro (decide_eq_false h0) (And.intro (decide_eq_false h1) (And.intro (decide_eq_false h1) (And.intro (decide_eq_false h1) (And.intro (decide_eq_false h2) (And.intro (decide_eq_false h2) (And.intro (decide_eq_false h2) (And.intro (decide_eq_false h1) (And.intro (decide_eq_false h2) (And.intro (decide_eq_false h1) (And.intro h3 (And.intro (F67_ok (m + 0) (z249) (z250) (z251) (z252) b273 h4) True.intro))))))))))))))
        · skip
          rcases ite_eq h with ⟨h4, h⟩ | ⟨h4, h⟩
          · skip
            subst h
            exact call_pathL (gs := [.f, .f, .f, .f, .f, .f, .f, .f, .f, .f, .f, .f, .a, .f, .t, .t, .t, .a, .a, .a, .a, .a]) (notIn []) rfl rfl (by kernel_rfl) (And.intro (decide_eq_false h0) (And.intro (decide_eq_false h0) (And.intro (decide_eq_false h0) (And.intro (decide_eq_false h1) (And.intro (decide_eq_false h1) (And.intro (decide_eq_false h1) (And.intro (decide_eq_false h2) (And.intro (decide_eq_false h2) (And.intro (decide_eq_false h2) (And.intro (decide_eq_false h1) (And.intro (decide_eq_false h2) (And.intro (decide_eq_false h1) (And.intro (Bool.eq_false_iff.mpr h3) (And.intro h4 (And.intro h4 (And.intro h4 True.intro))))))))))))))))
          · skip
            rcases ite_eq h with ⟨h5, h⟩ | ⟨h5, h⟩
            · skip
              subst h
              exact call_pathL (gs := [.f, .f, .f, .f, .f, .f, .f, .f, .f, .f, .f, .f, .a, .f, .f, .f, .f, .t, .a, .t, .t, .t]) (notIn []) rfl rfl (by kernel_rfl) (And.intro (decide_eq_false h0) (And.intro (decide_eq_false h0) (And.intro (decide_eq_false h0) (And.intro (decide_eq_false h1) (And.intro (decide_eq_false h1) (And.intro (decide_eq_false h1) (And.intro (decide_eq_false h2) (And.intro (decide_eq_false h2) (And.intro (decide_eq_false h2) (And.intro (decide_eq_false h1) (And.intro (decide_eq_false h2) (And.intro (decide_eq_false h1) (And.intro (Bool.eq_false_iff.mpr h3) (And.intro (Bool.eq_false_iff.mpr h4) (And.intro (Bool.eq_false_iff.mpr h4) (And.intro (Bool.eq_false_iff.mpr h4) (And.intro h5 (And.intro h5 (And.intro h5 (And.intro h5 True.intro))))))))))))))))))))
            · skip
              subst h
              exact call_pathL (gs := [.f, .f, .f, .f, .f, .f, .f, .f, .f, .f, .f, .f, .a, .f, .f, .f, .f, .f, .f, .f, .f]) (notIn []) rfl rfl (by kernel_rfl) (And.intro (decide_eq_false h0) (And.intro (decide_eq_false h0) (And.intro (decide_eq_false h0) (And.intro (decide_eq_false h1) (And.intro (decide_eq_false h1) (And.intro (decide_eq_false h1) (And.intro (decide_eq_false h2) (And.intro (decide_eq_false h2) (And.intro (decide_eq_false h2) (And.intro (decide_eq_false h1) (And.intro (decide_eq_false h2) (And.intro (decide_eq_false h1) (And.intro (Bool.eq_false_iff.mpr h3) (And.intro (Bool.eq_false_iff.mpr h4) (And.intro (Bool.eq_false_iff.mpr h4) (And.intro (Bool.eq_false_iff.mpr h4) (And.intro (Bool.eq_false_iff.mpr h5) (And.intro (Bool.eq_false_iff.mpr h5) (And.intro (Bool.eq_false_iff.mpr h5) (And.intro (Bool.eq_false_iff.mpr h5) True.intro))))))))))))))))))))
/-! ## 16 -/
noncomputable abbrev B16v1 : Code := (Try.f16.body).getD .skip
inductive R16v1_0 where
  | e0
  | e1 (l336 : List (List V))
@[reducible] def s16v1_0_0 (l319 : List (List V)) (z320 : Int) (z321 : Int) (z322 : Int) (b323 : Bool) (z324 : Int) (z325 : Int) (z326 : Int) (z327 : Int) (z328 : Int) (z329 : Int) (z330 : Int) (z331 : Int) (z332 : Int) (z333 : Int) (b334 : Bool) (b335 : Bool) : S := { T := V.list 10 l319 :: U :: vb false :: i64 z320 :: i64 z321 :: V.ptr 0 0 0 :: V.list 10 l319 :: i64 z322 :: i64 z321 :: vb b323 :: i64 z321 :: V.pp [i64 z324, u8 z325, u8 z326, u8 z327, u8 z328, i64 z329, i64 z330, i64 z331, i64 z332, i64 z333] :: V.agg [i64 z324, u8 z325, u8 z326, u8 z327, u8 z328, i64 z329, i64 z330, i64 z331, i64 z332, i64 z333] :: i64 z321 :: i64 z320 :: V.ptr 0 0 0 :: i64 z324 :: V.ptr 0 0 5 :: i64 z329 :: V.ptr 0 0 6 :: V.agg [i64 z330, i64 z331, i64 z332, i64 z333] :: vb b334 :: vb b335 :: un 6 [], σ := [Ob.cells true false 10 [[i64 z324, u8 z325, u8 z326, u8 z327, u8 z328, i64 z329, i64 z330, i64 z331, i64 z332, i64 z333]]] }
@[reducible] def s16v1_0_1 (l336 : List (List V)) (z337 : Int) (z338 : Int) (z339 : Int) (b340 : Bool) : S := { T := V.list 10 l336 :: U :: U :: i64 z337 :: U :: U :: V.list 10 l336 :: i64 z338 :: i64 z339 :: vb b340 :: un 19 [], σ := [] }
def R16v1_0.St : R16v1_0 → VX × S → Prop
  | .e0, p => ∃ l319 : List (List V), ∃ z320 : Int, ∃ z321 : Int, ∃ z322 : Int, ∃ b323 : Bool, ∃ z324 : Int, ∃ z325 : Int, ∃ z326 : Int, ∃ z327 : Int, ∃ z328 : Int, ∃ z329 : Int, ∃ z330 : Int, ∃ z331 : Int, ∃ z332 : Int, ∃ z333 : Int, ∃ b334 : Bool, ∃ b335 : Bool, p = (VX.ret, s16v1_0_0 l319 z320 z321 z322 b323 z324 z325 z326 z327 z328 z329 z330 z331 z332 z333 b334 b335)
  | .e1 l336, p => ∃ z337 : Int, ∃ z338 : Int, ∃ z339 : Int, ∃ b340 : Bool, p = (VX.exit 0, s16v1_0_1 l336 z337 z338 z339 b340)
def L16v1_0 : Nat → List (List V) → Int → Int → Int → Option R16v1_0
  | 0, _, _, _, _ => none
  | n + 1, l291, z292, z293, z294 =>
    if z294 < z293 then
     if 0 ≤ z294 then
      ((l291[Int.toNat z294]?).bind W33.dec).bind fun e317 =>
      bnd (F36 (z294) (z292) (e317.c0) (e317.c5) (e317.c6) (e317.c7) (e317.c8) (e317.c9)) fun b318 =>
      if (!b318) = true then
       some (R16v1_0.e0)
      else
       L16v1_0 n (l291) (e317.c0) (z293) (w64 (z294 + 1))
     else
      none -- none
    else
     some (R16v1_0.e1 (l291))
theorem L16v1_0_ok (m : Nat) : ∀ (n : Nat) (l291 : List (List V)) (z292 : Int) (z293 : Int) (z294 : Int) (r : R16v1_0), L16v1_0 n l291 z292 z293 z294 = some r → ∃ st, loopFrom Try.prog X (call Try.prog X O0 100000 (m + 3)) 16 (0) 100000 B16v1 0 n ({ T := V.list 10 l291 :: U :: U :: i64 z292 :: U :: U :: V.list 10 l291 :: i64 z293 :: i64 z294 :: un 20 [], σ := [] }) = some st ∧ r.St st
  | 0, _, _, _, _, r, h => by cases h
  | n + 1, l291, z292, z293, z294, r, h => by
    rw [L16v1_0] at h
    rcases ite_eq h with ⟨h0, h⟩ | ⟨h0, h⟩
    · skip
      rcases ite_eq h with ⟨h1, h⟩ | ⟨h1, h⟩
      · skip
        obtain ⟨e317, h2, h⟩ := Option.bind_eq_some_iff.mp h
        obtain ⟨b318, h3, h⟩ := bnd_eq h
        rcases ite_eq h with ⟨h4, h⟩ | ⟨h4, h⟩
        · skip
          cases h
          exact ⟨_, round_out (gs := [.t, .t, .el (W33.cells e317), .a, .a, .a, .a, .an (vb b318) [], .t]) (notIn []) (by kernel_rfl) rfl (And.intro (decide_eq_true h0) (And.intro (decide_eq_true h1) (And.intro (W33.dec_ok h2) (And.intro (F36_ok (m + 0) (z294) (z292) (e317.c0) (e317.c5) (e317.c6) (e317.c7) (e317.c8) (e317.c9) b318 h3) (And.intro h4 True.intro))))) n, l291, z292, z294, z293, decide (z294 < z293), e317.c0, e317.c1, e317.c2, e317.c3, e317.c4, e317.c5, e317.c6, e317.c7, e317.c8, e317.c9, b318, !b318, rfl⟩
        · skip
          obtain ⟨st, hs, hr⟩ := L16v1_0_ok m n (l291) (e317.c0) (z293) (w64 (z294 + 1)) r h
          exact ⟨st, (round_on (gs := [.t, .t, .el (W33.cells e317), .a, .a, .a, .a, .an (vb b318) [], .f, .a]) (notIn []) (by kernel_rfl) (And.intro (decide_eq_true h0) (And.intro (decide_eq_true h1) (And.intro (W33.dec_ok h2) (And.intro (F36_ok (m + 0) (z294) (z292) (e317.c0) (e317.c5) (e317.c6) (e317.c7) (e317.c8) (e317.c9) b318 h3) (And.intro (Bool.eq_false_iff.mpr h4) True.intro))))) n).trans hs, hr⟩
      · skip
        cases h
    · skip
      cases h
      exact ⟨_, round_out (gs := [.f]) (notIn []) (by kernel_rfl) rfl (And.intro (decide_eq_false h0) True.intro) n, z292, z293, z294, decide (z294 < z293), rfl⟩
inductive A16v1 where
  | a0 (b358 : Bool)
@[reducible] def A16v1.out : A16v1 → V × Store
  | .a0 b358 => (vb b358, [])
def F16v1 (l240 : List (List V)) : Option A16v1 :=
  (L16v1_0 100000 (l240) (0) ((↑(List.length l240) : Int)) (0)).bind fun r => match r with
  | .e0 =>
   some (A16v1.a0 (false))
  | .e1 l359 =>
   some (A16v1.a0 (decide ((↑(List.length l359) : Int) ≤ 32)))
theorem F16v1_ok (m : Nat) (l240 : List (List V)) (r : A16v1) (h : F16v1 l240 = some r) : call Try.prog X O0 100000 (m + 4) 16 ([V.list 10 l240]) ([]) = some r.out := by
  unfold F16v1 at h
  obtain ⟨r0, h0, h⟩ := Option.bind_eq_some_iff.mp h
  obtain ⟨st0, h0, hr0⟩ := L16v1_0_ok m 100000 (l240) (0) ((↑(List.length l240) : Int)) (0) r0 h0
  have h0 : loopRun Try.prog X (call Try.prog X O0 100000 (m + 3)) 16 (0) 100000 B16v1 0 ({ T := V.list 10 l240 :: U :: vb false :: i64 0 :: U :: U :: V.list 10 l240 :: i64 (↑(List.length l240) : Int) :: i64 0 :: un 20 [], σ := [] }) = some st0 := by
    rw [loopRun_from, show prep (0) (X.keep 16 0) ({ T := V.list 10 l240 :: U :: vb false :: i64 0 :: U :: U :: V.list 10 l240 :: i64 (↑(List.length l240) : Int) :: i64 0 :: un 20 [], σ := [] }) = { T := V.list 10 l240 :: U :: U :: i64 0 :: U :: U :: V.list 10 l240 :: i64 (↑(List.length l240) : Int) :: i64 0 :: un 20 [], σ := [] } by kernel_rfl]
    exact h0
  cases r0 with
  | e0 =>
    obtain ⟨l341, z342, z343, z344, b345, z346, z347, z348, z349, z350, z351, z352, z353, z354, z355, b356, b357, rfl⟩ := hr0
    cases h
    exact call_pathL (gs := [.lp (VX.ret) (s16v1_0_0 l341 z342 z343 z344 b345 z346 z347 z348 z349 z350 z351 z352 z353 z354 z355 b356 b357)]) (notIn []) rfl rfl (by kernel_rfl) (And.intro h0 True.intro)
  | e1 l359 =>
    obtain ⟨z360, z361, z362, b363, rfl⟩ := hr0
    cases h
    exact call_pathL (gs := [.lp (VX.exit 0) (s16v1_0_1 l359 z360 z361 z362 b363)]) (notIn []) rfl rfl (by kernel_rfl) (And.intro h0 True.intro)
/-! ## 97 -/
def F97 (z378 : Int) (z379 : Int) (z380 : Int) : Bool :=
  if z378 ≥ z379 then
   decide (z378 ≤ z380)
  else
   false
theorem F97_ok (m : Nat) (z378 : Int) (z379 : Int) (z380 : Int) (b383 : Bool) (h : F97 z378 z379 z380 = b383) : call Try.prog X O0 100000 (m + 1) 97 ([i64 z378, i64 z379, i64 z380]) ([]) = some (vb b383, []) := by
  unfold F97 at h
  rcases ite_eq h with ⟨h0, h⟩ | ⟨h0, h⟩
  · skip
    subst h
    exact call_pathL (gs := [.t, .t, .t, .t]) (notIn []) rfl rfl (by kernel_rfl) (And.intro (decide_eq_true h0) (And.intro (decide_eq_true h0) (And.intro (decide_eq_true h0) (And.intro (decide_eq_true h0) True.intro))))
  · skip
    subst h
    exact call_pathL (gs := [.f, .f, .f, .f]) (notIn []) rfl rfl (by kernel_rfl) (And.intro (decide_eq_false h0) (And.intro (decide_eq_false h0) (And.intro (decide_eq_false h0) (And.intro (decide_eq_false h0) True.intro))))
/-! ## 98 -/
def F98 (z386 : Int) (z387 : Int) (z388 : Int) (z389 : Int) : Bool :=
  bnd (F97 (z386) (0) (65536)) fun b391 =>
  if (b391) = true then
   bnd (F97 (z388) (0) (65536)) fun b392 =>
   if (b392) = true then
    bnd (F97 (z387) (-131072) (196608)) fun b393 =>
    if (b393) = true then
     bnd (F97 (z389) (-131072) (196608)) fun b394 =>
     b394
    else
     false
   else
    false
  else
   false
theorem F98_ok (m : Nat) (z386 : Int) (z387 : Int) (z388 : Int) (z389 : Int) (b396 : Bool) (h : F98 z386 z387 z388 z389 = b396) : call Try.prog X O0 100000 (m + 2) 98 ([V.agg [i64 z386, i64 z387, i64 z388, i64 z389]]) ([]) = some (vb b396, []) := by
  unfold F98 at h
  obtain ⟨b391, h0, h⟩ := bnd_eq h
  rcases ite_eq h with ⟨h1, h⟩ | ⟨h1, h⟩
  · skip
    obtain ⟨b392, h2, h⟩ := bnd_eq h
    rcases ite_eq h with ⟨h3, h⟩ | ⟨h3, h⟩
    · skip
      obtain ⟨b393, h4, h⟩ := bnd_eq h
      rcases ite_eq h with ⟨h5, h⟩ | ⟨h5, h⟩
      · skip
        obtain ⟨b394, h6, h⟩ := bnd_eq h
        subst h
        exact call_pathL (gs := [.a, .an (vb b391) [], .t, .t, .a, .t, .an (vb b392) [], .t, .t, .t, .a, .t, .an (vb b393) [], .t, .t, .t, .a, .t, .an (vb b394) [], .t]) (notIn []) rfl rfl (by kernel_rfl) (And.intro (F97_ok (m + 0) (z386) (0) (65536) b391 h0) (And.intro h1 (And.intro h1 (And.intro h1 (And.intro (F97_ok (m + 0) (z388) (0) (65536) b392 h2) (And.intro h1 (And.intro h3 (And.intro h3 (And.intro h3 (And.intro (F97_ok (m + 0) (z387) (-131072) (196608) b393 h4) (And.intro h3 (And.intro h5 (And.intro h5 (And.intro h5 (And.intro (F97_ok (m + 0) (z389) (-131072) (196608) b394 h6) (And.intro h5 True.intro))))))))))))))))
      · skip
        subst h
        exact call_pathL (gs := [.a, .an (vb b391) [], .t, .t, .a, .t, .an (vb b392) [], .t, .t, .t, .a, .t, .an (vb b393) [], .t, .f, .f, .f, .f]) (notIn []) rfl rfl (by kernel_rfl) (And.intro (F97_ok (m + 0) (z386) (0) (65536) b391 h0) (And.intro h1 (And.intro h1 (And.intro h1 (And.intro (F97_ok (m + 0) (z388) (0) (65536) b392 h2) (And.intro h1 (And.intro h3 (And.intro h3 (And.intro h3 (And.intro (F97_ok (m + 0) (z387) (-131072) (196608) b393 h4) (And.intro h3 (And.intro (Bool.eq_false_iff.mpr h5) (And.intro (Bool.eq_false_iff.mpr h5) (And.intro (Bool.eq_false_iff.mpr h5) (And.intro (Bool.eq_false_iff.mpr h5) True.intro)))))))))))))))
    · skip
      subst h
      exact call_pathL (gs := [.a, .an (vb b391) [], .t, .t, .a, .t, .an (vb b392) [], .t, .f, .f, .f, .f, .a, .a, .a, .a]) (notIn []) rfl rfl (by kernel_rfl) (And.intro (F97_ok (m + 0) (z386) (0) (65536) b391 h0) (And.intro h1 (And.intro h1 (And.intro h1 (And.intro (F97_ok (m + 0) (z388) (0) (65536) b392 h2) (And.intro h1 (And.intro (Bool.eq_false_iff.mpr h3) (And.intro (Bool.eq_false_iff.mpr h3) (And.intro (Bool.eq_false_iff.mpr h3) (And.intro (Bool.eq_false_iff.mpr h3) True.intro))))))))))
  · skip
    subst h
    exact call_pathL (gs := [.a, .an (vb b391) [], .f, .f, .f, .f, .a, .a, .a, .a, .a, .a, .a, .a]) (notIn []) rfl rfl (by kernel_rfl) (And.intro (F97_ok (m + 0) (z386) (0) (65536) b391 h0) (And.intro (Bool.eq_false_iff.mpr h1) (And.intro (Bool.eq_false_iff.mpr h1) (And.intro (Bool.eq_false_iff.mpr h1) (And.intro (Bool.eq_false_iff.mpr h1) True.intro)))))
/-! ## 71 -/
def F71 (z371 : Int) (z372 : Int) (z373 : Int) (z374 : Int) (z375 : Int) (z376 : Int) : Bool :=
  bnd (F97 (z371) (-1073741824) (1073741824)) fun b384 =>
  if (!b384) = true then
   false
  else
   if (z372 == 2) = true then
    bnd (F98 (z373) (z374) (z375) (z376)) fun b397 =>
    b397
   else
    if (z372 == 0) = true then
     z373 == 0 && (z374 == 0 && (z375 == 0 && (z376 == 0 && true)))
    else
     if (z372 == 1) = true then
      z373 == 0 && (z374 == 0 && (z375 == 0 && (z376 == 0 && true)))
     else
      false
theorem F71_ok (m : Nat) (z371 : Int) (z372 : Int) (z373 : Int) (z374 : Int) (z375 : Int) (z376 : Int) (b398 : Bool) (h : F71 z371 z372 z373 z374 z375 z376 = b398) : call Try.prog X O0 100000 (m + 3) 71 ([i64 z371, i64 z372, V.agg [i64 z373, i64 z374, i64 z375, i64 z376]]) ([]) = some (vb b398, []) := by
  unfold F71 at h
  obtain ⟨b384, h0, h⟩ := bnd_eq h
  rcases ite_eq h with ⟨h1, h⟩ | ⟨h1, h⟩
  · skip
    subst h
    exact call_pathL (gs := [.an (vb b384) [], .t]) (notIn []) rfl rfl (by kernel_rfl) (And.intro (F97_ok (m + 1) (z371) (-1073741824) (1073741824) b384 h0) (And.intro h1 True.intro))
  · skip
    rcases ite_eq h with ⟨h2, h⟩ | ⟨h2, h⟩
    · skip
      obtain ⟨b397, h3, h⟩ := bnd_eq h
      subst h
      exact call_pathL (gs := [.an (vb b384) [], .f, .t, .a, .an (vb b397) []]) (notIn []) rfl rfl (by kernel_rfl) (And.intro (F97_ok (m + 1) (z371) (-1073741824) (1073741824) b384 h0) (And.intro (Bool.eq_false_iff.mpr h1) (And.intro h2 (And.intro (F98_ok (m + 0) (z373) (z374) (z375) (z376) b397 h3) True.intro))))
    · skip
      rcases ite_eq h with ⟨h3, h⟩ | ⟨h3, h⟩
      · skip
        subst h
        exact call_pathL (gs := [.an (vb b384) [], .f, .f, .t, .t, .t, .a, .a, .a, .a, .a]) (notIn []) rfl rfl (by kernel_rfl) (And.intro (F97_ok (m + 1) (z371) (-1073741824) (1073741824) b384 h0) (And.intro (Bool.eq_false_iff.mpr h1) (And.intro (Bool.eq_false_iff.mpr h2) (And.intro h3 (And.intro h3 (And.intro h3 True.intro))))))
      · skip
        rcases ite_eq h with ⟨h4, h⟩ | ⟨h4, h⟩
        · skip
          subst h
          exact call_pathL (gs := [.an (vb b384) [], .f, .f, .f, .f, .f, .t, .a, .t, .t, .t]) (notIn []) rfl rfl (by kernel_rfl) (And.intro (F97_ok (m + 1) (z371) (-1073741824) (1073741824) b384 h0) (And.intro (Bool.eq_false_iff.mpr h1) (And.intro (Bool.eq_false_iff.mpr h2) (And.intro (Bool.eq_false_iff.mpr h3) (And.intro (Bool.eq_false_iff.mpr h3) (And.intro (Bool.eq_false_iff.mpr h3) (And.intro h4 (And.intro h4 (And.intro h4 (And.intro h4 True.intro))))))))))
        · skip
          subst h
          exact call_pathL (gs := [.an (vb b384) [], .f, .f, .f, .f, .f, .f, .f, .f, .f]) (notIn []) rfl rfl (by kernel_rfl) (And.intro (F97_ok (m + 1) (z371) (-1073741824) (1073741824) b384 h0) (And.intro (Bool.eq_false_iff.mpr h1) (And.intro (Bool.eq_false_iff.mpr h2) (And.intro (Bool.eq_false_iff.mpr h3) (And.intro (Bool.eq_false_iff.mpr h3) (And.intro (Bool.eq_false_iff.mpr h3) (And.intro (Bool.eq_false_iff.mpr h4) (And.intro (Bool.eq_false_iff.mpr h4) (And.intro (Bool.eq_false_iff.mpr h4) (And.intro (Bool.eq_false_iff.mpr h4) True.intro))))))))))
/-! ## 44 -/
noncomputable abbrev B44v1 : Code := (Try.f44.body).getD .skip
inductive R44v1_0 where
  | e0
  | e1
  | e2 (l580 : List (List V))
@[reducible] def s44v1_0_0 (l483 : List (List V)) (z484 : Int) (z485 : Int) (b486 : Bool) (z487 : Int) (z488 : Int) (z489 : Int) (z490 : Int) (z491 : Int) (z492 : Int) (z493 : Int) (z494 : Int) (z495 : Int) (z496 : Int) (z497 : Int) (z498 : Int) (z499 : Int) (z500 : Int) (z501 : Int) (z502 : Int) (z503 : Int) (z504 : Int) (z505 : Int) (z506 : Int) (z507 : Int) (z508 : Int) (z509 : Int) (z510 : Int) (z511 : Int) (z512 : Int) (z513 : Int) (z514 : Int) (z515 : Int) (z516 : Int) (b517 : Bool) (b518 : Bool) : S := { T := [V.list 10 l483, U, vb false, i64 z484, i64 z484, V.list 10 l483, i64 z485, vb b486, U, U, V.list 10 l483, i64 z484, V.pp [i64 z487, u8 z488, u8 z489, u8 z490, u8 z491, i64 z492, i64 z493, i64 z494, i64 z495, i64 z496], V.pp [i64 z487, u8 z488, u8 z489, u8 z490, u8 z491, i64 z492, i64 z493, i64 z494, i64 z495, i64 z496], i64 z487, V.list 10 l483, i64 z484, V.pp [i64 z497, u8 z498, u8 z499, u8 z500, u8 z501, i64 z502, i64 z503, i64 z504, i64 z505, i64 z506], V.pp [i64 z502, i64 z503, i64 z504, i64 z505, i64 z506], i64 z502, V.list 10 l483, i64 z484, V.pp [i64 z507, u8 z508, u8 z509, u8 z510, u8 z511, i64 z512, i64 z513, i64 z514, i64 z515, i64 z516], V.pp [i64 z513, i64 z514, i64 z515, i64 z516], V.agg [i64 z513, i64 z514, i64 z515, i64 z516], vb b517, vb b518, vb b518, E, E, E, E, E, E, E, E, E, E, E, E, E, E, E, E, vb true, U, U, U], σ := [] }
@[reducible] def s44v1_0_1 (l521 : List (List V)) (z522 : Int) (z523 : Int) (b524 : Bool) (z525 : Int) (z526 : Int) (z527 : Int) (z528 : Int) (z529 : Int) (z530 : Int) (z531 : Int) (z532 : Int) (z533 : Int) (z534 : Int) (z535 : Int) (z536 : Int) (z537 : Int) (z538 : Int) (z539 : Int) (z540 : Int) (z541 : Int) (z542 : Int) (z543 : Int) (z544 : Int) (z545 : Int) (z546 : Int) (z547 : Int) (z548 : Int) (z549 : Int) (z550 : Int) (z551 : Int) (z552 : Int) (z553 : Int) (z554 : Int) (b555 : Bool) (b556 : Bool) (b557 : Bool) (z558 : Int) (z559 : Int) (z560 : Int) (z561 : Int) (z562 : Int) (z563 : Int) (z564 : Int) (z565 : Int) (z566 : Int) (z567 : Int) (z568 : Int) (z569 : Int) (z570 : Int) (z571 : Int) (z572 : Int) (z573 : Int) (z574 : Int) (z575 : Int) (z576 : Int) (z577 : Int) (z578 : Int) (b579 : Bool) : S := { T := [V.list 10 l521, U, vb false, i64 z522, i64 z522, V.list 10 l521, i64 z523, vb b524, U, U, V.list 10 l521, i64 z522, V.pp [i64 z525, u8 z526, u8 z527, u8 z528, u8 z529, i64 z530, i64 z531, i64 z532, i64 z533, i64 z534], V.pp [i64 z525, u8 z526, u8 z527, u8 z528, u8 z529, i64 z530, i64 z531, i64 z532, i64 z533, i64 z534], i64 z525, V.list 10 l521, i64 z522, V.pp [i64 z535, u8 z536, u8 z537, u8 z538, u8 z539, i64 z540, i64 z541, i64 z542, i64 z543, i64 z544], V.pp [i64 z540, i64 z541, i64 z542, i64 z543, i64 z544], i64 z540, V.list 10 l521, i64 z522, V.pp [i64 z545, u8 z546, u8 z547, u8 z548, u8 z549, i64 z550, i64 z551, i64 z552, i64 z553, i64 z554], V.pp [i64 z551, i64 z552, i64 z553, i64 z554], V.agg [i64 z551, i64 z552, i64 z553, i64 z554], vb b555, vb b556, vb b556, i64 z522, vb b557, vb b557, V.list 10 l521, i64 z522, i64 z558, V.pp [i64 z559, u8 z560, u8 z561, u8 z562, u8 z563, i64 z564, i64 z565, i64 z566, i64 z567, i64 z568], V.pp [i64 z559, u8 z560, u8 z561, u8 z562, u8 z563, i64 z564, i64 z565, i64 z566, i64 z567, i64 z568], i64 z559, V.list 10 l521, i64 z522, V.pp [i64 z569, u8 z570, u8 z571, u8 z572, u8 z573, i64 z574, i64 z575, i64 z576, i64 z577, i64 z578], V.pp [i64 z569, u8 z570, u8 z571, u8 z572, u8 z573, i64 z574, i64 z575, i64 z576, i64 z577, i64 z578], i64 z569, vb b579, vb b579, vb b579, U, U, U], σ := [] }
@[reducible] def s44v1_0_2 (l580 : List (List V)) (z581 : Int) (z582 : Int) (b583 : Bool) : S := { T := V.list 10 l580 :: U :: U :: i64 z581 :: i64 z581 :: V.list 10 l580 :: i64 z582 :: vb b583 :: un 40 [], σ := [] }
def R44v1_0.St : R44v1_0 → VX × S → Prop
  | .e0, p => ∃ l483 : List (List V), ∃ z484 : Int, ∃ z485 : Int, ∃ b486 : Bool, ∃ z487 : Int, ∃ z488 : Int, ∃ z489 : Int, ∃ z490 : Int, ∃ z491 : Int, ∃ z492 : Int, ∃ z493 : Int, ∃ z494 : Int, ∃ z495 : Int, ∃ z496 : Int, ∃ z497 : Int, ∃ z498 : Int, ∃ z499 : Int, ∃ z500 : Int, ∃ z501 : Int, ∃ z502 : Int, ∃ z503 : Int, ∃ z504 : Int, ∃ z505 : Int, ∃ z506 : Int, ∃ z507 : Int, ∃ z508 : Int, ∃ z509 : Int, ∃ z510 : Int, ∃ z511 : Int, ∃ z512 : Int, ∃ z513 : Int, ∃ z514 : Int, ∃ z515 : Int, ∃ z516 : Int, ∃ b517 : Bool, ∃ b518 : Bool, p = (VX.ret, s44v1_0_0 l483 z484 z485 b486 z487 z488 z489 z490 z491 z492 z493 z494 z495 z496 z497 z498 z499 z500 z501 z502 z503 z504 z505 z506 z507 z508 z509 z510 z511 z512 z513 z514 z515 z516 b517 b518)
  | .e1, p => ∃ l521 : List (List V), ∃ z522 : Int, ∃ z523 : Int, ∃ b524 : Bool, ∃ z525 : Int, ∃ z526 : Int, ∃ z527 : Int, ∃ z528 : Int, ∃ z529 : Int, ∃ z530 : Int, ∃ z531 : Int, ∃ z532 : Int, ∃ z533 : Int, ∃ z534 : Int, ∃ z535 : Int, ∃ z536 : Int, ∃ z537 : Int, ∃ z538 : Int, ∃ z539 : Int, ∃ z540 : Int, ∃ z541 : Int, ∃ z542 : Int, ∃ z543 : Int, ∃ z544 : Int, ∃ z545 : Int, ∃ z546 : Int, ∃ z547 : Int, ∃ z548 : Int, ∃ z549 : Int, ∃ z550 : Int, ∃ z551 : Int, ∃ z552 : Int, ∃ z553 : Int, ∃ z554 : Int, ∃ b555 : Bool, ∃ b556 : Bool, ∃ b557 : Bool, ∃ z558 : Int, ∃ z559 : Int, ∃ z560 : Int, ∃ z561 : Int, ∃ z562 : Int, ∃ z563 : Int, ∃ z564 : Int, ∃ z565 : Int, ∃ z566 : Int, ∃ z567 : Int, ∃ z568 : Int, ∃ z569 : Int, ∃ z570 : Int, ∃ z571 : Int, ∃ z572 : Int, ∃ z573 : Int, ∃ z574 : Int, ∃ z575 : Int, ∃ z576 : Int, ∃ z577 : Int, ∃ z578 : Int, ∃ b579 : Bool, p = (VX.ret, s44v1_0_1 l521 z522 z523 b524 z525 z526 z527 z528 z529 z530 z531 z532 z533 z534 z535 z536 z537 z538 z539 z540 z541 z542 z543 z544 z545 z546 z547 z548 z549 z550 z551 z552 z553 z554 b555 b556 b557 z558 z559 z560 z561 z562 z563 z564 z565 z566 z567 z568 z569 z570 z571 z572 z573 z574 z575 z576 z577 z578 b579)
  | .e2 l580, p => ∃ z581 : Int, ∃ z582 : Int, ∃ b583 : Bool, p = (VX.exit 0, s44v1_0_2 l580 z581 z582 b583)
def L44v1_0 : Nat → List (List V) → Int → Option R44v1_0
  | 0, _, _ => none
  | n + 1, l435, z436 =>
    if z436 < (↑(List.length l435) : Int) then
     if 0 ≤ z436 then
      ((l435[Int.toNat z436]?).bind W33.dec).bind fun e479 =>
      ((l435[Int.toNat z436]?).bind W33.dec).bind fun e480 =>
      ((l435[Int.toNat z436]?).bind W33.dec).bind fun e481 =>
      bnd (F71 (e479.c0) (e480.c5) (e481.c6) (e481.c7) (e481.c8) (e481.c9)) fun b482 =>
      if (!b482) = true then
       some (R44v1_0.e0)
      else
       if z436 > 0 then
        if 0 ≤ w64 (z436 - 1) then
         ((l435[Int.toNat (w64 (z436 - (1 : Int)))]?).bind W33.dec).bind fun e519 =>
         ((l435[Int.toNat z436]?).bind W33.dec).bind fun e520 =>
         if e519.c0 ≥ e520.c0 then
          some (R44v1_0.e1)
         else
          L44v1_0 n (l435) (w64 (z436 + 1))
        else
         none -- none
       else
        L44v1_0 n (l435) (w64 (z436 + 1))
     else
      none -- none
    else
     some (R44v1_0.e2 (l435))
theorem L44v1_0_ok (m : Nat) : ∀ (n : Nat) (l435 : List (List V)) (z436 : Int) (r : R44v1_0), L44v1_0 n l435 z436 = some r → ∃ st, loopFrom Try.prog X (call Try.prog X O0 100000 (m + 3)) 44 (0) 100000 B44v1 0 n ({ T := V.list 10 l435 :: U :: U :: i64 z436 :: un 44 [], σ := [] }) = some st ∧ r.St st
  | 0, _, _, r, h => by cases h
  | n + 1, l435, z436, r, h => by
    rw [L44v1_0] at h
    rcases ite_eq h with ⟨h0, h⟩ | ⟨h0, h⟩
    · skip
      rcases ite_eq h with ⟨h1, h⟩ | ⟨h1, h⟩
      · skip
        obtain ⟨e479, h2, h⟩ := Option.bind_eq_some_iff.mp h
        obtain ⟨e480, h3, h⟩ := Option.bind_eq_some_iff.mp h
        obtain ⟨e481, h4, h⟩ := Option.bind_eq_some_iff.mp h
        obtain ⟨b482, h5, h⟩ := bnd_eq h
        rcases ite_eq h with ⟨h6, h⟩ | ⟨h6, h⟩
        · skip
          cases h
          exact ⟨_, round_out (gs := [.t, .t, .el (W33.cells e479), .t, .el (W33.cells e480), .t, .el (W33.cells e481), .an (vb b482) [], .t, .t, .t, .t, .t, .ft [⟨0, [], []⟩, ⟨1, [], []⟩, ⟨2, [], []⟩, ⟨3, [], []⟩, ⟨4, [], []⟩, ⟨5, [], []⟩, ⟨6, [], []⟩, ⟨7, [], []⟩, ⟨8, [], []⟩, ⟨9, [], []⟩, ⟨10, [], []⟩, ⟨11, [], []⟩, ⟨12, [], []⟩, ⟨13, [], []⟩, ⟨14, [], []⟩, ⟨15, [], []⟩, ⟨16, [], []⟩, ⟨17, [], []⟩, ⟨18, [], []⟩, ⟨19, [], []⟩, ⟨20, [], []⟩, ⟨21, [], []⟩, ⟨22, [], []⟩, ⟨23, [], []⟩, ⟨24, [], []⟩, ⟨25, [], []⟩, ⟨26, [], []⟩, ⟨27, [], []⟩, ⟨28, [], []⟩, ⟨29, [], []⟩, ⟨30, [], []⟩, ⟨31, [], []⟩, ⟨32, [], []⟩, ⟨33, [], []⟩, ⟨34, [], []⟩], .a]) (notIn []) (by kernel_rfl) rfl (And.intro (decide_eq_true h0) (And.intro (decide_eq_true h1) (And.intro (W33.dec_ok h2) (And.intro (decide_eq_true h1) (And.intro (W33.dec_ok h3) (And.intro (decide_eq_true h1) (And.intro (W33.dec_ok h4) (And.intro (F71_ok (m + 0) (e479.c0) (e480.c5) (e481.c6) (e481.c7) (e481.c8) (e481.c9) b482 h5) (And.intro h6 (And.intro h6 (And.intro h6 (And.intro h6 (And.intro h6 (And.intro (Eq.refl ([⟨0, [], []⟩, ⟨1, [], []⟩, ⟨2, [], []⟩, ⟨3, [], []⟩, ⟨4, [], []⟩, ⟨5, [], []⟩, ⟨6, [], []⟩, ⟨7, [], []⟩, ⟨8, [], []⟩, ⟨9, [], []⟩, ⟨10, [], []⟩, ⟨11, [], []⟩, ⟨12, [], []⟩, ⟨13, [], []⟩, ⟨14, [], []⟩, ⟨15, [], []⟩, ⟨16, [], []⟩, ⟨17, [], []⟩, ⟨18, [], []⟩, ⟨19, [], []⟩, ⟨20, [], []⟩, ⟨21, [], []⟩, ⟨22, [], []⟩, ⟨23, [], []⟩, ⟨24, [], []⟩, ⟨25, [], []⟩, ⟨26, [], []⟩, ⟨27, [], []⟩, ⟨28, [], []⟩, ⟨29, [], []⟩, ⟨30, [], []⟩, ⟨31, [], []⟩, ⟨32, [], []⟩, ⟨33, [], []⟩, ⟨34, [], []⟩] : List Foot)) True.intro)))))))))))))) n, l435, z436, (↑(List.length l435) : Int), decide (z436 < (↑(List.length l435) : Int)), e479.c0, e479.c1, e479.c2, e479.c3, e479.c4, e479.c5, e479.c6, e479.c7, e479.c8, e479.c9, e480.c0, e480.c1, e480.c2, e480.c3, e480.c4, e480.c5, e480.c6, e480.c7, e480.c8, e480.c9, e481.c0, e481.c1, e481.c2, e481.c3, e481.c4, e481.c5, e481.c6, e481.c7, e481.c8, e481.c9, b482, !b482, rfl⟩
        · skip
          rcases ite_eq h with ⟨h7, h⟩ | ⟨h7, h⟩
          · skip
            rcases ite_eq h with ⟨h8, h⟩ | ⟨h8, h⟩
            · skip
              obtain ⟨e519, h9, h⟩ := Option.bind_eq_some_iff.mp h
              obtain ⟨e520, h10, h⟩ := Option.bind_eq_some_iff.mp h
              rcases ite_eq h with ⟨h11, h⟩ | ⟨h11, h⟩
              · skip
                cases h
                exact ⟨_, round_out (gs := [.t, .t, .el (W33.cells e479), .t, .el (W33.cells e480), .t, .el (W33.cells e481), .an (vb b482) [], .f, .f, .f, .t, .t, .t, .t, .t, .el (W33.cells e519), .t, .t, .t, .t, .t, .t, .el (W33.cells e520), .t, .t, .t, .f, .t, .f, .ft [⟨0, [], []⟩, ⟨1, [], []⟩, ⟨2, [], []⟩, ⟨3, [], []⟩, ⟨4, [], []⟩, ⟨5, [], []⟩, ⟨6, [], []⟩, ⟨7, [], []⟩, ⟨8, [], []⟩, ⟨9, [], []⟩, ⟨10, [], []⟩, ⟨11, [], []⟩, ⟨12, [], []⟩, ⟨13, [], []⟩, ⟨14, [], []⟩, ⟨15, [], []⟩, ⟨16, [], []⟩, ⟨17, [], []⟩, ⟨18, [], []⟩, ⟨19, [], []⟩, ⟨20, [], []⟩, ⟨21, [], []⟩, ⟨22, [], []⟩, ⟨23, [], []⟩, ⟨24, [], []⟩, ⟨25, [], []⟩, ⟨26, [], []⟩, ⟨27, [], []⟩, ⟨28, [], []⟩, ⟨29, [], []⟩, ⟨30, [], []⟩, ⟨31, [], []⟩, ⟨32, [], []⟩, ⟨33, [], []⟩, ⟨34, [], []⟩], .t]) (notIn []) (by kernel_rfl) rfl (And.intro (decide_eq_true h0) (And.intro (decide_eq_true h1) (And.intro (W33.dec_ok h2) (And.intro (decide_eq_true h1) (And.intro (W33.dec_ok h3) (And.intro (decide_eq_true h1) (And.intro (W33.dec_ok h4) (And.intro (F71_ok (m + 0) (e479.c0) (e480.c5) (e481.c6) (e481.c7) (e481.c8) (e481.c9) b482 h5) (And.intro (Bool.eq_false_iff.mpr h6) (And.intro (Bool.eq_false_iff.mpr h6) (And.intro (Bool.eq_false_iff.mpr h6) (And.intro (decide_eq_true h7) (And.intro (decide_eq_true h7) (And.intro (decide_eq_true h7) (And.intro (decide_eq_true h7) (And.intro (decide_eq_true h8) (And.intro (W33.dec_ok h9) (And.intro (decide_eq_true h7) (And.intro (decide_eq_true h7) (And.intro (decide_eq_true h7) (And.intro (decide_eq_true h7) (And.intro (decide_eq_true h7) (And.intro (decide_eq_true h1) (And.intro (W33.dec_ok h10) (And.intro (decide_eq_true h7) (And.intro (decide_eq_true h7) (And.intro (decide_eq_true h7) (And.intro (Bool.eq_false_iff.mpr h6) (And.intro (decide_eq_true h7) (And.intro (Bool.eq_false_iff.mpr h6) (And.intro (Eq.refl ([⟨0, [], []⟩, ⟨1, [], []⟩, ⟨2, [], []⟩, ⟨3, [], []⟩, ⟨4, [], []⟩, ⟨5, [], []⟩, ⟨6, [], []⟩, ⟨7, [], []⟩, ⟨8, [], []⟩, ⟨9, [], []⟩, ⟨10, [], []⟩, ⟨11, [], []⟩, ⟨12, [], []⟩, ⟨13, [], []⟩, ⟨14, [], []⟩, ⟨15, [], []⟩, ⟨16, [], []⟩, ⟨17, [], []⟩, ⟨18, [], []⟩, ⟨19, [], []⟩, ⟨20, [], []⟩, ⟨21, [], []⟩, ⟨22, [], []⟩, ⟨23, [], []⟩, ⟨24, [], []⟩, ⟨25, [], []⟩, ⟨26, [], []⟩, ⟨27, [], []⟩, ⟨28, [], []⟩, ⟨29, [], []⟩, ⟨30, [], []⟩, ⟨31, [], []⟩, ⟨32, [], []⟩, ⟨33, [], []⟩, ⟨34, [], []⟩] : List Foot)) (And.intro (decide_eq_true h11) True.intro)))))))))))))))))))))))))))))))) n, l435, z436, (↑(List.length l435) : Int), decide (z436 < (↑(List.length l435) : Int)), e479.c0, e479.c1, e479.c2, e479.c3, e479.c4, e479.c5, e479.c6, e479.c7, e479.c8, e479.c9, e480.c0, e480.c1, e480.c2, e480.c3, e480.c4, e480.c5, e480.c6, e480.c7, e480.c8, e480.c9, e481.c0, e481.c1, e481.c2, e481.c3, e481.c4, e481.c5, e481.c6, e481.c7, e481.c8, e481.c9, b482, !b482, decide (z436 > 0), w64 (z436 - 1), e519.c0, e519.c1, e519.c2, e519.c3, e519.c4, e519.c5, e519.c6, e519.c7, e519.c8, e519.c9, e520.c0, e520.c1, e520.c2, e520.c3, e520.c4, e520.c5, e520.c6, e520.c7, e520.c8, e520.c9, decide (e519.c0 ≥ e520.c0), rfl⟩
              · skip
                obtain ⟨st, hs, hr⟩ := L44v1_0_ok m n (l435) (w64 (z436 + 1)) r h
                exact ⟨st, (round_on (gs := [.t, .t, .el (W33.cells e479), .t, .el (W33.cells e480), .t, .el (W33.cells e481), .an (vb b482) [], .f, .f, .f, .t, .t, .t, .t, .t, .el (W33.cells e519), .t, .t, .t, .t, .t, .t, .el (W33.cells e520), .t, .t, .t, .f, .t, .f, .ft [⟨0, [], []⟩, ⟨1, [], []⟩, ⟨2, [], []⟩, ⟨3, [], []⟩, ⟨4, [], []⟩, ⟨5, [], []⟩, ⟨6, [], []⟩, ⟨7, [], []⟩, ⟨8, [], []⟩, ⟨9, [], []⟩, ⟨10, [], []⟩, ⟨11, [], []⟩, ⟨12, [], []⟩, ⟨13, [], []⟩, ⟨14, [], []⟩, ⟨15, [], []⟩, ⟨16, [], []⟩, ⟨17, [], []⟩, ⟨18, [], []⟩, ⟨19, [], []⟩, ⟨20, [], []⟩, ⟨21, [], []⟩, ⟨22, [], []⟩, ⟨23, [], []⟩, ⟨24, [], []⟩, ⟨25, [], []⟩, ⟨26, [], []⟩, ⟨27, [], []⟩, ⟨28, [], []⟩, ⟨29, [], []⟩, ⟨30, [], []⟩, ⟨31, [], []⟩, ⟨32, [], []⟩, ⟨33, [], []⟩, ⟨34, [], []⟩], .f]) (notIn []) (by kernel_rfl) (And.intro (decide_eq_true h0) (And.intro (decide_eq_true h1) (And.intro (W33.dec_ok h2) (And.intro (decide_eq_true h1) (And.intro (W33.dec_ok h3) (And.intro (decide_eq_true h1) (And.intro (W33.dec_ok h4) (And.intro (F71_ok (m + 0) (e479.c0) (e480.c5) (e481.c6) (e481.c7) (e481.c8) (e481.c9) b482 h5) (And.intro (Bool.eq_false_iff.mpr h6) (And.intro (Bool.eq_false_iff.mpr h6) (And.intro (Bool.eq_false_iff.mpr h6) (And.intro (decide_eq_true h7) (And.intro (decide_eq_true h7) (And.intro (decide_eq_true h7) (And.intro (decide_eq_true h7) (And.intro (decide_eq_true h8) (And.intro (W33.dec_ok h9) (And.intro (decide_eq_true h7) (And.intro (decide_eq_true h7) (And.intro (decide_eq_true h7) (And.intro (decide_eq_true h7) (And.intro (decide_eq_true h7) (And.intro (decide_eq_true h1) (And.intro (W33.dec_ok h10) (And.intro (decide_eq_true h7) (And.intro (decide_eq_true h7) (And.intro (decide_eq_true h7) (And.intro (Bool.eq_false_iff.mpr h6) (And.intro (decide_eq_true h7) (And.intro (Bool.eq_false_iff.mpr h6) (And.intro (Eq.refl ([⟨0, [], []⟩, ⟨1, [], []⟩, ⟨2, [], []⟩, ⟨3, [], []⟩, ⟨4, [], []⟩, ⟨5, [], []⟩, ⟨6, [], []⟩, ⟨7, [], []⟩, ⟨8, [], []⟩, ⟨9, [], []⟩, ⟨10, [], []⟩, ⟨11, [], []⟩, ⟨12, [], []⟩, ⟨13, [], []⟩, ⟨14, [], []⟩, ⟨15, [], []⟩, ⟨16, [], []⟩, ⟨17, [], []⟩, ⟨18, [], []⟩, ⟨19, [], []⟩, ⟨20, [], []⟩, ⟨21, [], []⟩, ⟨22, [], []⟩, ⟨23, [], []⟩, ⟨24, [], []⟩, ⟨25, [], []⟩, ⟨26, [], []⟩, ⟨27, [], []⟩, ⟨28, [], []⟩, ⟨29, [], []⟩, ⟨30, [], []⟩, ⟨31, [], []⟩, ⟨32, [], []⟩, ⟨33, [], []⟩, ⟨34, [], []⟩] : List Foot)) (And.intro (decide_eq_false h11) True.intro)))))))))))))))))))))))))))))))) n).trans hs, hr⟩
            · skip
              cases h
          · skip
            obtain ⟨st, hs, hr⟩ := L44v1_0_ok m n (l435) (w64 (z436 + 1)) r h
            exact ⟨st, (round_on (gs := [.t, .t, .el (W33.cells e479), .t, .el (W33.cells e480), .t, .el (W33.cells e481), .an (vb b482) [], .f, .f, .f, .f, .f, .f, .f, .f, .f, .f, .f, .f, .f, .f, .f, .f, .f, .f, .ft [⟨0, [], []⟩, ⟨1, [], []⟩, ⟨2, [], []⟩, ⟨3, [], []⟩, ⟨4, [], []⟩, ⟨5, [], []⟩, ⟨6, [], []⟩, ⟨7, [], []⟩, ⟨8, [], []⟩, ⟨9, [], []⟩, ⟨10, [], []⟩, ⟨11, [], []⟩, ⟨12, [], []⟩, ⟨13, [], []⟩, ⟨14, [], []⟩, ⟨15, [], []⟩, ⟨16, [], []⟩, ⟨17, [], []⟩, ⟨18, [], []⟩, ⟨19, [], []⟩, ⟨20, [], []⟩, ⟨21, [], []⟩, ⟨22, [], []⟩, ⟨23, [], []⟩, ⟨24, [], []⟩, ⟨25, [], []⟩, ⟨26, [], []⟩, ⟨27, [], []⟩, ⟨28, [], []⟩, ⟨29, [], []⟩, ⟨30, [], []⟩, ⟨31, [], []⟩, ⟨32, [], []⟩, ⟨33, [], []⟩, ⟨34, [], []⟩], .a]) (notIn []) (by kernel_rfl) (And.intro (decide_eq_true h0) (And.intro (decide_eq_true h1) (And.intro (W33.dec_ok h2) (And.intro (decide_eq_true h1) (And.intro (W33.dec_ok h3) (And.intro (decide_eq_true h1) (And.intro (W33.dec_ok h4) (And.intro (F71_ok (m + 0) (e479.c0) (e480.c5) (e481.c6) (e481.c7) (e481.c8) (e481.c9) b482 h5) (And.intro (Bool.eq_false_iff.mpr h6) (And.intro (Bool.eq_false_iff.mpr h6) (And.intro (Bool.eq_false_iff.mpr h6) (And.intro (decide_eq_false h7) (And.intro (decide_eq_false h7) (And.intro (decide_eq_false h7) (And.intro (decide_eq_false h7) (And.intro (decide_eq_false h7) (And.intro (decide_eq_false h7) (And.intro (decide_eq_false h7) (And.intro (decide_eq_false h7) (And.intro (decide_eq_false h7) (And.intro (decide_eq_false h7) (And.intro (decide_eq_false h7) (And.intro (decide_eq_false h7) (And.intro (Bool.eq_false_iff.mpr h6) (And.intro (decide_eq_false h7) (And.intro (Bool.eq_false_iff.mpr h6) (And.intro (Eq.refl ([⟨0, [], []⟩, ⟨1, [], []⟩, ⟨2, [], []⟩, ⟨3, [], []⟩, ⟨4, [], []⟩, ⟨5, [], []⟩, ⟨6, [], []⟩, ⟨7, [], []⟩, ⟨8, [], []⟩, ⟨9, [], []⟩, ⟨10, [], []⟩, ⟨11, [], []⟩, ⟨12, [], []⟩, ⟨13, [], []⟩, ⟨14, [], []⟩, ⟨15, [], []⟩, ⟨16, [], []⟩, ⟨17, [], []⟩, ⟨18, [], []⟩, ⟨19, [], []⟩, ⟨20, [], []⟩, ⟨21, [], []⟩, ⟨22, [], []⟩, ⟨23, [], []⟩, ⟨24, [], []⟩, ⟨25, [], []⟩, ⟨26, [], []⟩, ⟨27, [], []⟩, ⟨28, [], []⟩, ⟨29, [], []⟩, ⟨30, [], []⟩, ⟨31, [], []⟩, ⟨32, [], []⟩, ⟨33, [], []⟩, ⟨34, [], []⟩] : List Foot)) True.intro))))))))))))))))))))))))))) n).trans hs, hr⟩
      · skip
        cases h
    · skip
      cases h
      exact ⟨_, round_out (gs := [.f]) (notIn []) (by kernel_rfl) rfl (And.intro (decide_eq_false h0) True.intro) n, z436, (↑(List.length l435) : Int), decide (z436 < (↑(List.length l435) : Int)), rfl⟩
inductive A44v1 where
  | a0 (b620 : Bool)
@[reducible] def A44v1.out : A44v1 → V × Store
  | .a0 b620 => (vb b620, [])
def F44v1 (l365 : List (List V)) : Option A44v1 :=
  (L44v1_0 100000 (l365) (0)).bind fun r => match r with
  | .e0 =>
   some (A44v1.a0 (false))
  | .e1 =>
   some (A44v1.a0 (false))
  | .e2 l680 =>
   some (A44v1.a0 (decide ((↑(List.length l680) : Int) ≤ 32)))
theorem F44v1_ok (m : Nat) (l365 : List (List V)) (r : A44v1) (h : F44v1 l365 = some r) : call Try.prog X O0 100000 (m + 4) 44 ([V.list 10 l365]) ([]) = some r.out := by
  unfold F44v1 at h
  obtain ⟨r0, h0, h⟩ := Option.bind_eq_some_iff.mp h
  obtain ⟨st0, h0, hr0⟩ := L44v1_0_ok m 100000 (l365) (0) r0 h0
  have h0 : loopRun Try.prog X (call Try.prog X O0 100000 (m + 3)) 44 (0) 100000 B44v1 0 ({ T := V.list 10 l365 :: U :: vb false :: i64 0 :: un 44 [], σ := [] }) = some st0 := by
    rw [loopRun_from, show prep (0) (X.keep 44 0) ({ T := V.list 10 l365 :: U :: vb false :: i64 0 :: un 44 [], σ := [] }) = { T := V.list 10 l365 :: U :: U :: i64 0 :: un 44 [], σ := [] } by kernel_rfl]
    exact h0
  cases r0 with
  | e0 =>
    obtain ⟨l584, z585, z586, b587, z588, z589, z590, z591, z592, z593, z594, z595, z596, z597, z598, z599, z600, z601, z602, z603, z604, z605, z606, z607, z608, z609, z610, z611, z612, z613, z614, z615, z616, z617, b618, b619, rfl⟩ := hr0
    cases h
    exact call_pathL (gs := [.lp (VX.ret) (s44v1_0_0 l584 z585 z586 b587 z588 z589 z590 z591 z592 z593 z594 z595 z596 z597 z598 z599 z600 z601 z602 z603 z604 z605 z606 z607 z608 z609 z610 z611 z612 z613 z614 z615 z616 z617 b618 b619)]) (notIn []) rfl rfl (by kernel_rfl) (And.intro h0 True.intro)
  | e1 =>
    obtain ⟨l621, z622, z623, b624, z625, z626, z627, z628, z629, z630, z631, z632, z633, z634, z635, z636, z637, z638, z639, z640, z641, z642, z643, z644, z645, z646, z647, z648, z649, z650, z651, z652, z653, z654, b655, b656, b657, z658, z659, z660, z661, z662, z663, z664, z665, z666, z667, z668, z669, z670, z671, z672, z673, z674, z675, z676, z677, z678, b679, rfl⟩ := hr0
    cases h
    exact call_pathL (gs := [.lp (VX.ret) (s44v1_0_1 l621 z622 z623 b624 z625 z626 z627 z628 z629 z630 z631 z632 z633 z634 z635 z636 z637 z638 z639 z640 z641 z642 z643 z644 z645 z646 z647 z648 z649 z650 z651 z652 z653 z654 b655 b656 b657 z658 z659 z660 z661 z662 z663 z664 z665 z666 z667 z668 z669 z670 z671 z672 z673 z674 z675 z676 z677 z678 b679)]) (notIn []) rfl rfl (by kernel_rfl) (And.intro h0 True.intro)
  | e2 l680 =>
    obtain ⟨z681, z682, b683, rfl⟩ := hr0
    cases h
    exact call_pathL (gs := [.lp (VX.exit 0) (s44v1_0_2 l680 z681 z682 b683)]) (notIn []) rfl rfl (by kernel_rfl) (And.intro h0 True.intro)
/-! ## 35 -/
inductive A35 where
  | a0 (z745 : Int)
@[reducible] def A35.out : A35 → V × Store
  | .a0 z745 => (i64 z745, [])
def F35 (z738 : Int) (z739 : Int) (z740 : Int) : Option A35 :=
  bnd (F32 (z738)) fun z742 =>
  bnd (F32 (z739)) fun z743 =>
  bnd (F32 (z740)) fun z744 =>
  if z744 ≤ z742 then
   some (A35.a0 (0))
  else
   if z744 ≥ z743 then
    some (A35.a0 (65536))
   else
    if w64 (z743 - z742) = 0 then
     none -- none
    else
     some (A35.a0 (w64 (Int.tdiv (w64 (w64 (z744 - z742) * 65536)) (w64 (z743 - z742)))))
theorem F35_ok (m : Nat) (z738 : Int) (z739 : Int) (z740 : Int) (r : A35) (h : F35 z738 z739 z740 = some r) : call Try.prog X O0 100000 (m + 3) 35 ([i64 z738, i64 z739, i64 z740]) ([]) = some r.out := by
  unfold F35 at h
  obtain ⟨z742, h0, h⟩ := bnd_eq h
  obtain ⟨z743, h1, h⟩ := bnd_eq h
  obtain ⟨z744, h2, h⟩ := bnd_eq h
  rcases ite_eq h with ⟨h3, h⟩ | ⟨h3, h⟩
  · skip
    cases h
    exact call_pathL (gs := [.an (i64 z742) [], .an (i64 z743) [], .an (i64 z744) [], .t]) (notIn []) rfl rfl (by kernel_rfl) (And.intro (F32_ok (m + 0) (z738) z742 h0) (And.intro (F32_ok (m + 0) (z739) z743 h1) (And.intro (F32_ok (m + 0) (z740) z744 h2) (And.intro (decide_eq_true h3) True.intro))))
  · skip
    rcases ite_eq h with ⟨h4, h⟩ | ⟨h4, h⟩
    · skip
      cases h
      exact call_pathL (gs := [.an (i64 z742) [], .an (i64 z743) [], .an (i64 z744) [], .f, .t]) (notIn []) rfl rfl (by kernel_rfl) (And.intro (F32_ok (m + 0) (z738) z742 h0) (And.intro (F32_ok (m + 0) (z739) z743 h1) (And.intro (F32_ok (m + 0) (z740) z744 h2) (And.intro (decide_eq_false h3) (And.intro (decide_eq_true h4) True.intro)))))
    · skip
      rcases ite_eq h with ⟨h5, h⟩ | ⟨h5, h⟩
      · skip
        cases h
      · skip
        cases h
        exact call_pathL (gs := [.an (i64 z742) [], .an (i64 z743) [], .an (i64 z744) [], .f, .f, .f]) (notIn []) rfl rfl (by kernel_rfl) (And.intro (F32_ok (m + 0) (z738) z742 h0) (And.intro (F32_ok (m + 0) (z739) z743 h1) (And.intro (F32_ok (m + 0) (z740) z744 h2) (And.intro (decide_eq_false h3) (And.intro (decide_eq_false h4) (And.intro (decide_eq_false h5) True.intro))))))
/-! ## 96 -/
inductive A96 where
  | a0 (z783 : Int) (z784 : Int)
@[reducible] def A96.out : A96 → V × Store
  | .a0 z783 z784 => (V.tup [V.int IntKind.u64 z783, V.int IntKind.u64 z784], [])
def F96 (z780 : Int) (z781 : Int) : Option A96 :=
  some (A96.a0 (IntKind.wrap IntKind.u64 (IntKind.wrap IntKind.u64 (IntKind.wrap IntKind.u64 (Int.fdiv z780 4294967296 * Int.fdiv z781 4294967296) + Int.fdiv (IntKind.wrap IntKind.u64 (IntKind.wrap IntKind.u64 (Int.fdiv z780 4294967296 * IntKind.wrap IntKind.u64 (↑(BitVec.toNat (BitVec.ofInt (IntKind.bits IntKind.u64) z781 &&& BitVec.ofInt (IntKind.bits IntKind.u64) 4294967295)) : Int)) + Int.fdiv (IntKind.wrap IntKind.u64 (IntKind.wrap IntKind.u64 (↑(BitVec.toNat (BitVec.ofInt (IntKind.bits IntKind.u64) z780 &&& BitVec.ofInt (IntKind.bits IntKind.u64) 4294967295)) : Int) * IntKind.wrap IntKind.u64 (↑(BitVec.toNat (BitVec.ofInt (IntKind.bits IntKind.u64) z781 &&& BitVec.ofInt (IntKind.bits IntKind.u64) 4294967295)) : Int))) 4294967296)) 4294967296) + Int.fdiv (IntKind.wrap IntKind.u64 (IntKind.wrap IntKind.u64 (↑(BitVec.toNat (BitVec.ofInt (IntKind.bits IntKind.u64) (IntKind.wrap IntKind.u64 (IntKind.wrap IntKind.u64 (Int.fdiv z780 4294967296 * IntKind.wrap IntKind.u64 (↑(BitVec.toNat (BitVec.ofInt (IntKind.bits IntKind.u64) z781 &&& BitVec.ofInt (IntKind.bits IntKind.u64) 4294967295)) : Int)) + Int.fdiv (IntKind.wrap IntKind.u64 (IntKind.wrap IntKind.u64 (↑(BitVec.toNat (BitVec.ofInt (IntKind.bits IntKind.u64) z780 &&& BitVec.ofInt (IntKind.bits IntKind.u64) 4294967295)) : Int) * IntKind.wrap IntKind.u64 (↑(BitVec.toNat (BitVec.ofInt (IntKind.bits IntKind.u64) z781 &&& BitVec.ofInt (IntKind.bits IntKind.u64) 4294967295)) : Int))) 4294967296)) &&& BitVec.ofInt (IntKind.bits IntKind.u64) 4294967295)) : Int) + IntKind.wrap IntKind.u64 (IntKind.wrap IntKind.u64 (↑(BitVec.toNat (BitVec.ofInt (IntKind.bits IntKind.u64) z780 &&& BitVec.ofInt (IntKind.bits IntKind.u64) 4294967295)) : Int) * Int.fdiv z781 4294967296))) 4294967296)) (IntKind.wrap IntKind.u64 (z780 * z781)))
theorem F96_ok (m : Nat) (z780 : Int) (z781 : Int) (r : A96) (h : F96 z780 z781 = some r) : call Try.prog X O0 100000 (m + 1) 96 ([V.int IntKind.u64 z780, V.int IntKind.u64 z781]) ([]) = some r.out := by
  unfold F96 at h
  cases h
  exact call_pathL (gs := []) (notIn []) rfl rfl (by kernel_rfl) True.intro
/-! ## 69 -/
inductive A69 where
  | a0 (z787 : Int) (z788 : Int)
@[reducible] def A69.out : A69 → V × Store
  | .a0 z787 z788 => (V.tup [V.int IntKind.u64 z787, V.int IntKind.u64 z788], [])
def F69 (z777 : Int) (z778 : Int) : Option A69 :=
  (F96 (IntKind.wrap IntKind.u64 z777) (IntKind.wrap IntKind.u64 z778)).bind fun r => match r with
  | .a0 z785 z786 =>
   if z777 < 0 then
    if z778 < 0 then
     some (A69.a0 (IntKind.wrap IntKind.u64 (IntKind.wrap IntKind.u64 (z785 - IntKind.wrap IntKind.u64 z778) - IntKind.wrap IntKind.u64 z777)) (z786))
    else
     some (A69.a0 (IntKind.wrap IntKind.u64 (z785 - IntKind.wrap IntKind.u64 z778)) (z786))
   else
    if z778 < 0 then
     some (A69.a0 (IntKind.wrap IntKind.u64 (z785 - IntKind.wrap IntKind.u64 z777)) (z786))
    else
     some (A69.a0 (z785) (z786))
theorem F69_ok (m : Nat) (z777 : Int) (z778 : Int) (r : A69) (h : F69 z777 z778 = some r) : call Try.prog X O0 100000 (m + 2) 69 ([i64 z777, i64 z778]) ([]) = some r.out := by
  unfold F69 at h
  obtain ⟨r0, h0, h⟩ := Option.bind_eq_some_iff.mp h
  have h0 := F96_ok (m + 0) (IntKind.wrap IntKind.u64 z777) (IntKind.wrap IntKind.u64 z778) r0 h0
  cases r0 with
  | a0 z785 z786 =>
    rcases ite_eq h with ⟨h1, h⟩ | ⟨h1, h⟩
    · skip
      rcases ite_eq h with ⟨h2, h⟩ | ⟨h2, h⟩
      · skip
        cases h
        exact call_pathL (gs := [.an (V.tup [V.int IntKind.u64 z785, V.int IntKind.u64 z786]) [], .t, .t]) (notIn []) rfl rfl (by kernel_rfl) (And.intro h0 (And.intro (decide_eq_true h1) (And.intro (decide_eq_true h2) True.intro)))
      · skip
        cases h
        exact call_pathL (gs := [.an (V.tup [V.int IntKind.u64 z785, V.int IntKind.u64 z786]) [], .t, .f]) (notIn []) rfl rfl (by kernel_rfl) (And.intro h0 (And.intro (decide_eq_true h1) (And.intro (decide_eq_false h2) True.intro)))
    · skip
      rcases ite_eq h with ⟨h2, h⟩ | ⟨h2, h⟩
      · skip
        cases h
        exact call_pathL (gs := [.an (V.tup [V.int IntKind.u64 z785, V.int IntKind.u64 z786]) [], .f, .t]) (notIn []) rfl rfl (by kernel_rfl) (And.intro h0 (And.intro (decide_eq_false h1) (And.intro (decide_eq_true h2) True.intro)))
      · skip
        cases h
        exact call_pathL (gs := [.an (V.tup [V.int IntKind.u64 z785, V.int IntKind.u64 z786]) [], .f, .f]) (notIn []) rfl rfl (by kernel_rfl) (And.intro h0 (And.intro (decide_eq_false h1) (And.intro (decide_eq_false h2) True.intro)))
/-! ## 68 -/
def F68 (z791 : Int) (z792 : Int) : Int :=
  if Int.fdiv (w64 z791) 65536 < -1 then
   -9223372036854775808
  else
   if (Int.fdiv (w64 z791) 65536 == -1) = true then
    if (Int.fdiv (IntKind.wrap IntKind.u64 (↑(BitVec.toNat (BitVec.ofInt (IntKind.bits IntKind.u64) (IntKind.wrap IntKind.u64 (z791 * 2 ^ min (Int.toNat 48) (IntKind.bits IntKind.u64))) ||| BitVec.ofInt (IntKind.bits IntKind.u64) (Int.fdiv z792 (2 ^ min (Int.toNat 16) (IntKind.bits IntKind.u64))))) : Int)) 9223372036854775808 == 0) = true then
     -9223372036854775808
    else
     if Int.fdiv (w64 z791) 65536 > 0 then
      9223372036854775807
     else
      if (Int.fdiv (w64 z791) 65536 == 0) = true then
       if (Int.fdiv (IntKind.wrap IntKind.u64 (↑(BitVec.toNat (BitVec.ofInt (IntKind.bits IntKind.u64) (IntKind.wrap IntKind.u64 (z791 * 2 ^ min (Int.toNat 48) (IntKind.bits IntKind.u64))) ||| BitVec.ofInt (IntKind.bits IntKind.u64) (Int.fdiv z792 (2 ^ min (Int.toNat 16) (IntKind.bits IntKind.u64))))) : Int)) 9223372036854775808 != 0) = true then
        9223372036854775807
       else
        w64 (IntKind.wrap IntKind.u64 (↑(BitVec.toNat (BitVec.ofInt (IntKind.bits IntKind.u64) (IntKind.wrap IntKind.u64 (z791 * 2 ^ min (Int.toNat 48) (IntKind.bits IntKind.u64))) ||| BitVec.ofInt (IntKind.bits IntKind.u64) (Int.fdiv z792 (2 ^ min (Int.toNat 16) (IntKind.bits IntKind.u64))))) : Int))
      else
       w64 (IntKind.wrap IntKind.u64 (↑(BitVec.toNat (BitVec.ofInt (IntKind.bits IntKind.u64) (IntKind.wrap IntKind.u64 (z791 * 2 ^ min (Int.toNat 48) (IntKind.bits IntKind.u64))) ||| BitVec.ofInt (IntKind.bits IntKind.u64) (Int.fdiv z792 (2 ^ min (Int.toNat 16) (IntKind.bits IntKind.u64))))) : Int))
   else
    if Int.fdiv (w64 z791) 65536 > 0 then
     9223372036854775807
    else
     if (Int.fdiv (w64 z791) 65536 == 0) = true then
      if (Int.fdiv (IntKind.wrap IntKind.u64 (↑(BitVec.toNat (BitVec.ofInt (IntKind.bits IntKind.u64) (IntKind.wrap IntKind.u64 (z791 * 2 ^ min (Int.toNat 48) (IntKind.bits IntKind.u64))) ||| BitVec.ofInt (IntKind.bits IntKind.u64) (Int.fdiv z792 (2 ^ min (Int.toNat 16) (IntKind.bits IntKind.u64))))) : Int)) 9223372036854775808 != 0) = true then
       9223372036854775807
      else
       w64 (IntKind.wrap IntKind.u64 (↑(BitVec.toNat (BitVec.ofInt (IntKind.bits IntKind.u64) (IntKind.wrap IntKind.u64 (z791 * 2 ^ min (Int.toNat 48) (IntKind.bits IntKind.u64))) ||| BitVec.ofInt (IntKind.bits IntKind.u64) (Int.fdiv z792 (2 ^ min (Int.toNat 16) (IntKind.bits IntKind.u64))))) : Int))
     else
      w64 (IntKind.wrap IntKind.u64 (↑(BitVec.toNat (BitVec.ofInt (IntKind.bits IntKind.u64) (IntKind.wrap IntKind.u64 (z791 * 2 ^ min (Int.toNat 48) (IntKind.bits IntKind.u64))) ||| BitVec.ofInt (IntKind.bits IntKind.u64) (Int.fdiv z792 (2 ^ min (Int.toNat 16) (IntKind.bits IntKind.u64))))) : Int))
theorem F68_ok (m : Nat) (z791 : Int) (z792 : Int) (z795 : Int) (h : F68 z791 z792 = z795) : call Try.prog X O0 100000 (m + 1) 68 ([V.int IntKind.u64 z791, V.int IntKind.u64 z792]) ([]) = some (i64 z795, []) := by
  unfold F68 at h
  rcases ite_eq h with ⟨h0, h⟩ | ⟨h0, h⟩
  · skip
    subst h
    exact call_pathL (gs := [.t, .t, .t, .t, .t, .a]) (notIn []) rfl rfl (by kernel_rfl) (And.intro (decide_eq_true h0) (And.intro (decide_eq_true h0) (And.intro (decide_eq_true h0) (And.intro (decide_eq_true h0) (And.intro (decide_eq_true h0) True.intro)))))
  · skip
    rcases ite_eq h with ⟨h1, h⟩ | ⟨h1, h⟩
    · skip
      rcases ite_eq h with ⟨h2, h⟩ | ⟨h2, h⟩
      · skip
        subst h
        exact call_pathL (gs := [.f, .f, .f, .t, .t, .t, .f, .t, .f, .t]) (notIn []) rfl rfl (by kernel_rfl) (And.intro (decide_eq_false h0) (And.intro (decide_eq_false h0) (And.intro (decide_eq_false h0) (And.intro h1 (And.intro h1 (And.intro h1 (And.intro (decide_eq_false h0) (And.intro h1 (And.intro (decide_eq_false h0) (And.intro h2 True.intro))))))))))
      · skip
        rcases ite_eq h with ⟨h3, h⟩ | ⟨h3, h⟩
        · skip
          subst h
          exact call_pathL (gs := [.f, .f, .f, .t, .t, .t, .f, .t, .f, .f, .t, .t, .t, .t, .t, .a]) (notIn []) rfl rfl (by kernel_rfl) (And.intro (decide_eq_false h0) (And.intro (decide_eq_false h0) (And.intro (decide_eq_false h0) (And.intro h1 (And.intro h1 (And.intro h1 (And.intro (decide_eq_false h0) (And.intro h1 (And.intro (decide_eq_false h0) (And.intro (Bool.eq_false_iff.mpr h2) (And.intro (decide_eq_true h3) (And.intro (decide_eq_true h3) (And.intro (decide_eq_true h3) (And.intro (decide_eq_true h3) (And.intro (decide_eq_true h3) True.intro)))))))))))))))
        · skip
          rcases ite_eq h with ⟨h4, h⟩ | ⟨h4, h⟩
          · skip
            rcases ite_eq h with ⟨h5, h⟩ | ⟨h5, h⟩
            · skip
              subst h
              exact call_pathL (gs := [.f, .f, .f, .t, .t, .t, .f, .t, .f, .f, .f, .f, .f, .t, .t, .t, .f, .t, .f, .t]) (notIn []) rfl rfl (by kernel_rfl) (And.intro (decide_eq_false h0) (And.intro (decide_eq_false h0) (And.intro (decide_eq_false h0) (And.intro h1 (And.intro h1 (And.intro h1 (And.intro (decide_eq_false h0) (And.intro h1 (And.intro (decide_eq_false h0) (And.intro (Bool.eq_false_iff.mpr h2) (And.intro (decide_eq_false h3) (And.intro (decide_eq_false h3) (And.intro (decide_eq_false h3) (And.intro h4 (And.intro h4 (And.intro h4 (And.intro (decide_eq_false h3) (And.intro h4 (And.intro (decide_eq_false h3) (And.intro h5 True.intro))))))))))))))))))))
            · skip
              subst h
              exact call_pathL (gs := [.f, .f, .f, .t, .t, .t, .f, .t, .f, .f, .f, .f, .f, .t, .t, .t, .f, .t, .f, .f]) (notIn []) rfl rfl (by kernel_rfl) (And.intro (decide_eq_false h0) (And.intro (decide_eq_false h0) (And.intro (decide_eq_false h0) (And.intro h1 (And.intro h1 (And.intro h1 (And.intro (decide_eq_false h0) (And.intro h1 (And.intro (decide_eq_false h0) (And.intro (Bool.eq_false_iff.mpr h2) (And.intro (decide_eq_false h3) (And.intro (decide_eq_false h3) (And.intro (decide_eq_false h3) (And.intro h4 (And.intro h4 (And.intro h4 (And.intro (decide_eq_false h3) (And.intro h4 (And.intro (decide_eq_false h3) (And.intro (Bool.eq_false_iff.mpr h5) True.intro))))))))))))))))))))
          · skip
            subst h
            exact call_pathL (gs := [.f, .f, .f, .t, .t, .t, .f, .t, .f, .f, .f, .f, .f, .f, .f, .f, .f, .f, .f, .a]) (notIn []) rfl rfl (by kernel_rfl) (And.intro (decide_eq_false h0) (And.intro (decide_eq_false h0) (And.intro (decide_eq_false h0) (And.intro h1 (And.intro h1 (And.intro h1 (And.intro (decide_eq_false h0) (And.intro h1 (And.intro (decide_eq_false h0) (And.intro (Bool.eq_false_iff.mpr h2) (And.intro (decide_eq_false h3) (And.intro (decide_eq_false h3) (And.intro (decide_eq_false h3) (And.intro (Bool.eq_false_iff.mpr h4) (And.intro (Bool.eq_false_iff.mpr h4) (And.intro (Bool.eq_false_iff.mpr h4) (And.intro (decide_eq_false h3) (And.intro (Bool.eq_false_iff.mpr h4) (And.intro (decide_eq_false h3) True.intro)))))))))))))))))))
    · skip
      rcases ite_eq h with ⟨h2, h⟩ | ⟨h2, h⟩
      · skip
        subst h
        exact call_pathL (gs := [.f, .f, .f, .f, .f, .f, .f, .f, .f, .a, .t, .t, .t, .t, .t, .a]) (notIn []) rfl rfl (by kernel_rfl) (And.intro (decide_eq_false h0) (And.intro (decide_eq_false h0) (And.intro (decide_eq_false h0) (And.intro (Bool.eq_false_iff.mpr h1) (And.intro (Bool.eq_false_iff.mpr h1) (And.intro (Bool.eq_false_iff.mpr h1) (And.intro (decide_eq_false h0) (And.intro (Bool.eq_false_iff.mpr h1) (And.intro (decide_eq_false h0) (And.intro (decide_eq_true h2) (And.intro (decide_eq_true h2) (And.intro (decide_eq_true h2) (And.intro (decide_eq_true h2) (And.intro (decide_eq_true h2) True.intro))))))))))))))
      · skip
        rcases ite_eq h with ⟨h3, h⟩ | ⟨h3, h⟩
        · skip
          rcases ite_eq h with ⟨h4, h⟩ | ⟨h4, h⟩
          · skip
            subst h
            exact call_pathL (gs := [.f, .f, .f, .f, .f, .f, .f, .f, .f, .a, .f, .f, .f, .t, .t, .t, .f, .t, .f, .t]) (notIn []) rfl rfl (by kernel_rfl) (And.intro (decide_eq_false h0) (And.intro (decide_eq_false h0) (And.intro (decide_eq_false h0) (And.intro (Bool.eq_false_iff.mpr h1) (And.intro (Bool.eq_false_iff.mpr h1) (And.intro (Bool.eq_false_iff.mpr h1) (And.intro (decide_eq_false h0) (And.intro (Bool.eq_false_iff.mpr h1) (And.intro (decide_eq_false h0) (And.intro (decide_eq_false h2) (And.intro (decide_eq_false h2) (And.intro (decide_eq_false h2) (And.intro h3 (And.intro h3 (And.intro h3 (And.intro (decide_eq_false h2) (And.intro h3 (And.intro (decide_eq_false h2) (And.intro h4 True.intro)))))))))))))))))))
          · skip
            subst h
            exact call_pathL (gs := [.f, .f, .f, .f, .f, .f, .f, .f, .f, .a, .f, .f, .f, .t, .t, .t, .f, .t, .f, .f]) (notIn []) rfl rfl (by kernel_rfl) (And.intro (decide_eq_false h0) (And.intro (decide_eq_false h0) (And.intro (decide_eq_false h0) (And.intro (Bool.eq_false_iff.mpr h1) (And.intro (Bool.eq_false_iff.mpr h1) (And.intro (Bool.eq_false_iff.mpr h1) (And.intro (decide_eq_false h0) (And.intro (Bool.eq_false_iff.mpr h1) (And.intro (decide_eq_false h0) (And.intro (decide_eq_false h2) (And.intro (decide_eq_false h2) (And.intro (decide_eq_false h2) (And.intro h3 (And.intro h3 (And.intro h3 (And.intro (decide_eq_false h2) (And.intro h3 (And.intro (decide_eq_false h2) (And.intro (Bool.eq_false_iff.mpr h4) True.intro)))))))))))))))))))
        · skip
          subst h
          exact call_pathL (gs := [.f, .f, .f, .f, .f, .f, .f, .f, .f, .a, .f, .f, .f, .f, .f, .f, .f, .f, .f, .a]) (notIn []) rfl rfl (by kernel_rfl) (And.intro (decide_eq_false h0) (And.intro (decide_eq_false h0) (And.intro (decide_eq_false h0) (And.intro (Bool.eq_false_iff.mpr h1) (And.intro (Bool.eq_false_iff.mpr h1) (And.intro (Bool.eq_false_iff.mpr h1) (And.intro (decide_eq_false h0) (And.intro (Bool.eq_false_iff.mpr h1) (And.intro (decide_eq_false h0) (And.intro (decide_eq_false h2) (And.intro (decide_eq_false h2) (And.intro (decide_eq_false h2) (And.intro (Bool.eq_false_iff.mpr h3) (And.intro (Bool.eq_false_iff.mpr h3) (And.intro (Bool.eq_false_iff.mpr h3) (And.intro (decide_eq_false h2) (And.intro (Bool.eq_false_iff.mpr h3) (And.intro (decide_eq_false h2) True.intro))))))))))))))))))
/-! ## 39 -/
inductive A39 where
  | a0 (z798 : Int)
@[reducible] def A39.out : A39 → V × Store
  | .a0 z798 => (i64 z798, [])
def F39 (z772 : Int) (z773 : Int) : Option A39 :=
  bnd (F32 (z772)) fun z775 =>
  bnd (F32 (z773)) fun z776 =>
  (F69 (z775) (z776)).bind fun r => match r with
  | .a0 z789 z790 =>
   bnd (F68 (z789) (z790)) fun z796 =>
   bnd (F32 (z796)) fun z797 =>
   some (A39.a0 (z797))
theorem F39_ok (m : Nat) (z772 : Int) (z773 : Int) (r : A39) (h : F39 z772 z773 = some r) : call Try.prog X O0 100000 (m + 3) 39 ([i64 z772, i64 z773]) ([]) = some r.out := by
  unfold F39 at h
  obtain ⟨z775, h0, h⟩ := bnd_eq h
  obtain ⟨z776, h1, h⟩ := bnd_eq h
  obtain ⟨r2, h2, h⟩ := Option.bind_eq_some_iff.mp h
  have h2 := F69_ok (m + 0) (z775) (z776) r2 h2
  cases r2 with
  | a0 z789 z790 =>
    obtain ⟨z796, h3, h⟩ := bnd_eq h
    obtain ⟨z797, h4, h⟩ := bnd_eq h
    cases h
    exact call_pathL (gs := [.an (i64 z775) [], .an (i64 z776) [], .an (V.tup [V.int IntKind.u64 z789, V.int IntKind.u64 z790]) [], .an (i64 z796) [], .an (i64 z797) []]) (notIn []) rfl rfl (by kernel_rfl) (And.intro (F32_ok (m + 0) (z772) z775 h0) (And.intro (F32_ok (m + 0) (z773) z776 h1) (And.intro h2 (And.intro (F68_ok (m + 1) (z789) (z790) z796 h3) (And.intro (F32_ok (m + 0) (z796) z797 h4) True.intro)))))
/-! ## 100 -/
def F100 (z805 : Int) (z806 : Int) : Int :=
  bnd (F32 (z805)) fun z808 =>
  bnd (F32 (z806)) fun z809 =>
  bnd (F32 (w64 (z808 + z809))) fun z810 =>
  z810
theorem F100_ok (m : Nat) (z805 : Int) (z806 : Int) (z812 : Int) (h : F100 z805 z806 = z812) : call Try.prog X O0 100000 (m + 3) 100 ([i64 z805, i64 z806]) ([]) = some (i64 z812, []) := by
  unfold F100 at h
  obtain ⟨z808, h0, h⟩ := bnd_eq h
  obtain ⟨z809, h1, h⟩ := bnd_eq h
  obtain ⟨z810, h2, h⟩ := bnd_eq h
  subst h
  exact call_pathL (gs := [.an (i64 z808) [], .an (i64 z809) [], .an (i64 z810) []]) (notIn []) rfl rfl (by kernel_rfl) (And.intro (F32_ok (m + 0) (z805) z808 h0) (And.intro (F32_ok (m + 0) (z806) z809 h1) (And.intro (F32_ok (m + 0) (w64 (z808 + z809)) z810 h2) True.intro)))
/-! ## 94 -/
inductive A94 where
  | a0 (z817 : Int)
@[reducible] def A94.out : A94 → V × Store
  | .a0 z817 => (i64 z817, [])
def F94 (z767 : Int) (z768 : Int) (z769 : Int) : Option A94 :=
  bnd (F33 (z769) (0) (65536)) fun z771 =>
  (F39 (w64 (65536 - z771)) (w64 (65536 - z771))).bind fun r => match r with
  | .a0 z799 =>
   (F39 (z799) (z771)).bind fun r => match r with
   | .a0 z800 =>
    (F39 (w64 (3 * z800)) (z767)).bind fun r => match r with
    | .a0 z801 =>
     (F39 (w64 (65536 - z771)) (z771)).bind fun r => match r with
     | .a0 z802 =>
      (F39 (z802) (z771)).bind fun r => match r with
      | .a0 z803 =>
       (F39 (w64 (3 * z803)) (z768)).bind fun r => match r with
       | .a0 z804 =>
        bnd (F100 (z801) (z804)) fun z813 =>
        (F39 (z771) (z771)).bind fun r => match r with
        | .a0 z814 =>
         (F39 (z814) (z771)).bind fun r => match r with
         | .a0 z815 =>
          bnd (F100 (z813) (z815)) fun z816 =>
          some (A94.a0 (z816))
theorem F94_ok (m : Nat) (z767 : Int) (z768 : Int) (z769 : Int) (r : A94) (h : F94 z767 z768 z769 = some r) : call Try.prog X O0 100000 (m + 4) 94 ([i64 z767, i64 z768, i64 z769]) ([]) = some r.out := by
  unfold F94 at h
  obtain ⟨z771, h0, h⟩ := bnd_eq h
  obtain ⟨r1, h1, h⟩ := Option.bind_eq_some_iff.mp h
  have h1 := F39_ok (m + 0) (w64 (65536 - z771)) (w64 (65536 - z771)) r1 h1
  cases r1 with
  | a0 z799 =>
    obtain ⟨r2, h2, h⟩ := Option.bind_eq_some_iff.mp h
    have h2 := F39_ok (m + 0) (z799) (z771) r2 h2
    cases r2 with
    | a0 z800 =>
      obtain ⟨r3, h3, h⟩ := Option.bind_eq_some_iff.mp h
      have h3 := F39_ok (m + 0) (w64 (3 * z800)) (z767) r3 h3
      cases r3 with
      | a0 z801 =>
        obtain ⟨r4, h4, h⟩ := Option.bind_eq_some_iff.mp h
        have h4 := F39_ok (m + 0) (w64 (65536 - z771)) (z771) r4 h4
        cases r4 with
        | a0 z802 =>
          obtain ⟨r5, h5, h⟩ := Option.bind_eq_some_iff.mp h
          have h5 := F39_ok (m + 0) (z802) (z771) r5 h5
          cases r5 with
          | a0 z803 =>
            obtain ⟨r6, h6, h⟩ := Option.bind_eq_some_iff.mp h
            have h6 := F39_ok (m + 0) (w64 (3 * z803)) (z768) r6 h6
            cases r6 with
            | a0 z804 =>
              obtain ⟨z813, h7, h⟩ := bnd_eq h
              obtain ⟨r8, h8, h⟩ := Option.bind_eq_some_iff.mp h
              have h8 := F39_ok (m + 0) (z771) (z771) r8 h8
              cases r8 with
              | a0 z814 =>
                obtain ⟨r9, h9, h⟩ := Option.bind_eq_some_iff.mp h
                have h9 := F39_ok (m + 0) (z814) (z771) r9 h9
                cases r9 with
                | a0 z815 =>
                  obtain ⟨z816, h10, h⟩ := bnd_eq h
                  cases h
                  exact call_pathL (gs := [.an (i64 z771) [], .an (i64 z799) [], .an (i64 z800) [], .an (i64 z801) [], .an (i64 z802) [], .an (i64 z803) [], .an (i64 z804) [], .an (i64 z813) [], .an (i64 z814) [], .an (i64 z815) [], .an (i64 z816) []]) (notIn []) rfl rfl (by kernel_rfl) (And.intro (F33_ok (m + 2) (z769) (0) (65536) z771 h0) (And.intro h1 (And.intro h2 (And.intro h3 (And.intro h4 (And.intro h5 (And.intro h6 (And.intro (F100_ok (m + 0) (z801) (z804) z813 h7) (And.intro h8 (And.intro h9 (And.intro (F100_ok (m + 0) (z813) (z815) z816 h10) True.intro)))))))))))
/-! ## 66 -/
noncomputable abbrev B66 : Code := (Try.f66.body).getD .skip
inductive R66_1 where
  | e0 (z837 : Int) (z842 : Int) (z844 : Int)
@[reducible] def s66_1_0 (z836 : Int) (z837 : Int) (z838 : Int) (z839 : Int) (b840 : Bool) (z841 : Int) (z842 : Int) (z843 : Int) (z844 : Int) : S := { T := U :: i64 z836 :: V.ptr 0 0 0 :: U :: U :: i64 z837 :: i64 z838 :: un 7 (i64 z839 :: vb b840 :: un 21 []), σ := [Ob.cells true false 4 [[i64 z841, i64 z842, i64 z843, i64 z844]]] }
def R66_1.St : R66_1 → VX × S → Prop
  | .e0 z837 z842 z844, p => ∃ z836 : Int, ∃ z838 : Int, ∃ z839 : Int, ∃ b840 : Bool, ∃ z841 : Int, ∃ z843 : Int, p = (VX.exit 1, s66_1_0 z836 z837 z838 z839 b840 z841 z842 z843 z844)
def L66_1 : Nat → Int → Int → Int → Int → Int → Int → Int → Int → Option R66_1
  | 0, _, _, _, _, _, _, _, _ => none
  | n + 1, z826, z827, z828, z829, z830, z831, z832, z833 =>
    if z829 < 16 then
     (F94 (z830) (z832) (Int.fdiv (w64 (z827 + z828)) 2)).bind fun r => match r with
     | .a0 z835 =>
      if z835 ≤ z826 then
       L66_1 n (z826) (Int.fdiv (w64 (z827 + z828)) 2) (z828) (w64 (z829 + 1)) (z830) (z831) (z832) (z833)
      else
       L66_1 n (z826) (z827) (Int.fdiv (w64 (z827 + z828)) 2) (w64 (z829 + 1)) (z830) (z831) (z832) (z833)
    else
     some (R66_1.e0 (z827) (z831) (z833))
theorem L66_1_ok (m : Nat) : ∀ (n : Nat) (z826 : Int) (z827 : Int) (z828 : Int) (z829 : Int) (z830 : Int) (z831 : Int) (z832 : Int) (z833 : Int) (r : R66_1), L66_1 n z826 z827 z828 z829 z830 z831 z832 z833 = some r → ∃ st, loopFrom Try.prog X (call Try.prog X O0 100000 (m + 4)) 66 (0) 100000 B66 1 n ({ T := U :: i64 z826 :: V.ptr 0 0 0 :: U :: U :: i64 z827 :: i64 z828 :: un 7 (i64 z829 :: un 22 []), σ := [Ob.cells true false 4 [[i64 z830, i64 z831, i64 z832, i64 z833]]] }) = some st ∧ r.St st
  | 0, _, _, _, _, _, _, _, _, r, h => by cases h
  | n + 1, z826, z827, z828, z829, z830, z831, z832, z833, r, h => by
    rw [L66_1] at h
    rcases ite_eq h with ⟨h0, h⟩ | ⟨h0, h⟩
    · skip
      obtain ⟨r1, h1, h⟩ := Option.bind_eq_some_iff.mp h
      have h1 := F94_ok (m + 0) (z830) (z832) (Int.fdiv (w64 (z827 + z828)) 2) r1 h1
      cases r1 with
      | a0 z835 =>
        rcases ite_eq h with ⟨h2, h⟩ | ⟨h2, h⟩
        · skip
          obtain ⟨st, hs, hr⟩ := L66_1_ok m n (z826) (Int.fdiv (w64 (z827 + z828)) 2) (z828) (w64 (z829 + 1)) (z830) (z831) (z832) (z833) r h
          exact ⟨st, (round_on (gs := [.t, .a, .a, .an (i64 z835) [], .t]) (notIn []) (by kernel_rfl) (And.intro (decide_eq_true h0) (And.intro h1 (And.intro (decide_eq_true h2) True.intro))) n).trans hs, hr⟩
        · skip
          obtain ⟨st, hs, hr⟩ := L66_1_ok m n (z826) (z827) (Int.fdiv (w64 (z827 + z828)) 2) (w64 (z829 + 1)) (z830) (z831) (z832) (z833) r h
          exact ⟨st, (round_on (gs := [.t, .a, .a, .an (i64 z835) [], .f]) (notIn []) (by kernel_rfl) (And.intro (decide_eq_true h0) (And.intro h1 (And.intro (decide_eq_false h2) True.intro))) n).trans hs, hr⟩
    · skip
      cases h
      exact ⟨_, round_out (gs := [.f]) (notIn []) (by kernel_rfl) rfl (And.intro (decide_eq_false h0) True.intro) n, z826, z828, z829, decide (z829 < 16), z830, z832, rfl⟩
inductive A66 where
  | a0 (z834 : Int)
@[reducible] def A66.out : A66 → V × Store
  | .a0 z834 => (i64 z834, [])
def F66 (z755 : Int) (z756 : Int) (z757 : Int) (z758 : Int) (z759 : Int) : Option A66 :=
  if z759 ≤ 0 then
   some (A66.a0 (0))
  else
   if z759 ≥ 65536 then
    some (A66.a0 (65536))
   else
    (L66_1 100000 (z759) (0) (65536) (0) (z755) (z756) (z757) (z758)).bind fun r => match r with
    | .e0 z846 z851 z853 =>
     (F94 (z851) (z853) (z846)).bind fun r => match r with
     | .a0 z854 =>
      some (A66.a0 (z854))
theorem F66_ok (m : Nat) (z755 : Int) (z756 : Int) (z757 : Int) (z758 : Int) (z759 : Int) (r : A66) (h : F66 z755 z756 z757 z758 z759 = some r) : call Try.prog X O0 100000 (m + 5) 66 ([V.agg [i64 z755, i64 z756, i64 z757, i64 z758], i64 z759]) ([]) = some r.out := by
  unfold F66 at h
  rcases ite_eq h with ⟨h0, h⟩ | ⟨h0, h⟩
  · skip
    cases h
    exact call_pathL (gs := [.t]) (notIn []) rfl rfl (by kernel_rfl) (And.intro (decide_eq_true h0) True.intro)
  · skip
    rcases ite_eq h with ⟨h1, h⟩ | ⟨h1, h⟩
    · skip
      cases h
      exact call_pathL (gs := [.f, .t]) (notIn []) rfl rfl (by kernel_rfl) (And.intro (decide_eq_false h0) (And.intro (decide_eq_true h1) True.intro))
    · skip
      obtain ⟨r2, h2, h⟩ := Option.bind_eq_some_iff.mp h
      obtain ⟨st2, h2, hr2⟩ := L66_1_ok m 100000 (z759) (0) (65536) (0) (z755) (z756) (z757) (z758) r2 h2
      have h2 : loopRun Try.prog X (call Try.prog X O0 100000 (m + 4)) 66 (0) 100000 B66 1 ({ T := V.agg [i64 z755, i64 z756, i64 z757, i64 z758] :: i64 z759 :: V.ptr 0 0 0 :: U :: i64 0 :: i64 0 :: i64 65536 :: U :: vb (decide (z759 ≤ 0)) :: i64 z759 :: vb (decide (z759 ≤ 0)) :: vb (decide (z759 ≥ 65536)) :: i64 z759 :: vb (decide (z759 ≥ 65536)) :: i64 0 :: un 22 [], σ := [Ob.cells true false 4 [[i64 z755, i64 z756, i64 z757, i64 z758]]] }) = some st2 := by
        rw [loopRun_from, show prep (0) (X.keep 66 1) ({ T := V.agg [i64 z755, i64 z756, i64 z757, i64 z758] :: i64 z759 :: V.ptr 0 0 0 :: U :: i64 0 :: i64 0 :: i64 65536 :: U :: vb (decide (z759 ≤ 0)) :: i64 z759 :: vb (decide (z759 ≤ 0)) :: vb (decide (z759 ≥ 65536)) :: i64 z759 :: vb (decide (z759 ≥ 65536)) :: i64 0 :: un 22 [], σ := [Ob.cells true false 4 [[i64 z755, i64 z756, i64 z757, i64 z758]]] }) = { T := U :: i64 z759 :: V.ptr 0 0 0 :: U :: U :: i64 0 :: i64 65536 :: un 7 (i64 0 :: un 22 []), σ := [Ob.cells true false 4 [[i64 z755, i64 z756, i64 z757, i64 z758]]] } by kernel_rfl]
        exact h2
      cases r2 with
      | e0 z846 z851 z853 =>
        obtain ⟨z845, z847, z848, b849, z850, z852, rfl⟩ := hr2
        obtain ⟨r3, h3, h⟩ := Option.bind_eq_some_iff.mp h
        have h3 := F94_ok (m + 0) (z851) (z853) (z846) r3 h3
        cases r3 with
        | a0 z854 =>
          cases h
          exact call_pathL (gs := [.f, .f, .lp (VX.exit 1) (s66_1_0 z845 z846 z847 z848 b849 z850 z851 z852 z853), .a, .a, .an (i64 z854) []]) (notIn []) rfl rfl (by kernel_rfl) (And.intro (decide_eq_false h0) (And.intro (decide_eq_false h1) (And.intro h2 (And.intro h3 True.intro))))
/-! ## 34 -/
inductive A34 where
  | a0 (z754 : Int)
@[reducible] def A34.out : A34 → V × Store
  | .a0 z754 => (i64 z754, [])
def F34 (z747 : Int) (z748 : Int) (z749 : Int) (z750 : Int) (z751 : Int) (z752 : Int) : Option A34 :=
  if (z747 == 0) = true then
   if z752 ≥ 65536 then
    some (A34.a0 (65536))
   else
    if (z747 == 1) = true then
     some (A34.a0 (z752))
    else
     if (z747 == 2) = true then
      (F66 (z748) (z749) (z750) (z751) (z752)).bind fun r => match r with
      | .a0 z855 =>
       some (A34.a0 (z855))
     else
      some (A34.a0 (0))
  else
   if (z747 == 1) = true then
    some (A34.a0 (z752))
   else
    if (z747 == 2) = true then
     (F66 (z748) (z749) (z750) (z751) (z752)).bind fun r => match r with
     | .a0 z856 =>
      some (A34.a0 (z856))
    else
     some (A34.a0 (0))
theorem F34_ok (m : Nat) (z747 : Int) (z748 : Int) (z749 : Int) (z750 : Int) (z751 : Int) (z752 : Int) (r : A34) (h : F34 z747 z748 z749 z750 z751 z752 = some r) : call Try.prog X O0 100000 (m + 6) 34 ([i64 z747, V.agg [i64 z748, i64 z749, i64 z750, i64 z751], i64 z752]) ([]) = some r.out := by
  unfold F34 at h
  rcases ite_eq h with ⟨h0, h⟩ | ⟨h0, h⟩
  · skip
    rcases ite_eq h with ⟨h1, h⟩ | ⟨h1, h⟩
    · skip
      cases h
      exact call_pathL (gs := [.t, .t, .t, .t]) (notIn []) rfl rfl (by kernel_rfl) (And.intro h0 (And.intro h0 (And.intro h0 (And.intro (decide_eq_true h1) True.intro))))
    · skip
      rcases ite_eq h with ⟨h2, h⟩ | ⟨h2, h⟩
      · skip
        cases h
        exact call_pathL (gs := [.t, .t, .t, .f, .t]) (notIn []) rfl rfl (by kernel_rfl) (And.intro h0 (And.intro h0 (And.intro h0 (And.intro (decide_eq_false h1) (And.intro h2 True.intro)))))
      · skip
        rcases ite_eq h with ⟨h3, h⟩ | ⟨h3, h⟩
        · skip
          obtain ⟨r4, h4, h⟩ := Option.bind_eq_some_iff.mp h
          have h4 := F66_ok (m + 0) (z748) (z749) (z750) (z751) (z752) r4 h4
          cases r4 with
          | a0 z855 =>
            cases h
            exact call_pathL (gs := [.t, .t, .t, .f, .f, .t, .a, .an (i64 z855) []]) (notIn []) rfl rfl (by kernel_rfl) (And.intro h0 (And.intro h0 (And.intro h0 (And.intro (decide_eq_false h1) (And.intro (Bool.eq_false_iff.mpr h2) (And.intro h3 (And.intro h4 True.intro)))))))
        · skip
          cases h
          exact call_pathL (gs := [.t, .t, .t, .f, .f, .f]) (notIn []) rfl rfl (by kernel_rfl) (And.intro h0 (And.intro h0 (And.intro h0 (And.intro (decide_eq_false h1) (And.intro (Bool.eq_false_iff.mpr h2) (And.intro (Bool.eq_false_iff.mpr h3) True.intro))))))
  · skip
    rcases ite_eq h with ⟨h1, h⟩ | ⟨h1, h⟩
    · skip
      cases h
      exact call_pathL (gs := [.f, .f, .f, .a, .t]) (notIn []) rfl rfl (by kernel_rfl) (And.intro (Bool.eq_false_iff.mpr h0) (And.intro (Bool.eq_false_iff.mpr h0) (And.intro (Bool.eq_false_iff.mpr h0) (And.intro h1 True.intro))))
    · skip
      rcases ite_eq h with ⟨h2, h⟩ | ⟨h2, h⟩
      · skip
        obtain ⟨r3, h3, h⟩ := Option.bind_eq_some_iff.mp h
        have h3 := F66_ok (m + 0) (z748) (z749) (z750) (z751) (z752) r3 h3
        cases r3 with
        | a0 z856 =>
          cases h
          exact call_pathL (gs := [.f, .f, .f, .a, .f, .t, .a, .an (i64 z856) []]) (notIn []) rfl rfl (by kernel_rfl) (And.intro (Bool.eq_false_iff.mpr h0) (And.intro (Bool.eq_false_iff.mpr h0) (And.intro (Bool.eq_false_iff.mpr h0) (And.intro (Bool.eq_false_iff.mpr h1) (And.intro h2 (And.intro h3 True.intro))))))
      · skip
        cases h
        exact call_pathL (gs := [.f, .f, .f, .a, .f, .f]) (notIn []) rfl rfl (by kernel_rfl) (And.intro (Bool.eq_false_iff.mpr h0) (And.intro (Bool.eq_false_iff.mpr h0) (And.intro (Bool.eq_false_iff.mpr h0) (And.intro (Bool.eq_false_iff.mpr h1) (And.intro (Bool.eq_false_iff.mpr h2) True.intro)))))
/-! ## 15 -/
noncomputable abbrev B15v1 : Code := (Try.f15.body).getD .skip
inductive R15v1_0 where
  | e0 (l881 : List (List V)) (z882 : Int) (z883 : Int)
  | e1 (l896 : List (List V)) (z897 : Int) (z898 : Int)
@[reducible] def s15v1_0_0 (l881 : List (List V)) (z882 : Int) (z883 : Int) (b884 : Bool) (z885 : Int) (z886 : Int) (z887 : Int) (z888 : Int) (z889 : Int) (z890 : Int) (z891 : Int) (z892 : Int) (z893 : Int) (z894 : Int) (b895 : Bool) : S := { T := V.list 10 l881 :: i64 z882 :: un 4 (V.ptr 0 0 0 :: i64 z883 :: un 9 (i64 z883 :: vb b884 :: vb b884 :: V.list 10 l881 :: i64 z883 :: V.pp [i64 z885, u8 z886, u8 z887, u8 z888, u8 z889, i64 z890, i64 z891, i64 z892, i64 z893, i64 z894] :: V.pp [i64 z885, u8 z886, u8 z887, u8 z888, u8 z889, i64 z890, i64 z891, i64 z892, i64 z893, i64 z894] :: i64 z885 :: i64 z882 :: vb b895 :: vb b895 :: un 44 [])), σ := [Ob.cells true false 4 [[u8 0, u8 0, u8 0, u8 0]]] }
@[reducible] def s15v1_0_1 (l896 : List (List V)) (z897 : Int) (z898 : Int) (b899 : Bool) : S := { T := V.list 10 l896 :: i64 z897 :: un 4 (V.ptr 0 0 0 :: i64 z898 :: un 9 (i64 z898 :: vb b899 :: vb b899 :: E :: E :: E :: E :: E :: E :: E :: vb false :: un 44 [])), σ := [Ob.cells true false 4 [[u8 0, u8 0, u8 0, u8 0]]] }
def R15v1_0.St : R15v1_0 → VX × S → Prop
  | .e0 l881 z882 z883, p => ∃ b884 : Bool, ∃ z885 : Int, ∃ z886 : Int, ∃ z887 : Int, ∃ z888 : Int, ∃ z889 : Int, ∃ z890 : Int, ∃ z891 : Int, ∃ z892 : Int, ∃ z893 : Int, ∃ z894 : Int, ∃ b895 : Bool, p = (VX.exit 0, s15v1_0_0 l881 z882 z883 b884 z885 z886 z887 z888 z889 z890 z891 z892 z893 z894 b895)
  | .e1 l896 z897 z898, p => ∃ b899 : Bool, p = (VX.exit 0, s15v1_0_1 l896 z897 z898 b899)
def L15v1_0 : Nat → List (List V) → Int → Int → Option R15v1_0
  | 0, _, _, _ => none
  | n + 1, l696, z697, z698 =>
    if z698 ≥ 0 then
     if 0 ≤ z698 then
      ((l696[Int.toNat z698]?).bind W33.dec).bind fun e880 =>
      if e880.c0 > z697 then
       L15v1_0 n (l696) (z697) (w64 (z698 - 1))
      else
       some (R15v1_0.e0 (l696) (z697) (z698))
     else
      none -- none
    else
     some (R15v1_0.e1 (l696) (z697) (z698))
theorem L15v1_0_ok (m : Nat) : ∀ (n : Nat) (l696 : List (List V)) (z697 : Int) (z698 : Int) (r : R15v1_0), L15v1_0 n l696 z697 z698 = some r → ∃ st, loopFrom Try.prog X (call Try.prog X O0 100000 (m + 6)) 15 (0) 100000 B15v1 0 n ({ T := V.list 10 l696 :: i64 z697 :: un 4 (V.ptr 0 0 0 :: i64 z698 :: un 64 []), σ := [Ob.cells true false 4 [[u8 0, u8 0, u8 0, u8 0]]] }) = some st ∧ r.St st
  | 0, _, _, _, r, h => by cases h
  | n + 1, l696, z697, z698, r, h => by
    rw [L15v1_0] at h
    rcases ite_eq h with ⟨h0, h⟩ | ⟨h0, h⟩
    · skip
      rcases ite_eq h with ⟨h1, h⟩ | ⟨h1, h⟩
      · skip
        obtain ⟨e880, h2, h⟩ := Option.bind_eq_some_iff.mp h
        rcases ite_eq h with ⟨h3, h⟩ | ⟨h3, h⟩
        · skip
          obtain ⟨st, hs, hr⟩ := L15v1_0_ok m n (l696) (z697) (w64 (z698 - 1)) r h
          exact ⟨st, (round_on (gs := [.t, .t, .t, .t, .el (W33.cells e880), .t, .t, .t, .t, .t, .t]) (notIn []) (by kernel_rfl) (And.intro (decide_eq_true h0) (And.intro (decide_eq_true h0) (And.intro (decide_eq_true h0) (And.intro (decide_eq_true h1) (And.intro (W33.dec_ok h2) (And.intro (decide_eq_true h0) (And.intro (decide_eq_true h0) (And.intro (decide_eq_true h0) (And.intro (decide_eq_true h0) (And.intro (decide_eq_true h0) (And.intro (decide_eq_true h3) True.intro))))))))))) n).trans hs, hr⟩
        · skip
          cases h
          exact ⟨_, round_out (gs := [.t, .t, .t, .t, .el (W33.cells e880), .t, .t, .t, .t, .t, .f]) (notIn []) (by kernel_rfl) rfl (And.intro (decide_eq_true h0) (And.intro (decide_eq_true h0) (And.intro (decide_eq_true h0) (And.intro (decide_eq_true h1) (And.intro (W33.dec_ok h2) (And.intro (decide_eq_true h0) (And.intro (decide_eq_true h0) (And.intro (decide_eq_true h0) (And.intro (decide_eq_true h0) (And.intro (decide_eq_true h0) (And.intro (decide_eq_false h3) True.intro))))))))))) n, decide (z698 ≥ 0), e880.c0, e880.c1, e880.c2, e880.c3, e880.c4, e880.c5, e880.c6, e880.c7, e880.c8, e880.c9, decide (e880.c0 > z697), rfl⟩
      · skip
        cases h
    · skip
      cases h
      exact ⟨_, round_out (gs := [.f, .f, .f, .f, .f, .f, .f, .f, .a]) (notIn []) (by kernel_rfl) rfl (And.intro (decide_eq_false h0) (And.intro (decide_eq_false h0) (And.intro (decide_eq_false h0) (And.intro (decide_eq_false h0) (And.intro (decide_eq_false h0) (And.intro (decide_eq_false h0) (And.intro (decide_eq_false h0) (And.intro (decide_eq_false h0) True.intro)))))))) n, decide (z698 ≥ 0), rfl⟩
inductive A15v1 where
  | a0 (z876 : Int) (z877 : Int) (z878 : Int) (z879 : Int)
@[reducible] def A15v1.out : A15v1 → V × Store
  | .a0 z876 z877 z878 z879 => (V.agg [u8 z876, u8 z877, u8 z878, u8 z879], [])
def F15v1 (l685 : List (List V)) (z686 : Int) (z687 : Int) (z688 : Int) (z689 : Int) (z690 : Int) : Option A15v1 :=
  if ((↑(List.length l685) : Int) == 0) = true then
   some (A15v1.a0 (z687) (z688) (z689) (z690))
  else
   (L15v1_0 100000 (l685) (z686) (w64 ((↑(List.length l685) : Int) - 1))).bind fun r => match r with
   | .e0 l900 z901 z902 =>
    if (z902 == -1) = true then
     ((l900[(0 : Nat)]?).bind W33.dec).bind fun e915 =>
     some (A15v1.a0 (e915.c1) (e915.c2) (e915.c3) (e915.c4))
    else
     if (z902 == w64 ((↑(List.length l900) : Int) - 1)) = true then
      if 0 ≤ z902 then
       ((l900[Int.toNat z902]?).bind W33.dec).bind fun e916 =>
       some (A15v1.a0 (e916.c1) (e916.c2) (e916.c3) (e916.c4))
      else
       none -- none
     else
      if 0 ≤ z902 then
       ((l900[Int.toNat z902]?).bind W33.dec).bind fun e917 =>
       if 0 ≤ w64 (z902 + 1) then
        ((l900[Int.toNat (w64 (z902 + (1 : Int)))]?).bind W33.dec).bind fun e918 =>
        (F35 (e917.c0) (e918.c0) (z901)).bind fun r => match r with
        | .a0 z919 =>
         (F34 (e917.c5) (e917.c6) (e917.c7) (e917.c8) (e917.c9) (z919)).bind fun r => match r with
         | .a0 z920 =>
          (F12 (e917.c1) (e917.c2) (e917.c3) (e917.c4) (e918.c1) (e918.c2) (e918.c3) (e918.c4) (z920)).bind fun r => match r with
          | .a0 z921 z922 z923 z924 =>
           some (A15v1.a0 (z921) (z922) (z923) (z924))
       else
        none -- none
      else
       none -- none
   | .e1 l925 z926 z927 =>
    if (z927 == -1) = true then
     ((l925[(0 : Nat)]?).bind W33.dec).bind fun e929 =>
     some (A15v1.a0 (e929.c1) (e929.c2) (e929.c3) (e929.c4))
    else
     if (z927 == w64 ((↑(List.length l925) : Int) - 1)) = true then
      if 0 ≤ z927 then
       ((l925[Int.toNat z927]?).bind W33.dec).bind fun e930 =>
       some (A15v1.a0 (e930.c1) (e930.c2) (e930.c3) (e930.c4))
      else
       none -- none
     else
      if 0 ≤ z927 then
       ((l925[Int.toNat z927]?).bind W33.dec).bind fun e931 =>
       if 0 ≤ w64 (z927 + 1) then
        ((l925[Int.toNat (w64 (z927 + (1 : Int)))]?).bind W33.dec).bind fun e932 =>
        (F35 (e931.c0) (e932.c0) (z926)).bind fun r => match r with
        | .a0 z933 =>
         (F34 (e931.c5) (e931.c6) (e931.c7) (e931.c8) (e931.c9) (z933)).bind fun r => match r with
         | .a0 z934 =>
          (F12 (e931.c1) (e931.c2) (e931.c3) (e931.c4) (e932.c1) (e932.c2) (e932.c3) (e932.c4) (z934)).bind fun r => match r with
          | .a0 z935 z936 z937 z938 =>
           some (A15v1.a0 (z935) (z936) (z937) (z938))
       else
        none -- none
      else
       none -- none
theorem F15v1_ok (m : Nat) (l685 : List (List V)) (z686 : Int) (z687 : Int) (z688 : Int) (z689 : Int) (z690 : Int) (r : A15v1) (h : F15v1 l685 z686 z687 z688 z689 z690 = some r) : call Try.prog X O0 100000 (m + 7) 15 ([V.list 10 l685, i64 z686, V.agg [u8 z687, u8 z688, u8 z689, u8 z690]]) ([]) = some r.out := by
  unfold F15v1 at h
  rcases ite_eq h with ⟨h0, h⟩ | ⟨h0, h⟩
  · skip
    cases h
    exact call_pathL (gs := [.t, .a, .a]) (notIn []) rfl rfl (by kernel_rfl) (And.intro h0 True.intro)
  · skip
    obtain ⟨r1, h1, h⟩ := Option.bind_eq_some_iff.mp h
    obtain ⟨st1, h1, hr1⟩ := L15v1_0_ok m 100000 (l685) (z686) (w64 ((↑(List.length l685) : Int) - 1)) r1 h1
    have h1 : loopRun Try.prog X (call Try.prog X O0 100000 (m + 6)) 15 (0) 100000 B15v1 0 ({ T := V.list 10 l685 :: i64 z686 :: V.agg [u8 z687, u8 z688, u8 z689, u8 z690] :: U :: U :: V.ptr 0 0 0 :: V.ptr 1 0 0 :: i64 (w64 ((↑(List.length l685) : Int) - 1)) :: U :: U :: V.list 10 l685 :: i64 (↑(List.length l685) : Int) :: vb ((↑(List.length l685) : Int) == 0) :: U :: V.list 10 l685 :: i64 (↑(List.length l685) : Int) :: i64 (w64 ((↑(List.length l685) : Int) - 1)) :: un 55 [], σ := [Ob.cells true false 4 [[u8 z687, u8 z688, u8 z689, u8 z690]], Ob.cells true false 4 [[u8 0, u8 0, u8 0, u8 0]]] }) = some st1 := by
      rw [loopRun_from, show prep (0) (X.keep 15 0) ({ T := V.list 10 l685 :: i64 z686 :: V.agg [u8 z687, u8 z688, u8 z689, u8 z690] :: U :: U :: V.ptr 0 0 0 :: V.ptr 1 0 0 :: i64 (w64 ((↑(List.length l685) : Int) - 1)) :: U :: U :: V.list 10 l685 :: i64 (↑(List.length l685) : Int) :: vb ((↑(List.length l685) : Int) == 0) :: U :: V.list 10 l685 :: i64 (↑(List.length l685) : Int) :: i64 (w64 ((↑(List.length l685) : Int) - 1)) :: un 55 [], σ := [Ob.cells true false 4 [[u8 z687, u8 z688, u8 z689, u8 z690]], Ob.cells true false 4 [[u8 0, u8 0, u8 0, u8 0]]] }) = { T := V.list 10 l685 :: i64 z686 :: un 4 (V.ptr 0 0 0 :: i64 (w64 ((↑(List.length l685) : Int) - 1)) :: un 64 []), σ := [Ob.cells true false 4 [[u8 0, u8 0, u8 0, u8 0]]] } by kernel_rfl]
      exact h1
    cases r1 with
    | e0 l900 z901 z902 =>
      obtain ⟨b903, z904, z905, z906, z907, z908, z909, z910, z911, z912, z913, b914, rfl⟩ := hr1
      rcases ite_eq h with ⟨h2, h⟩ | ⟨h2, h⟩
      · skip
        obtain ⟨e915, h3, h⟩ := Option.bind_eq_some_iff.mp h
        cases h
        exact call_pathL (gs := [.f, .lp (VX.exit 0) (s15v1_0_0 l900 z901 z902 b903 z904 z905 z906 z907 z908 z909 z910 z911 z912 z913 b914), .t, .a, .el (W33.cells e915), .a]) (notIn []) rfl rfl (by kernel_rfl) (And.intro (Bool.eq_false_iff.mpr h0) (And.intro h1 (And.intro h2 (And.intro (W33.dec_ok h3) True.intro))))
      · skip
        rcases ite_eq h with ⟨h3, h⟩ | ⟨h3, h⟩
        · skip
          rcases ite_eq h with ⟨h4, h⟩ | ⟨h4, h⟩
          · skip
            obtain ⟨e916, h5, h⟩ := Option.bind_eq_some_iff.mp h
            cases h
            exact call_pathL (gs := [.f, .lp (VX.exit 0) (s15v1_0_0 l900 z901 z902 b903 z904 z905 z906 z907 z908 z909 z910 z911 z912 z913 b914), .f, .t, .t, .el (W33.cells e916), .a]) (notIn []) rfl rfl (by kernel_rfl) (And.intro (Bool.eq_false_iff.mpr h0) (And.intro h1 (And.intro (Bool.eq_false_iff.mpr h2) (And.intro h3 (And.intro (decide_eq_true h4) (And.intro (W33.dec_ok h5) True.intro))))))
          · skip
            cases h
        · skip
          rcases ite_eq h with ⟨h4, h⟩ | ⟨h4, h⟩
          · skip
            obtain ⟨e917, h5, h⟩ := Option.bind_eq_some_iff.mp h
            rcases ite_eq h with ⟨h6, h⟩ | ⟨h6, h⟩
            · skip
              obtain ⟨e918, h7, h⟩ := Option.bind_eq_some_iff.mp h
              obtain ⟨r8, h8, h⟩ := Option.bind_eq_some_iff.mp h
              have h8 := F35_ok (m + 3) (e917.c0) (e918.c0) (z901) r8 h8
              cases r8 with
              | a0 z919 =>
                obtain ⟨r9, h9, h⟩ := Option.bind_eq_some_iff.mp h
                have h9 := F34_ok (m + 0) (e917.c5) (e917.c6) (e917.c7) (e917.c8) (e917.c9) (z919) r9 h9
                cases r9 with
                | a0 z920 =>
                  obtain ⟨r10, h10, h⟩ := Option.bind_eq_some_iff.mp h
                  have h10 := F12_ok (m + 3) (e917.c1) (e917.c2) (e917.c3) (e917.c4) (e918.c1) (e918.c2) (e918.c3) (e918.c4) (z920) r10 h10
                  cases r10 with
                  | a0 z921 z922 z923 z924 =>
                    cases h
                    exact call_pathL (gs := [.f, .lp (VX.exit 0) (s15v1_0_0 l900 z901 z902 b903 z904 z905 z906 z907 z908 z909 z910 z911 z912 z913 b914), .f, .f, .t, .el (W33.cells e917), .t, .el (W33.cells e918), .a, .a, .ft [⟨0, [], []⟩, ⟨1, [], []⟩, ⟨2, [], []⟩, ⟨3, [], []⟩, ⟨4, [], []⟩, ⟨5, [], []⟩, ⟨6, [], []⟩, ⟨7, [], []⟩, ⟨8, [], []⟩, ⟨9, [1], [1]⟩, ⟨10, [2], [2]⟩, ⟨11, [1], [1]⟩, ⟨12, [2], [2]⟩], .a, .a, .a, .a, .a, .a, .an (i64 z919) [], .an (i64 z920) [], .an (V.agg [u8 z921, u8 z922, u8 z923, u8 z924]) [], .a, .ft [⟨0, [1], []⟩, ⟨1, [1], []⟩, ⟨2, [2], []⟩, ⟨3, [2], []⟩, ⟨4, [1], []⟩, ⟨5, [1], []⟩, ⟨6, [1], []⟩, ⟨7, [1], []⟩, ⟨8, [1], []⟩, ⟨9, [1], []⟩, ⟨10, [2], []⟩, ⟨11, [2], []⟩, ⟨12, [], []⟩, ⟨13, [], []⟩, ⟨14, [], []⟩, ⟨15, [], []⟩, ⟨16, [0], [0]⟩]]) (notIn []) rfl rfl (by kernel_rfl) (And.intro (Bool.eq_false_iff.mpr h0) (And.intro h1 (And.intro (Bool.eq_false_iff.mpr h2) (And.intro (Bool.eq_false_iff.mpr h3) (And.intro (decide_eq_true h4) (And.intro (W33.dec_ok h5) (And.intro (decide_eq_true h6) (And.intro (W33.dec_ok h7) (And.intro (Eq.refl ([⟨0, [], []⟩, ⟨1, [], []⟩, ⟨2, [], []⟩, ⟨3, [], []⟩, ⟨4, [], []⟩, ⟨5, [], []⟩, ⟨6, [], []⟩, ⟨7, [], []⟩, ⟨8, [], []⟩, ⟨9, [1], [1]⟩, ⟨10, [2], [2]⟩, ⟨11, [1], [1]⟩, ⟨12, [2], [2]⟩] : List Foot)) (And.intro h8 (And.intro h9 (And.intro h10 (And.intro (Eq.refl ([⟨0, [1], []⟩, ⟨1, [1], []⟩, ⟨2, [2], []⟩, ⟨3, [2], []⟩, ⟨4, [1], []⟩, ⟨5, [1], []⟩, ⟨6, [1], []⟩, ⟨7, [1], []⟩, ⟨8, [1], []⟩, ⟨9, [1], []⟩, ⟨10, [2], []⟩, ⟨11, [2], []⟩, ⟨12, [], []⟩, ⟨13, [], []⟩, ⟨14, [], []⟩, ⟨15, [], []⟩, ⟨16, [0], [0]⟩] : List Foot)) True.intro)))))))))))))
            · skip
              cases h
          · skip
            cases h
    | e1 l925 z926 z927 =>
      obtain ⟨b928, rfl⟩ := hr1
      rcases ite_eq h with ⟨h2, h⟩ | ⟨h2, h⟩
      · skip
        obtain ⟨e929, h3, h⟩ := Option.bind_eq_some_iff.mp h
        cases h
        exact call_pathL (gs := [.f, .lp (VX.exit 0) (s15v1_0_1 l925 z926 z927 b928), .t, .a, .el (W33.cells e929), .a]) (notIn []) rfl rfl (by kernel_rfl) (And.intro (Bool.eq_false_iff.mpr h0) (And.intro h1 (And.intro h2 (And.intro (W33.dec_ok h3) True.intro))))
      · skip
        rcases ite_eq h with ⟨h3, h⟩ | ⟨h3, h⟩
        · skip
          rcases ite_eq h with ⟨h4, h⟩ | ⟨h4, h⟩
          · skip
            obtain ⟨e930, h5, h⟩ := Option.bind_eq_some_iff.mp h
            cases h
            exact call_pathL (gs := [.f, .lp (VX.exit 0) (s15v1_0_1 l925 z926 z927 b928), .f, .t, .t, .el (W33.cells e930), .a]) (notIn []) rfl rfl (by kernel_rfl) (And.intro (Bool.eq_false_iff.mpr h0) (And.intro h1 (And.intro (Bool.eq_false_iff.mpr h2) (And.intro h3 (And.intro (decide_eq_true h4) (And.intro (W33.dec_ok h5) True.intro))))))
          · skip
            cases h
        · skip
          rcases ite_eq h with ⟨h4, h⟩ | ⟨h4, h⟩
          · skip
            obtain ⟨e931, h5, h⟩ := Option.bind_eq_some_iff.mp h
            rcases ite_eq h with ⟨h6, h⟩ | ⟨h6, h⟩
            · skip
              obtain ⟨e932, h7, h⟩ := Option.bind_eq_some_iff.mp h
              obtain ⟨r8, h8, h⟩ := Option.bind_eq_some_iff.mp h
              have h8 := F35_ok (m + 3) (e931.c0) (e932.c0) (z926) r8 h8
              cases r8 with
              | a0 z933 =>
                obtain ⟨r9, h9, h⟩ := Option.bind_eq_some_iff.mp h
                have h9 := F34_ok (m + 0) (e931.c5) (e931.c6) (e931.c7) (e931.c8) (e931.c9) (z933) r9 h9
                cases r9 with
                | a0 z934 =>
                  obtain ⟨r10, h10, h⟩ := Option.bind_eq_some_iff.mp h
                  have h10 := F12_ok (m + 3) (e931.c1) (e931.c2) (e931.c3) (e931.c4) (e932.c1) (e932.c2) (e932.c3) (e932.c4) (z934) r10 h10
                  cases r10 with
                  | a0 z935 z936 z937 z938 =>
                    cases h
                    exact call_pathL (gs := [.f, .lp (VX.exit 0) (s15v1_0_1 l925 z926 z927 b928), .f, .f, .t, .el (W33.cells e931), .t, .el (W33.cells e932), .a, .a, .ft [⟨0, [], []⟩, ⟨1, [], []⟩, ⟨2, [], []⟩, ⟨3, [], []⟩, ⟨4, [], []⟩, ⟨5, [], []⟩, ⟨6, [], []⟩, ⟨7, [], []⟩, ⟨8, [], []⟩, ⟨9, [1], [1]⟩, ⟨10, [2], [2]⟩, ⟨11, [1], [1]⟩, ⟨12, [2], [2]⟩], .a, .a, .a, .a, .a, .a, .an (i64 z933) [], .an (i64 z934) [], .an (V.agg [u8 z935, u8 z936, u8 z937, u8 z938]) [], .a, .ft [⟨0, [1], []⟩, ⟨1, [1], []⟩, ⟨2, [2], []⟩, ⟨3, [2], []⟩, ⟨4, [1], []⟩, ⟨5, [1], []⟩, ⟨6, [1], []⟩, ⟨7, [1], []⟩, ⟨8, [1], []⟩, ⟨9, [1], []⟩, ⟨10, [2], []⟩, ⟨11, [2], []⟩, ⟨12, [], []⟩, ⟨13, [], []⟩, ⟨14, [], []⟩, ⟨15, [], []⟩, ⟨16, [0], [0]⟩]]) (notIn []) rfl rfl (by kernel_rfl) (And.intro (Bool.eq_false_iff.mpr h0) (And.intro h1 (And.intro (Bool.eq_false_iff.mpr h2) (And.intro (Bool.eq_false_iff.mpr h3) (And.intro (decide_eq_true h4) (And.intro (W33.dec_ok h5) (And.intro (decide_eq_true h6) (And.intro (W33.dec_ok h7) (And.intro (Eq.refl ([⟨0, [], []⟩, ⟨1, [], []⟩, ⟨2, [], []⟩, ⟨3, [], []⟩, ⟨4, [], []⟩, ⟨5, [], []⟩, ⟨6, [], []⟩, ⟨7, [], []⟩, ⟨8, [], []⟩, ⟨9, [1], [1]⟩, ⟨10, [2], [2]⟩, ⟨11, [1], [1]⟩, ⟨12, [2], [2]⟩] : List Foot)) (And.intro h8 (And.intro h9 (And.intro h10 (And.intro (Eq.refl ([⟨0, [1], []⟩, ⟨1, [1], []⟩, ⟨2, [2], []⟩, ⟨3, [2], []⟩, ⟨4, [1], []⟩, ⟨5, [1], []⟩, ⟨6, [1], []⟩, ⟨7, [1], []⟩, ⟨8, [1], []⟩, ⟨9, [1], []⟩, ⟨10, [2], []⟩, ⟨11, [2], []⟩, ⟨12, [], []⟩, ⟨13, [], []⟩, ⟨14, [], []⟩, ⟨15, [], []⟩, ⟨16, [0], [0]⟩] : List Foot)) True.intro)))))))))))))
            · skip
              cases h
          · skip
            cases h
/-! ## 73 -/
inductive A73 where
  | a0 (z1002 : Int)
@[reducible] def A73.out : A73 → V × Store
  | .a0 z1002 => (i64 z1002, [])
def F73 (z995 : Int) (z996 : Int) (z997 : Int) : Option A73 :=
  bnd (F42 (z995)) fun z999 =>
  bnd (F42 (z996)) fun z1000 =>
  bnd (F42 (z997)) fun z1001 =>
  if z1001 ≤ z999 then
   some (A73.a0 (0))
  else
   if z1001 ≥ z1000 then
    some (A73.a0 (65536))
   else
    if w64 (z1000 - z999) = 0 then
     none -- none
    else
     some (A73.a0 (w64 (Int.tdiv (w64 (w64 (z1001 - z999) * 65536)) (w64 (z1000 - z999)))))
theorem F73_ok (m : Nat) (z995 : Int) (z996 : Int) (z997 : Int) (r : A73) (h : F73 z995 z996 z997 = some r) : call Try.prog X O0 100000 (m + 3) 73 ([i64 z995, i64 z996, i64 z997]) ([]) = some r.out := by
  unfold F73 at h
  obtain ⟨z999, h0, h⟩ := bnd_eq h
  obtain ⟨z1000, h1, h⟩ := bnd_eq h
  obtain ⟨z1001, h2, h⟩ := bnd_eq h
  rcases ite_eq h with ⟨h3, h⟩ | ⟨h3, h⟩
  · skip
    cases h
    exact call_pathL (gs := [.an (i64 z999) [], .an (i64 z1000) [], .an (i64 z1001) [], .t]) (notIn []) rfl rfl (by kernel_rfl) (And.intro (F42_ok (m + 0) (z995) z999 h0) (And.intro (F42_ok (m + 0) (z996) z1000 h1) (And.intro (F42_ok (m + 0) (z997) z1001 h2) (And.intro (decide_eq_true h3) True.intro))))
  · skip
    rcases ite_eq h with ⟨h4, h⟩ | ⟨h4, h⟩
    · skip
      cases h
      exact call_pathL (gs := [.an (i64 z999) [], .an (i64 z1000) [], .an (i64 z1001) [], .f, .t]) (notIn []) rfl rfl (by kernel_rfl) (And.intro (F42_ok (m + 0) (z995) z999 h0) (And.intro (F42_ok (m + 0) (z996) z1000 h1) (And.intro (F42_ok (m + 0) (z997) z1001 h2) (And.intro (decide_eq_false h3) (And.intro (decide_eq_true h4) True.intro)))))
    · skip
      rcases ite_eq h with ⟨h5, h⟩ | ⟨h5, h⟩
      · skip
        cases h
      · skip
        cases h
        exact call_pathL (gs := [.an (i64 z999) [], .an (i64 z1000) [], .an (i64 z1001) [], .f, .f, .f]) (notIn []) rfl rfl (by kernel_rfl) (And.intro (F42_ok (m + 0) (z995) z999 h0) (And.intro (F42_ok (m + 0) (z996) z1000 h1) (And.intro (F42_ok (m + 0) (z997) z1001 h2) (And.intro (decide_eq_false h3) (And.intro (decide_eq_false h4) (And.intro (decide_eq_false h5) True.intro))))))
/-! ## 106 -/
inductive A106 where
  | a0 (z1035 : Int) (b1036 : Bool)
@[reducible] def A106.out : A106 → V × Store
  | .a0 z1035 b1036 => (V.tup [V.int IntKind.u64 z1035, vb b1036], [])
def F106 (z1033 : Int) : Option A106 :=
  if z1033 < 0 then
   some (A106.a0 (IntKind.wrap IntKind.u64 (w64 (0 - z1033))) (true))
  else
   some (A106.a0 (IntKind.wrap IntKind.u64 z1033) (false))
theorem F106_ok (m : Nat) (z1033 : Int) (r : A106) (h : F106 z1033 = some r) : call Try.prog X O0 100000 (m + 1) 106 ([i64 z1033]) ([]) = some r.out := by
  unfold F106 at h
  rcases ite_eq h with ⟨h0, h⟩ | ⟨h0, h⟩
  · skip
    cases h
    exact call_pathL (gs := [.t]) (notIn []) rfl rfl (by kernel_rfl) (And.intro (decide_eq_true h0) True.intro)
  · skip
    cases h
    exact call_pathL (gs := [.f]) (notIn []) rfl rfl (by kernel_rfl) (And.intro (decide_eq_false h0) True.intro)
/-! ## 122 -/
inductive A122 where
@[reducible] def A122.out : A122 → V × Store
  := fun x => nomatch x
def F122 (z1058 : Int) : Option A122 :=
  if z1058 ≥ 4294967296 then
   if Int.fdiv z1058 4294967296 ≥ 65536 then
    if Int.fdiv (Int.fdiv z1058 4294967296) 65536 ≥ 256 then
     none -- none
    else
     none -- none
   else
    if Int.fdiv z1058 4294967296 ≥ 256 then
     none -- none
    else
     none -- none
  else
   if z1058 ≥ 65536 then
    if Int.fdiv z1058 65536 ≥ 256 then
     none -- none
    else
     none -- none
   else
    if z1058 ≥ 256 then
     none -- none
    else
     none -- none
theorem F122_ok (m : Nat) (z1058 : Int) (r : A122) (h : F122 z1058 = some r) : call Try.prog X O0 100000 (m + 1) 122 ([V.int IntKind.u64 z1058]) ([]) = some r.out := by
  unfold F122 at h
  rcases ite_eq h with ⟨h0, h⟩ | ⟨h0, h⟩
  · skip
    rcases ite_eq h with ⟨h1, h⟩ | ⟨h1, h⟩
    · skip
      rcases ite_eq h with ⟨h2, h⟩ | ⟨h2, h⟩
      · skip
        cases h
      · skip
        cases h
    · skip
      rcases ite_eq h with ⟨h2, h⟩ | ⟨h2, h⟩
      · skip
        cases h
      · skip
        cases h
  · skip
    rcases ite_eq h with ⟨h1, h⟩ | ⟨h1, h⟩
    · skip
      rcases ite_eq h with ⟨h2, h⟩ | ⟨h2, h⟩
      · skip
        cases h
      · skip
        cases h
    · skip
      rcases ite_eq h with ⟨h2, h⟩ | ⟨h2, h⟩
      · skip
        cases h
      · skip
        cases h
/-! ## 121 -/
inductive A121 where
@[reducible] def A121.out : A121 → V × Store
  := fun x => nomatch x
def F121 (z1056 : Int) : Option A121 :=
  none -- F122 has no answer
theorem F121_ok (m : Nat) (z1056 : Int) (r : A121) (h : F121 z1056 = some r) : call Try.prog X O0 100000 (m + 2) 121 ([V.int IntKind.u64 z1056]) ([]) = some r.out := by
  unfold F121 at h
  cases h
/-! ## 118 -/
inductive A118 where
  | a0 (z1054 : Int) (z1055 : Int)
@[reducible] def A118.out : A118 → V × Store
  | .a0 z1054 z1055 => (V.tup [V.int IntKind.u64 z1054, V.int IntKind.u64 z1055], [])
def F118 (z1050 : Int) (z1051 : Int) (z1052 : Int) : Option A118 :=
  if (z1052 == 0) = true then
   none -- none
  else
   if z1052 ≤ z1050 then
    none -- none
   else
    if (z1050 == 0) = true then
     if z1052 = 0 then
      none -- none
     else
      some (A118.a0 (IntKind.wrap IntKind.u64 (Int.tdiv z1051 z1052)) (Int.tmod z1051 z1052))
    else
     none -- F121 has no answer
theorem F118_ok (m : Nat) (z1050 : Int) (z1051 : Int) (z1052 : Int) (r : A118) (h : F118 z1050 z1051 z1052 = some r) : call Try.prog X O0 100000 (m + 3) 118 ([V.int IntKind.u64 z1050, V.int IntKind.u64 z1051, V.int IntKind.u64 z1052]) ([]) = some r.out := by
  unfold F118 at h
  rcases ite_eq h with ⟨h0, h⟩ | ⟨h0, h⟩
  · skip
    cases h
  · skip
    rcases ite_eq h with ⟨h1, h⟩ | ⟨h1, h⟩
    · skip
      cases h
    · skip
      rcases ite_eq h with ⟨h2, h⟩ | ⟨h2, h⟩
      · skip
        rcases ite_eq h with ⟨h3, h⟩ | ⟨h3, h⟩
        · skip
          cases h
        · skip
          cases h
          exact call_pathL (gs := [.f, .f, .t, .f, .f, .ft [⟨0, [], []⟩, ⟨1, [], []⟩, ⟨2, [], []⟩, ⟨3, [], []⟩, ⟨4, [], []⟩, ⟨5, [], []⟩, ⟨6, [], []⟩, ⟨7, [], []⟩]]) (notIn []) rfl rfl (by kernel_rfl) (And.intro (Bool.eq_false_iff.mpr h0) (And.intro (decide_eq_false h1) (And.intro h2 (And.intro (decide_eq_false h3) (And.intro (decide_eq_false h3) (And.intro (Eq.refl ([⟨0, [], []⟩, ⟨1, [], []⟩, ⟨2, [], []⟩, ⟨3, [], []⟩, ⟨4, [], []⟩, ⟨5, [], []⟩, ⟨6, [], []⟩, ⟨7, [], []⟩] : List Foot)) True.intro))))))
      · skip
        cases h
/-! ## 107 -/
inductive A107 where
  | a0 (z1049 : Int)
@[reducible] def A107.out : A107 → V × Store
  | .a0 z1049 => (i64 z1049, [])
def F107 (z1044 : Int) (z1045 : Int) (z1046 : Int) (b1047 : Bool) : Option A107 :=
  if z1044 ≥ z1046 then
   if (b1047) = true then
    some (A107.a0 (-1099511627776))
   else
    some (A107.a0 (1099511627776))
  else
   (F118 (z1044) (z1045) (z1046)).bind fun r => match r with
   | .a0 z1060 z1061 =>
    if (b1047) = true then
     if z1061 > 0 then
      if z1060 < 4611686018427387904 then
       bnd (F42 (w64 (0 - w64 (if 4611686018427387904 < IntKind.wrap IntKind.u64 (z1060 + 1) then 4611686018427387904 else IntKind.wrap IntKind.u64 (z1060 + 1))))) fun z1062 =>
       some (A107.a0 (z1062))
      else
       bnd (F42 (w64 (0 - w64 (if 4611686018427387904 < z1060 then 4611686018427387904 else z1060)))) fun z1063 =>
       some (A107.a0 (z1063))
     else
      bnd (F42 (w64 (0 - w64 (if 4611686018427387904 < z1060 then 4611686018427387904 else z1060)))) fun z1064 =>
      some (A107.a0 (z1064))
    else
     bnd (F42 (w64 (if 4611686018427387904 < z1060 then 4611686018427387904 else z1060))) fun z1065 =>
     some (A107.a0 (z1065))
theorem F107_ok (m : Nat) (z1044 : Int) (z1045 : Int) (z1046 : Int) (b1047 : Bool) (r : A107) (h : F107 z1044 z1045 z1046 b1047 = some r) : call Try.prog X O0 100000 (m + 4) 107 ([V.int IntKind.u64 z1044, V.int IntKind.u64 z1045, V.int IntKind.u64 z1046, vb b1047]) ([]) = some r.out := by
  unfold F107 at h
  rcases ite_eq h with ⟨h0, h⟩ | ⟨h0, h⟩
  · skip
    rcases ite_eq h with ⟨h1, h⟩ | ⟨h1, h⟩
    · skip
      cases h
      exact call_pathL (gs := [.t, .t]) (notIn []) rfl rfl (by kernel_rfl) (And.intro (decide_eq_true h0) (And.intro h1 True.intro))
    · skip
      cases h
      exact call_pathL (gs := [.t, .f]) (notIn []) rfl rfl (by kernel_rfl) (And.intro (decide_eq_true h0) (And.intro (Bool.eq_false_iff.mpr h1) True.intro))
  · skip
    obtain ⟨r1, h1, h⟩ := Option.bind_eq_some_iff.mp h
    have h1 := F118_ok (m + 0) (z1044) (z1045) (z1046) r1 h1
    cases r1 with
    | a0 z1060 z1061 =>
      rcases ite_eq h with ⟨h2, h⟩ | ⟨h2, h⟩
      · skip
        rcases ite_eq h with ⟨h3, h⟩ | ⟨h3, h⟩
        · skip
          rcases ite_eq h with ⟨h4, h⟩ | ⟨h4, h⟩
          · skip
            obtain ⟨z1062, h5, h⟩ := bnd_eq h
            cases h
            exact call_pathL (gs := [.f, .an (V.tup [V.int IntKind.u64 z1060, V.int IntKind.u64 z1061]) [], .t, .t, .t, .t, .t, .t, .t, .t, .an (i64 z1062) []]) (notIn []) rfl rfl (by kernel_rfl) (And.intro (decide_eq_false h0) (And.intro h1 (And.intro h2 (And.intro h2 (And.intro h2 (And.intro (decide_eq_true h3) (And.intro (decide_eq_true h3) (And.intro (decide_eq_true h3) (And.intro (decide_eq_true h4) (And.intro h2 (And.intro (F42_ok (m + 1) (w64 (0 - w64 (if 4611686018427387904 < IntKind.wrap IntKind.u64 (z1060 + 1) then 4611686018427387904 else IntKind.wrap IntKind.u64 (z1060 + 1)))) z1062 h5) True.intro)))))))))))
          · skip
            obtain ⟨z1063, h5, h⟩ := bnd_eq h
            cases h
            exact call_pathL (gs := [.f, .an (V.tup [V.int IntKind.u64 z1060, V.int IntKind.u64 z1061]) [], .t, .t, .t, .t, .t, .t, .f, .t, .an (i64 z1063) []]) (notIn []) rfl rfl (by kernel_rfl) (And.intro (decide_eq_false h0) (And.intro h1 (And.intro h2 (And.intro h2 (And.intro h2 (And.intro (decide_eq_true h3) (And.intro (decide_eq_true h3) (And.intro (decide_eq_true h3) (And.intro (decide_eq_false h4) (And.intro h2 (And.intro (F42_ok (m + 1) (w64 (0 - w64 (if 4611686018427387904 < z1060 then 4611686018427387904 else z1060))) z1063 h5) True.intro)))))))))))
        · skip
          obtain ⟨z1064, h4, h⟩ := bnd_eq h
          cases h
          exact call_pathL (gs := [.f, .an (V.tup [V.int IntKind.u64 z1060, V.int IntKind.u64 z1061]) [], .t, .t, .t, .f, .f, .f, .a, .t, .an (i64 z1064) []]) (notIn []) rfl rfl (by kernel_rfl) (And.intro (decide_eq_false h0) (And.intro h1 (And.intro h2 (And.intro h2 (And.intro h2 (And.intro (decide_eq_false h3) (And.intro (decide_eq_false h3) (And.intro (decide_eq_false h3) (And.intro h2 (And.intro (F42_ok (m + 1) (w64 (0 - w64 (if 4611686018427387904 < z1060 then 4611686018427387904 else z1060))) z1064 h4) True.intro))))))))))
      · skip
        obtain ⟨z1065, h3, h⟩ := bnd_eq h
        cases h
        exact call_pathL (gs := [.f, .an (V.tup [V.int IntKind.u64 z1060, V.int IntKind.u64 z1061]) [], .f, .f, .f, .a, .a, .a, .a, .f, .an (i64 z1065) []]) (notIn []) rfl rfl (by kernel_rfl) (And.intro (decide_eq_false h0) (And.intro h1 (And.intro (Bool.eq_false_iff.mpr h2) (And.intro (Bool.eq_false_iff.mpr h2) (And.intro (Bool.eq_false_iff.mpr h2) (And.intro (Bool.eq_false_iff.mpr h2) (And.intro (F42_ok (m + 1) (w64 (if 4611686018427387904 < z1060 then 4611686018427387904 else z1060)) z1065 h3) True.intro)))))))
/-! ## 85 -/
inductive A85 where
  | a0 (z1067 : Int)
@[reducible] def A85.out : A85 → V × Store
  | .a0 z1067 => (i64 z1067, [])
def F85 (z1029 : Int) (z1030 : Int) : Option A85 :=
  bnd (F42 (z1029)) fun z1032 =>
  (F106 (z1032)).bind fun r => match r with
  | .a0 z1037 b1038 =>
   bnd (F42 (z1030)) fun z1039 =>
   (F106 (z1039)).bind fun r => match r with
   | .a0 z1040 b1041 =>
    (F96 (z1037) (z1040)).bind fun r => match r with
    | .a0 z1042 z1043 =>
     (F107 (z1042) (z1043) (65536) (!b1038 == b1041)).bind fun r => match r with
     | .a0 z1066 =>
      some (A85.a0 (z1066))
theorem F85_ok (m : Nat) (z1029 : Int) (z1030 : Int) (r : A85) (h : F85 z1029 z1030 = some r) : call Try.prog X O0 100000 (m + 5) 85 ([i64 z1029, i64 z1030]) ([]) = some r.out := by
  unfold F85 at h
  obtain ⟨z1032, h0, h⟩ := bnd_eq h
  obtain ⟨r1, h1, h⟩ := Option.bind_eq_some_iff.mp h
  have h1 := F106_ok (m + 3) (z1032) r1 h1
  cases r1 with
  | a0 z1037 b1038 =>
    obtain ⟨z1039, h2, h⟩ := bnd_eq h
    obtain ⟨r3, h3, h⟩ := Option.bind_eq_some_iff.mp h
    have h3 := F106_ok (m + 3) (z1039) r3 h3
    cases r3 with
    | a0 z1040 b1041 =>
      obtain ⟨r4, h4, h⟩ := Option.bind_eq_some_iff.mp h
      have h4 := F96_ok (m + 3) (z1037) (z1040) r4 h4
      cases r4 with
      | a0 z1042 z1043 =>
        obtain ⟨r5, h5, h⟩ := Option.bind_eq_some_iff.mp h
        have h5 := F107_ok (m + 0) (z1042) (z1043) (65536) (!b1038 == b1041) r5 h5
        cases r5 with
        | a0 z1066 =>
          cases h
          exact call_pathL (gs := [.an (i64 z1032) [], .an (V.tup [V.int IntKind.u64 z1037, vb b1038]) [], .an (i64 z1039) [], .an (V.tup [V.int IntKind.u64 z1040, vb b1041]) [], .an (V.tup [V.int IntKind.u64 z1042, V.int IntKind.u64 z1043]) [], .an (i64 z1066) []]) (notIn []) rfl rfl (by kernel_rfl) (And.intro (F42_ok (m + 2) (z1029) z1032 h0) (And.intro h1 (And.intro (F42_ok (m + 2) (z1030) z1039 h2) (And.intro h3 (And.intro h4 (And.intro h5 True.intro))))))
/-! ## 119 -/
def F119 (z1076 : Int) (z1077 : Int) : Int :=
  bnd (F42 (z1076)) fun z1079 =>
  bnd (F42 (z1077)) fun z1080 =>
  bnd (F42 (w64 (z1079 + z1080))) fun z1081 =>
  z1081
theorem F119_ok (m : Nat) (z1076 : Int) (z1077 : Int) (z1083 : Int) (h : F119 z1076 z1077 = z1083) : call Try.prog X O0 100000 (m + 3) 119 ([i64 z1076, i64 z1077]) ([]) = some (i64 z1083, []) := by
  unfold F119 at h
  obtain ⟨z1079, h0, h⟩ := bnd_eq h
  obtain ⟨z1080, h1, h⟩ := bnd_eq h
  obtain ⟨z1081, h2, h⟩ := bnd_eq h
  subst h
  exact call_pathL (gs := [.an (i64 z1079) [], .an (i64 z1080) [], .an (i64 z1081) []]) (notIn []) rfl rfl (by kernel_rfl) (And.intro (F42_ok (m + 0) (z1076) z1079 h0) (And.intro (F42_ok (m + 0) (z1077) z1080 h1) (And.intro (F42_ok (m + 0) (w64 (z1079 + z1080)) z1081 h2) True.intro)))
/-! ## 114 -/
inductive A114 where
  | a0 (z1086 : Int)
@[reducible] def A114.out : A114 → V × Store
  | .a0 z1086 => (i64 z1086, [])
def F114 (z1024 : Int) (z1025 : Int) (z1026 : Int) : Option A114 :=
  bnd (F43 (z1026) (0) (65536)) fun z1028 =>
  (F85 (w64 (65536 - z1028)) (w64 (65536 - z1028))).bind fun r => match r with
  | .a0 z1068 =>
   (F85 (z1068) (z1028)).bind fun r => match r with
   | .a0 z1069 =>
    (F85 (w64 (65536 - z1028)) (z1028)).bind fun r => match r with
    | .a0 z1070 =>
     (F85 (z1070) (z1028)).bind fun r => match r with
     | .a0 z1071 =>
      (F85 (z1028) (z1028)).bind fun r => match r with
      | .a0 z1072 =>
       (F85 (z1072) (z1028)).bind fun r => match r with
       | .a0 z1073 =>
        (F85 (w64 (3 * z1069)) (z1024)).bind fun r => match r with
        | .a0 z1074 =>
         (F85 (w64 (3 * z1071)) (z1025)).bind fun r => match r with
         | .a0 z1075 =>
          bnd (F119 (z1074) (z1075)) fun z1084 =>
          bnd (F119 (z1084) (z1073)) fun z1085 =>
          some (A114.a0 (z1085))
theorem F114_ok (m : Nat) (z1024 : Int) (z1025 : Int) (z1026 : Int) (r : A114) (h : F114 z1024 z1025 z1026 = some r) : call Try.prog X O0 100000 (m + 6) 114 ([i64 z1024, i64 z1025, i64 z1026]) ([]) = some r.out := by
  unfold F114 at h
  obtain ⟨z1028, h0, h⟩ := bnd_eq h
  obtain ⟨r1, h1, h⟩ := Option.bind_eq_some_iff.mp h
  have h1 := F85_ok (m + 0) (w64 (65536 - z1028)) (w64 (65536 - z1028)) r1 h1
  cases r1 with
  | a0 z1068 =>
    obtain ⟨r2, h2, h⟩ := Option.bind_eq_some_iff.mp h
    have h2 := F85_ok (m + 0) (z1068) (z1028) r2 h2
    cases r2 with
    | a0 z1069 =>
      obtain ⟨r3, h3, h⟩ := Option.bind_eq_some_iff.mp h
      have h3 := F85_ok (m + 0) (w64 (65536 - z1028)) (z1028) r3 h3
      cases r3 with
      | a0 z1070 =>
        obtain ⟨r4, h4, h⟩ := Option.bind_eq_some_iff.mp h
        have h4 := F85_ok (m + 0) (z1070) (z1028) r4 h4
        cases r4 with
        | a0 z1071 =>
          obtain ⟨r5, h5, h⟩ := Option.bind_eq_some_iff.mp h
          have h5 := F85_ok (m + 0) (z1028) (z1028) r5 h5
          cases r5 with
          | a0 z1072 =>
            obtain ⟨r6, h6, h⟩ := Option.bind_eq_some_iff.mp h
            have h6 := F85_ok (m + 0) (z1072) (z1028) r6 h6
            cases r6 with
            | a0 z1073 =>
              obtain ⟨r7, h7, h⟩ := Option.bind_eq_some_iff.mp h
              have h7 := F85_ok (m + 0) (w64 (3 * z1069)) (z1024) r7 h7
              cases r7 with
              | a0 z1074 =>
                obtain ⟨r8, h8, h⟩ := Option.bind_eq_some_iff.mp h
                have h8 := F85_ok (m + 0) (w64 (3 * z1071)) (z1025) r8 h8
                cases r8 with
                | a0 z1075 =>
                  obtain ⟨z1084, h9, h⟩ := bnd_eq h
                  obtain ⟨z1085, h10, h⟩ := bnd_eq h
                  cases h
                  exact call_pathL (gs := [.an (i64 z1028) [], .an (i64 z1068) [], .an (i64 z1069) [], .an (i64 z1070) [], .an (i64 z1071) [], .an (i64 z1072) [], .an (i64 z1073) [], .an (i64 z1074) [], .an (i64 z1075) [], .an (i64 z1084) [], .an (i64 z1085) []]) (notIn []) rfl rfl (by kernel_rfl) (And.intro (F43_ok (m + 4) (z1026) (0) (65536) z1028 h0) (And.intro h1 (And.intro h2 (And.intro h3 (And.intro h4 (And.intro h5 (And.intro h6 (And.intro h7 (And.intro h8 (And.intro (F119_ok (m + 2) (z1074) (z1075) z1084 h9) (And.intro (F119_ok (m + 2) (z1084) (z1073) z1085 h10) True.intro)))))))))))
/-! ## 99 -/
noncomputable abbrev B99 : Code := (Try.f99.body).getD .skip
inductive R99_0 where
  | e0 (z1106 : Int) (z1111 : Int) (z1113 : Int)
@[reducible] def s99_0_0 (z1105 : Int) (z1106 : Int) (z1107 : Int) (z1108 : Int) (b1109 : Bool) (z1110 : Int) (z1111 : Int) (z1112 : Int) (z1113 : Int) : S := { T := U :: i64 z1105 :: V.ptr 0 0 0 :: U :: U :: i64 z1106 :: i64 z1107 :: i64 z1108 :: un 5 (i64 z1108 :: vb b1109 :: un 22 []), σ := [Ob.cells true false 4 [[i64 z1110, i64 z1111, i64 z1112, i64 z1113]]] }
def R99_0.St : R99_0 → VX × S → Prop
  | .e0 z1106 z1111 z1113, p => ∃ z1105 : Int, ∃ z1107 : Int, ∃ z1108 : Int, ∃ b1109 : Bool, ∃ z1110 : Int, ∃ z1112 : Int, p = (VX.exit 0, s99_0_0 z1105 z1106 z1107 z1108 b1109 z1110 z1111 z1112 z1113)
def L99_0 : Nat → Int → Int → Int → Int → Int → Int → Int → Int → Option R99_0
  | 0, _, _, _, _, _, _, _, _ => none
  | n + 1, z1095, z1096, z1097, z1098, z1099, z1100, z1101, z1102 =>
    if z1098 < 16 then
     (F114 (z1099) (z1101) (w64 (Int.tdiv (w64 (z1096 + z1097)) 2))).bind fun r => match r with
     | .a0 z1104 =>
      if z1104 ≤ z1095 then
       L99_0 n (z1095) (w64 (Int.tdiv (w64 (z1096 + z1097)) 2)) (z1097) (w64 (z1098 + 1)) (z1099) (z1100) (z1101) (z1102)
      else
       L99_0 n (z1095) (z1096) (w64 (Int.tdiv (w64 (z1096 + z1097)) 2)) (w64 (z1098 + 1)) (z1099) (z1100) (z1101) (z1102)
    else
     some (R99_0.e0 (z1096) (z1100) (z1102))
theorem L99_0_ok (m : Nat) : ∀ (n : Nat) (z1095 : Int) (z1096 : Int) (z1097 : Int) (z1098 : Int) (z1099 : Int) (z1100 : Int) (z1101 : Int) (z1102 : Int) (r : R99_0), L99_0 n z1095 z1096 z1097 z1098 z1099 z1100 z1101 z1102 = some r → ∃ st, loopFrom Try.prog X (call Try.prog X O0 100000 (m + 6)) 99 (0) 100000 B99 0 n ({ T := U :: i64 z1095 :: V.ptr 0 0 0 :: U :: U :: i64 z1096 :: i64 z1097 :: i64 z1098 :: un 29 [], σ := [Ob.cells true false 4 [[i64 z1099, i64 z1100, i64 z1101, i64 z1102]]] }) = some st ∧ r.St st
  | 0, _, _, _, _, _, _, _, _, r, h => by cases h
  | n + 1, z1095, z1096, z1097, z1098, z1099, z1100, z1101, z1102, r, h => by
    rw [L99_0] at h
    rcases ite_eq h with ⟨h0, h⟩ | ⟨h0, h⟩
    · skip
      obtain ⟨r1, h1, h⟩ := Option.bind_eq_some_iff.mp h
      have h1 := F114_ok (m + 0) (z1099) (z1101) (w64 (Int.tdiv (w64 (z1096 + z1097)) 2)) r1 h1
      cases r1 with
      | a0 z1104 =>
        rcases ite_eq h with ⟨h2, h⟩ | ⟨h2, h⟩
        · skip
          obtain ⟨st, hs, hr⟩ := L99_0_ok m n (z1095) (w64 (Int.tdiv (w64 (z1096 + z1097)) 2)) (z1097) (w64 (z1098 + 1)) (z1099) (z1100) (z1101) (z1102) r h
          exact ⟨st, (round_on (gs := [.t, .a, .a, .a, .an (i64 z1104) [], .t]) (notIn []) (by kernel_rfl) (And.intro (decide_eq_true h0) (And.intro h1 (And.intro (decide_eq_true h2) True.intro))) n).trans hs, hr⟩
        · skip
          obtain ⟨st, hs, hr⟩ := L99_0_ok m n (z1095) (z1096) (w64 (Int.tdiv (w64 (z1096 + z1097)) 2)) (w64 (z1098 + 1)) (z1099) (z1100) (z1101) (z1102) r h
          exact ⟨st, (round_on (gs := [.t, .a, .a, .a, .an (i64 z1104) [], .f]) (notIn []) (by kernel_rfl) (And.intro (decide_eq_true h0) (And.intro h1 (And.intro (decide_eq_false h2) True.intro))) n).trans hs, hr⟩
    · skip
      cases h
      exact ⟨_, round_out (gs := [.f]) (notIn []) (by kernel_rfl) rfl (And.intro (decide_eq_false h0) True.intro) n, z1095, z1097, z1098, decide (z1098 < 16), z1099, z1101, rfl⟩
inductive A99 where
  | a0 (z1103 : Int)
@[reducible] def A99.out : A99 → V × Store
  | .a0 z1103 => (i64 z1103, [])
def F99 (z1012 : Int) (z1013 : Int) (z1014 : Int) (z1015 : Int) (z1016 : Int) : Option A99 :=
  if z1016 ≤ 0 then
   some (A99.a0 (0))
  else
   if z1016 ≥ 65536 then
    some (A99.a0 (65536))
   else
    (L99_0 100000 (z1016) (0) (65536) (0) (z1012) (z1013) (z1014) (z1015)).bind fun r => match r with
    | .e0 z1115 z1120 z1122 =>
     (F114 (z1120) (z1122) (z1115)).bind fun r => match r with
     | .a0 z1123 =>
      some (A99.a0 (z1123))
theorem F99_ok (m : Nat) (z1012 : Int) (z1013 : Int) (z1014 : Int) (z1015 : Int) (z1016 : Int) (r : A99) (h : F99 z1012 z1013 z1014 z1015 z1016 = some r) : call Try.prog X O0 100000 (m + 7) 99 ([V.agg [i64 z1012, i64 z1013, i64 z1014, i64 z1015], i64 z1016]) ([]) = some r.out := by
  unfold F99 at h
  rcases ite_eq h with ⟨h0, h⟩ | ⟨h0, h⟩
  · skip
    cases h
    exact call_pathL (gs := [.t]) (notIn []) rfl rfl (by kernel_rfl) (And.intro (decide_eq_true h0) True.intro)
  · skip
    rcases ite_eq h with ⟨h1, h⟩ | ⟨h1, h⟩
    · skip
      cases h
      exact call_pathL (gs := [.f, .t]) (notIn []) rfl rfl (by kernel_rfl) (And.intro (decide_eq_false h0) (And.intro (decide_eq_true h1) True.intro))
    · skip
      obtain ⟨r2, h2, h⟩ := Option.bind_eq_some_iff.mp h
      obtain ⟨st2, h2, hr2⟩ := L99_0_ok m 100000 (z1016) (0) (65536) (0) (z1012) (z1013) (z1014) (z1015) r2 h2
      have h2 : loopRun Try.prog X (call Try.prog X O0 100000 (m + 6)) 99 (0) 100000 B99 0 ({ T := V.agg [i64 z1012, i64 z1013, i64 z1014, i64 z1015] :: i64 z1016 :: V.ptr 0 0 0 :: U :: i64 0 :: i64 0 :: i64 65536 :: i64 0 :: U :: i64 z1016 :: vb (decide (z1016 ≤ 0)) :: i64 z1016 :: vb (decide (z1016 ≥ 65536)) :: un 24 [], σ := [Ob.cells true false 4 [[i64 z1012, i64 z1013, i64 z1014, i64 z1015]]] }) = some st2 := by
        rw [loopRun_from, show prep (0) (X.keep 99 0) ({ T := V.agg [i64 z1012, i64 z1013, i64 z1014, i64 z1015] :: i64 z1016 :: V.ptr 0 0 0 :: U :: i64 0 :: i64 0 :: i64 65536 :: i64 0 :: U :: i64 z1016 :: vb (decide (z1016 ≤ 0)) :: i64 z1016 :: vb (decide (z1016 ≥ 65536)) :: un 24 [], σ := [Ob.cells true false 4 [[i64 z1012, i64 z1013, i64 z1014, i64 z1015]]] }) = { T := U :: i64 z1016 :: V.ptr 0 0 0 :: U :: U :: i64 0 :: i64 65536 :: i64 0 :: un 29 [], σ := [Ob.cells true false 4 [[i64 z1012, i64 z1013, i64 z1014, i64 z1015]]] } by kernel_rfl]
        exact h2
      cases r2 with
      | e0 z1115 z1120 z1122 =>
        obtain ⟨z1114, z1116, z1117, b1118, z1119, z1121, rfl⟩ := hr2
        obtain ⟨r3, h3, h⟩ := Option.bind_eq_some_iff.mp h
        have h3 := F114_ok (m + 0) (z1120) (z1122) (z1115) r3 h3
        cases r3 with
        | a0 z1123 =>
          cases h
          exact call_pathL (gs := [.f, .f, .lp (VX.exit 0) (s99_0_0 z1114 z1115 z1116 z1117 b1118 z1119 z1120 z1121 z1122), .a, .a, .an (i64 z1123) []]) (notIn []) rfl rfl (by kernel_rfl) (And.intro (decide_eq_false h0) (And.intro (decide_eq_false h1) (And.intro h2 (And.intro h3 True.intro))))
/-! ## 72 -/
inductive A72 where
  | a0 (z1011 : Int)
@[reducible] def A72.out : A72 → V × Store
  | .a0 z1011 => (i64 z1011, [])
def F72 (z1004 : Int) (z1005 : Int) (z1006 : Int) (z1007 : Int) (z1008 : Int) (z1009 : Int) : Option A72 :=
  if (z1004 == 0) = true then
   if z1009 ≥ 65536 then
    some (A72.a0 (65536))
   else
    some (A72.a0 (0))
  else
   if (z1004 == 1) = true then
    some (A72.a0 (z1009))
   else
    if (z1004 == 2) = true then
     (F99 (z1005) (z1006) (z1007) (z1008) (z1009)).bind fun r => match r with
     | .a0 z1124 =>
      some (A72.a0 (z1124))
    else
     some (A72.a0 (0))
theorem F72_ok (m : Nat) (z1004 : Int) (z1005 : Int) (z1006 : Int) (z1007 : Int) (z1008 : Int) (z1009 : Int) (r : A72) (h : F72 z1004 z1005 z1006 z1007 z1008 z1009 = some r) : call Try.prog X O0 100000 (m + 8) 72 ([i64 z1004, V.agg [i64 z1005, i64 z1006, i64 z1007, i64 z1008], i64 z1009]) ([]) = some r.out := by
  unfold F72 at h
  rcases ite_eq h with ⟨h0, h⟩ | ⟨h0, h⟩
  · skip
    rcases ite_eq h with ⟨h1, h⟩ | ⟨h1, h⟩
    · skip
      cases h
      exact call_pathL (gs := [.t, .t]) (notIn []) rfl rfl (by kernel_rfl) (And.intro h0 (And.intro (decide_eq_true h1) True.intro))
    · skip
      cases h
      exact call_pathL (gs := [.t, .f]) (notIn []) rfl rfl (by kernel_rfl) (And.intro h0 (And.intro (decide_eq_false h1) True.intro))
  · skip
    rcases ite_eq h with ⟨h1, h⟩ | ⟨h1, h⟩
    · skip
      cases h
      exact call_pathL (gs := [.f, .t]) (notIn []) rfl rfl (by kernel_rfl) (And.intro (Bool.eq_false_iff.mpr h0) (And.intro h1 True.intro))
    · skip
      rcases ite_eq h with ⟨h2, h⟩ | ⟨h2, h⟩
      · skip
        obtain ⟨r3, h3, h⟩ := Option.bind_eq_some_iff.mp h
        have h3 := F99_ok (m + 0) (z1005) (z1006) (z1007) (z1008) (z1009) r3 h3
        cases r3 with
        | a0 z1124 =>
          cases h
          exact call_pathL (gs := [.f, .f, .t, .a, .an (i64 z1124) []]) (notIn []) rfl rfl (by kernel_rfl) (And.intro (Bool.eq_false_iff.mpr h0) (And.intro (Bool.eq_false_iff.mpr h1) (And.intro h2 (And.intro h3 True.intro))))
      · skip
        cases h
        exact call_pathL (gs := [.f, .f, .f]) (notIn []) rfl rfl (by kernel_rfl) (And.intro (Bool.eq_false_iff.mpr h0) (And.intro (Bool.eq_false_iff.mpr h1) (And.intro (Bool.eq_false_iff.mpr h2) True.intro)))
/-! ## 45 -/
noncomputable abbrev B45v1 : Code := (Try.f45.body).getD .skip
inductive R45v1_0 where
  | e0 (l975 : List (List V)) (z976 : Int) (z977 : Int)
@[reducible] def s45v1_0_0 (l975 : List (List V)) (z976 : Int) (z977 : Int) (z978 : Int) (z979 : Int) (b980 : Bool) : S := { T := V.list 10 l975 :: i64 z976 :: un 4 (V.ptr 0 0 0 :: i64 z977 :: i64 z978 :: un 4 (i64 z978 :: V.list 10 l975 :: i64 z979 :: vb b980 :: un 62 [])), σ := [Ob.cells true false 4 [[u8 0, u8 0, u8 0, u8 0]]] }
def R45v1_0.St : R45v1_0 → VX × S → Prop
  | .e0 l975 z976 z977, p => ∃ z978 : Int, ∃ z979 : Int, ∃ b980 : Bool, p = (VX.exit 0, s45v1_0_0 l975 z976 z977 z978 z979 b980)
def L45v1_0 : Nat → List (List V) → Int → Int → Int → Option R45v1_0
  | 0, _, _, _, _ => none
  | n + 1, l957, z958, z959, z960 =>
    if z960 < (↑(List.length l957) : Int) then
     if 0 ≤ z960 then
      ((l957[Int.toNat z960]?).bind W33.dec).bind fun e974 =>
      if e974.c0 ≤ z958 then
       L45v1_0 n (l957) (z958) (z960) (w64 (z960 + 1))
      else
       L45v1_0 n (l957) (z958) (z959) (w64 (z960 + 1))
     else
      none -- none
    else
     some (R45v1_0.e0 (l957) (z958) (z959))
theorem L45v1_0_ok (m : Nat) : ∀ (n : Nat) (l957 : List (List V)) (z958 : Int) (z959 : Int) (z960 : Int) (r : R45v1_0), L45v1_0 n l957 z958 z959 z960 = some r → ∃ st, loopFrom Try.prog X (call Try.prog X O0 100000 (m + 8)) 45 (0) 100000 B45v1 0 n ({ T := V.list 10 l957 :: i64 z958 :: un 4 (V.ptr 0 0 0 :: i64 z959 :: i64 z960 :: un 70 []), σ := [Ob.cells true false 4 [[u8 0, u8 0, u8 0, u8 0]]] }) = some st ∧ r.St st
  | 0, _, _, _, _, r, h => by cases h
  | n + 1, l957, z958, z959, z960, r, h => by
    rw [L45v1_0] at h
    rcases ite_eq h with ⟨h0, h⟩ | ⟨h0, h⟩
    · skip
      rcases ite_eq h with ⟨h1, h⟩ | ⟨h1, h⟩
      · skip
        obtain ⟨e974, h2, h⟩ := Option.bind_eq_some_iff.mp h
        rcases ite_eq h with ⟨h3, h⟩ | ⟨h3, h⟩
        · skip
          obtain ⟨st, hs, hr⟩ := L45v1_0_ok m n (l957) (z958) (z960) (w64 (z960 + 1)) r h
          exact ⟨st, (round_on (gs := [.t, .t, .el (W33.cells e974), .t]) (notIn []) (by kernel_rfl) (And.intro (decide_eq_true h0) (And.intro (decide_eq_true h1) (And.intro (W33.dec_ok h2) (And.intro (decide_eq_true h3) True.intro)))) n).trans hs, hr⟩
        · skip
          obtain ⟨st, hs, hr⟩ := L45v1_0_ok m n (l957) (z958) (z959) (w64 (z960 + 1)) r h
          exact ⟨st, (round_on (gs := [.t, .t, .el (W33.cells e974), .f]) (notIn []) (by kernel_rfl) (And.intro (decide_eq_true h0) (And.intro (decide_eq_true h1) (And.intro (W33.dec_ok h2) (And.intro (decide_eq_false h3) True.intro)))) n).trans hs, hr⟩
      · skip
        cases h
    · skip
      cases h
      exact ⟨_, round_out (gs := [.f]) (notIn []) (by kernel_rfl) rfl (And.intro (decide_eq_false h0) True.intro) n, z960, (↑(List.length l957) : Int), decide (z960 < (↑(List.length l957) : Int)), rfl⟩
inductive A45v1 where
  | a0 (z970 : Int) (z971 : Int) (z972 : Int) (z973 : Int)
@[reducible] def A45v1.out : A45v1 → V × Store
  | .a0 z970 z971 z972 z973 => (V.agg [u8 z970, u8 z971, u8 z972, u8 z973], [])
def F45v1 (l943 : List (List V)) (z944 : Int) (z945 : Int) (z946 : Int) (z947 : Int) (z948 : Int) : Option A45v1 :=
  if ((↑(List.length l943) : Int) == 0) = true then
   some (A45v1.a0 (z945) (z946) (z947) (z948))
  else
   (L45v1_0 100000 (l943) (z944) (-1) (0)).bind fun r => match r with
   | .e0 l981 z982 z983 =>
    if z983 < 0 then
     ((l981[(0 : Nat)]?).bind W33.dec).bind fun e987 =>
     some (A45v1.a0 (e987.c1) (e987.c2) (e987.c3) (e987.c4))
    else
     if (z983 == w64 ((↑(List.length l981) : Int) - 1)) = true then
      if 0 ≤ z983 then
       ((l981[Int.toNat z983]?).bind W33.dec).bind fun e988 =>
       some (A45v1.a0 (e988.c1) (e988.c2) (e988.c3) (e988.c4))
      else
       none -- none
     else
      if 0 ≤ z983 then
       ((l981[Int.toNat z983]?).bind W33.dec).bind fun e989 =>
       if 0 ≤ w64 (z983 + 1) then
        ((l981[Int.toNat (w64 (z983 + (1 : Int)))]?).bind W33.dec).bind fun e990 =>
        ((l981[Int.toNat z983]?).bind W33.dec).bind fun e991 =>
        ((l981[Int.toNat z983]?).bind W33.dec).bind fun e992 =>
        ((l981[Int.toNat z983]?).bind W33.dec).bind fun e993 =>
        ((l981[Int.toNat (w64 (z983 + (1 : Int)))]?).bind W33.dec).bind fun e994 =>
        (F73 (e993.c0) (e994.c0) (z982)).bind fun r => match r with
        | .a0 z1003 =>
         (F72 (e991.c5) (e992.c6) (e992.c7) (e992.c8) (e992.c9) (z1003)).bind fun r => match r with
         | .a0 z1125 =>
          (F22 (e989.c1) (e989.c2) (e989.c3) (e989.c4) (e990.c1) (e990.c2) (e990.c3) (e990.c4) (z1125)).bind fun r => match r with
          | .a0 z1126 z1127 z1128 z1129 =>
           some (A45v1.a0 (z1126) (z1127) (z1128) (z1129))
       else
        none -- none
      else
       none -- none
theorem F45v1_ok (m : Nat) (l943 : List (List V)) (z944 : Int) (z945 : Int) (z946 : Int) (z947 : Int) (z948 : Int) (r : A45v1) (h : F45v1 l943 z944 z945 z946 z947 z948 = some r) : call Try.prog X O0 100000 (m + 9) 45 ([V.list 10 l943, i64 z944, V.agg [u8 z945, u8 z946, u8 z947, u8 z948]]) ([]) = some r.out := by
  unfold F45v1 at h
  rcases ite_eq h with ⟨h0, h⟩ | ⟨h0, h⟩
  · skip
    cases h
    exact call_pathL (gs := [.t, .a, .a]) (notIn []) rfl rfl (by kernel_rfl) (And.intro h0 True.intro)
  · skip
    obtain ⟨r1, h1, h⟩ := Option.bind_eq_some_iff.mp h
    obtain ⟨st1, h1, hr1⟩ := L45v1_0_ok m 100000 (l943) (z944) (-1) (0) r1 h1
    have h1 : loopRun Try.prog X (call Try.prog X O0 100000 (m + 8)) 45 (0) 100000 B45v1 0 ({ T := V.list 10 l943 :: i64 z944 :: V.agg [u8 z945, u8 z946, u8 z947, u8 z948] :: U :: U :: V.ptr 0 0 0 :: V.ptr 1 0 0 :: i64 (-1) :: i64 0 :: V.list 10 l943 :: i64 (↑(List.length l943) : Int) :: vb ((↑(List.length l943) : Int) == 0) :: un 67 [], σ := [Ob.cells true false 4 [[u8 z945, u8 z946, u8 z947, u8 z948]], Ob.cells true false 4 [[u8 0, u8 0, u8 0, u8 0]]] }) = some st1 := by
      rw [loopRun_from, show prep (0) (X.keep 45 0) ({ T := V.list 10 l943 :: i64 z944 :: V.agg [u8 z945, u8 z946, u8 z947, u8 z948] :: U :: U :: V.ptr 0 0 0 :: V.ptr 1 0 0 :: i64 (-1) :: i64 0 :: V.list 10 l943 :: i64 (↑(List.length l943) : Int) :: vb ((↑(List.length l943) : Int) == 0) :: un 67 [], σ := [Ob.cells true false 4 [[u8 z945, u8 z946, u8 z947, u8 z948]], Ob.cells true false 4 [[u8 0, u8 0, u8 0, u8 0]]] }) = { T := V.list 10 l943 :: i64 z944 :: un 4 (V.ptr 0 0 0 :: i64 (-1) :: i64 0 :: un 70 []), σ := [Ob.cells true false 4 [[u8 0, u8 0, u8 0, u8 0]]] } by kernel_rfl]
      exact h1
    cases r1 with
    | e0 l981 z982 z983 =>
      obtain ⟨z984, z985, b986, rfl⟩ := hr1
      rcases ite_eq h with ⟨h2, h⟩ | ⟨h2, h⟩
      · skip
        obtain ⟨e987, h3, h⟩ := Option.bind_eq_some_iff.mp h
        cases h
        exact call_pathL (gs := [.f, .lp (VX.exit 0) (s45v1_0_0 l981 z982 z983 z984 z985 b986), .t, .a, .el (W33.cells e987), .a]) (notIn []) rfl rfl (by kernel_rfl) (And.intro (Bool.eq_false_iff.mpr h0) (And.intro h1 (And.intro (decide_eq_true h2) (And.intro (W33.dec_ok h3) True.intro))))
      · skip
        rcases ite_eq h with ⟨h3, h⟩ | ⟨h3, h⟩
        · skip
          rcases ite_eq h with ⟨h4, h⟩ | ⟨h4, h⟩
          · skip
            obtain ⟨e988, h5, h⟩ := Option.bind_eq_some_iff.mp h
            cases h
            exact call_pathL (gs := [.f, .lp (VX.exit 0) (s45v1_0_0 l981 z982 z983 z984 z985 b986), .f, .t, .t, .el (W33.cells e988), .a]) (notIn []) rfl rfl (by kernel_rfl) (And.intro (Bool.eq_false_iff.mpr h0) (And.intro h1 (And.intro (decide_eq_false h2) (And.intro h3 (And.intro (decide_eq_true h4) (And.intro (W33.dec_ok h5) True.intro))))))
          · skip
            cases h
        · skip
          rcases ite_eq h with ⟨h4, h⟩ | ⟨h4, h⟩
          · skip
            obtain ⟨e989, h5, h⟩ := Option.bind_eq_some_iff.mp h
            rcases ite_eq h with ⟨h6, h⟩ | ⟨h6, h⟩
            · skip
              obtain ⟨e990, h7, h⟩ := Option.bind_eq_some_iff.mp h
              obtain ⟨e991, h8, h⟩ := Option.bind_eq_some_iff.mp h
              obtain ⟨e992, h9, h⟩ := Option.bind_eq_some_iff.mp h
              obtain ⟨e993, h10, h⟩ := Option.bind_eq_some_iff.mp h
              obtain ⟨e994, h11, h⟩ := Option.bind_eq_some_iff.mp h
              obtain ⟨r12, h12, h⟩ := Option.bind_eq_some_iff.mp h
              have h12 := F73_ok (m + 5) (e993.c0) (e994.c0) (z982) r12 h12
              cases r12 with
              | a0 z1003 =>
                obtain ⟨r13, h13, h⟩ := Option.bind_eq_some_iff.mp h
                have h13 := F72_ok (m + 0) (e991.c5) (e992.c6) (e992.c7) (e992.c8) (e992.c9) (z1003) r13 h13
                cases r13 with
                | a0 z1125 =>
                  obtain ⟨r14, h14, h⟩ := Option.bind_eq_some_iff.mp h
                  have h14 := F22_ok (m + 5) (e989.c1) (e989.c2) (e989.c3) (e989.c4) (e990.c1) (e990.c2) (e990.c3) (e990.c4) (z1125) r14 h14
                  cases r14 with
                  | a0 z1126 z1127 z1128 z1129 =>
                    cases h
                    exact call_pathL (gs := [.f, .lp (VX.exit 0) (s45v1_0_0 l981 z982 z983 z984 z985 b986), .f, .f, .t, .el (W33.cells e989), .t, .el (W33.cells e990), .t, .el (W33.cells e991), .t, .el (W33.cells e992), .t, .el (W33.cells e993), .t, .el (W33.cells e994), .an (i64 z1003) [], .an (i64 z1125) [], .an (V.agg [u8 z1126, u8 z1127, u8 z1128, u8 z1129]) [], .a, .ft [⟨0, [], []⟩, ⟨1, [], []⟩, ⟨2, [], []⟩, ⟨3, [], []⟩, ⟨4, [], []⟩, ⟨5, [], []⟩, ⟨6, [], []⟩, ⟨7, [], []⟩, ⟨8, [], []⟩, ⟨9, [], []⟩, ⟨10, [], []⟩, ⟨11, [], []⟩, ⟨12, [], []⟩, ⟨13, [], []⟩, ⟨14, [], []⟩, ⟨15, [], []⟩, ⟨16, [], []⟩, ⟨17, [], []⟩, ⟨18, [], []⟩, ⟨19, [], []⟩, ⟨20, [], []⟩, ⟨21, [], []⟩, ⟨22, [], []⟩, ⟨23, [], []⟩, ⟨24, [], []⟩, ⟨25, [], []⟩, ⟨26, [], []⟩, ⟨27, [], []⟩, ⟨28, [], []⟩, ⟨29, [], []⟩, ⟨30, [], []⟩, ⟨31, [], []⟩, ⟨32, [], []⟩, ⟨33, [], []⟩, ⟨34, [], []⟩, ⟨35, [], []⟩, ⟨36, [0], [0]⟩]]) (notIn []) rfl rfl (by kernel_rfl) (And.intro (Bool.eq_false_iff.mpr h0) (And.intro h1 (And.intro (decide_eq_false h2) (And.intro (Bool.eq_false_iff.mpr h3) (And.intro (decide_eq_true h4) (And.intro (W33.dec_ok h5) (And.intro (decide_eq_true h6) (And.intro (W33.dec_ok h7) (And.intro (decide_eq_true h4) (And.intro (W33.dec_ok h8) (And.intro (decide_eq_true h4) (And.intro (W33.dec_ok h9) (And.intro (decide_eq_true h4) (And.intro (W33.dec_ok h10) (And.intro (decide_eq_true h6) (And.intro (W33.dec_ok h11) (And.intro h12 (And.intro h13 (And.intro h14 (And.intro (Eq.refl ([⟨0, [], []⟩, ⟨1, [], []⟩, ⟨2, [], []⟩, ⟨3, [], []⟩, ⟨4, [], []⟩, ⟨5, [], []⟩, ⟨6, [], []⟩, ⟨7, [], []⟩, ⟨8, [], []⟩, ⟨9, [], []⟩, ⟨10, [], []⟩, ⟨11, [], []⟩, ⟨12, [], []⟩, ⟨13, [], []⟩, ⟨14, [], []⟩, ⟨15, [], []⟩, ⟨16, [], []⟩, ⟨17, [], []⟩, ⟨18, [], []⟩, ⟨19, [], []⟩, ⟨20, [], []⟩, ⟨21, [], []⟩, ⟨22, [], []⟩, ⟨23, [], []⟩, ⟨24, [], []⟩, ⟨25, [], []⟩, ⟨26, [], []⟩, ⟨27, [], []⟩, ⟨28, [], []⟩, ⟨29, [], []⟩, ⟨30, [], []⟩, ⟨31, [], []⟩, ⟨32, [], []⟩, ⟨33, [], []⟩, ⟨34, [], []⟩, ⟨35, [], []⟩, ⟨36, [0], [0]⟩] : List Foot)) True.intro))))))))))))))))))))
            · skip
              cases h
          · skip
            cases h
/-! ## 24 -/
inductive A24v1 where
  | a0 (b1134 : Bool)
@[reducible] def A24v1.out : A24v1 → V × Store
  | .a0 b1134 => (vb b1134, [])
def F24v1 (l233 : List (List V)) (z234 : Int) (z235 : Int) (z236 : Int) (z237 : Int) (z238 : Int) : Option A24v1 :=
  (F16v1 (l233)).bind fun r => match r with
  | .a0 b364 =>
   (F44v1 (l233)).bind fun r => match r with
   | .a0 b684 =>
    if (b364 == b684) = true then
     (F15v1 (l233) (z234) (z235) (z236) (z237) (z238)).bind fun r => match r with
     | .a0 z939 z940 z941 z942 =>
      (F45v1 (l233) (z234) (z235) (z236) (z237) (z238)).bind fun r => match r with
      | .a0 z1130 z1131 z1132 z1133 =>
       some (A24v1.a0 (z939 == z1130 && (z940 == z1131 && (z941 == z1132 && (z942 == z1133 && true)))))
    else
     some (A24v1.a0 (false))
theorem F24v1_ok (m : Nat) (l233 : List (List V)) (z234 : Int) (z235 : Int) (z236 : Int) (z237 : Int) (z238 : Int) (r : A24v1) (h : F24v1 l233 z234 z235 z236 z237 z238 = some r) : call Try.prog X O0 100000 (m + 10) 24 ([V.list 10 l233, i64 z234, V.agg [u8 z235, u8 z236, u8 z237, u8 z238]]) ([]) = some r.out := by
  unfold F24v1 at h
  obtain ⟨r0, h0, h⟩ := Option.bind_eq_some_iff.mp h
  have h0 := F16v1_ok (m + 5) (l233) r0 h0
  cases r0 with
  | a0 b364 =>
    obtain ⟨r1, h1, h⟩ := Option.bind_eq_some_iff.mp h
    have h1 := F44v1_ok (m + 5) (l233) r1 h1
    cases r1 with
    | a0 b684 =>
      rcases ite_eq h with ⟨h2, h⟩ | ⟨h2, h⟩
      · skip
        obtain ⟨r3, h3, h⟩ := Option.bind_eq_some_iff.mp h
        have h3 := F15v1_ok (m + 2) (l233) (z234) (z235) (z236) (z237) (z238) r3 h3
        cases r3 with
        | a0 z939 z940 z941 z942 =>
          obtain ⟨r4, h4, h⟩ := Option.bind_eq_some_iff.mp h
          have h4 := F45v1_ok (m + 0) (l233) (z234) (z235) (z236) (z237) (z238) r4 h4
          cases r4 with
          | a0 z1130 z1131 z1132 z1133 =>
            cases h
            exact call_pathL (gs := [.an (vb b364) [], .an (vb b684) [], .t, .t, .t, .a, .t, .an (V.agg [u8 z939, u8 z940, u8 z941, u8 z942]) [], .t, .t, .t, .a, .t, .an (V.agg [u8 z1130, u8 z1131, u8 z1132, u8 z1133]) [], .t, .t, .ft [⟨0, [], []⟩, ⟨1, [], []⟩, ⟨2, [], []⟩, ⟨3, [], []⟩, ⟨4, [], []⟩, ⟨5, [], []⟩, ⟨6, [], []⟩, ⟨7, [], []⟩, ⟨8, [0], []⟩, ⟨9, [], []⟩, ⟨10, [], []⟩, ⟨11, [], []⟩, ⟨12, [0], []⟩, ⟨13, [], []⟩, ⟨14, [], []⟩, ⟨15, [], []⟩, ⟨16, [], []⟩]]) (notIn []) rfl rfl (by kernel_rfl) (And.intro h0 (And.intro h1 (And.intro h2 (And.intro h2 (And.intro h2 (And.intro h2 (And.intro h3 (And.intro h2 (And.intro h2 (And.intro h2 (And.intro h2 (And.intro h4 (And.intro h2 (And.intro h2 (And.intro (Eq.refl ([⟨0, [], []⟩, ⟨1, [], []⟩, ⟨2, [], []⟩, ⟨3, [], []⟩, ⟨4, [], []⟩, ⟨5, [], []⟩, ⟨6, [], []⟩, ⟨7, [], []⟩, ⟨8, [0], []⟩, ⟨9, [], []⟩, ⟨10, [], []⟩, ⟨11, [], []⟩, ⟨12, [0], []⟩, ⟨13, [], []⟩, ⟨14, [], []⟩, ⟨15, [], []⟩, ⟨16, [], []⟩] : List Foot)) True.intro)))))))))))))))
      · skip
        cases h
        exact call_pathL (gs := [.an (vb b364) [], .an (vb b684) [], .f, .f, .f, .f, .f, .f, .f, .f, .f, .f, .ft [⟨0, [], []⟩, ⟨1, [], []⟩, ⟨2, [], []⟩, ⟨3, [], []⟩, ⟨4, [], []⟩, ⟨5, [], []⟩, ⟨6, [], []⟩, ⟨7, [], []⟩, ⟨8, [], []⟩, ⟨9, [], []⟩, ⟨10, [], []⟩, ⟨11, [], []⟩, ⟨12, [], []⟩, ⟨13, [], []⟩, ⟨14, [], []⟩, ⟨15, [], []⟩, ⟨16, [], []⟩]]) (notIn []) rfl rfl (by kernel_rfl) (And.intro h0 (And.intro h1 (And.intro (Bool.eq_false_iff.mpr h2) (And.intro (Bool.eq_false_iff.mpr h2) (And.intro (Bool.eq_false_iff.mpr h2) (And.intro (Bool.eq_false_iff.mpr h2) (And.intro (Bool.eq_false_iff.mpr h2) (And.intro (Bool.eq_false_iff.mpr h2) (And.intro (Bool.eq_false_iff.mpr h2) (And.intro (Bool.eq_false_iff.mpr h2) (And.intro (Bool.eq_false_iff.mpr h2) (And.intro (Bool.eq_false_iff.mpr h2) (And.intro (Eq.refl ([⟨0, [], []⟩, ⟨1, [], []⟩, ⟨2, [], []⟩, ⟨3, [], []⟩, ⟨4, [], []⟩, ⟨5, [], []⟩, ⟨6, [], []⟩, ⟨7, [], []⟩, ⟨8, [], []⟩, ⟨9, [], []⟩, ⟨10, [], []⟩, ⟨11, [], []⟩, ⟨12, [], []⟩, ⟨13, [], []⟩, ⟨14, [], []⟩, ⟨15, [], []⟩, ⟨16, [], []⟩] : List Foot)) True.intro)))))))))))))
/-! ## 17 -/
def F17 (z1136 : Int) (z1137 : Int) (z1138 : Int) (z1139 : Int) : Int :=
  w64 (Int.tdiv (w64 (w64 (w64 (w64 (77 * w64 z1136) + w64 (150 * w64 z1137)) + w64 (29 * w64 z1138)) + 128)) 256)
theorem F17_ok (m : Nat) (z1136 : Int) (z1137 : Int) (z1138 : Int) (z1139 : Int) (z1142 : Int) (h : F17 z1136 z1137 z1138 z1139 = z1142) : call Try.prog X O0 100000 (m + 1) 17 ([V.agg [u8 z1136, u8 z1137, u8 z1138, u8 z1139]]) ([]) = some (i64 z1142, []) := by
  unfold F17 at h
  subst h
  exact call_pathL (gs := [.a, .a, .a, .a]) (notIn []) rfl rfl (by kernel_rfl) True.intro
/-! ## 23 -/
def F23 (z1144 : Int) (z1145 : Int) (z1146 : Int) (z1147 : Int) : Int :=
  w64 (Int.tdiv (w64 (w64 (w64 (w64 (77 * w64 z1144) + w64 (150 * w64 z1145)) + w64 (29 * w64 z1146)) + 128)) 256)
theorem F23_ok (m : Nat) (z1144 : Int) (z1145 : Int) (z1146 : Int) (z1147 : Int) (z1150 : Int) (h : F23 z1144 z1145 z1146 z1147 = z1150) : call Try.prog X O0 100000 (m + 1) 23 ([V.agg [u8 z1144, u8 z1145, u8 z1146, u8 z1147]]) ([]) = some (i64 z1150, []) := by
  unfold F23 at h
  subst h
  exact call_pathL (gs := [.a, .a, .a, .a]) (notIn []) rfl rfl (by kernel_rfl) True.intro
/-! ## 13 -/
inductive A13 where
  | a0 (b1162 : Bool)
@[reducible] def A13.out : A13 → V × Store
  | .a0 b1162 => (vb b1162, [])
def F13 : Option A13 :=
  (F12 (0) (0) (0) (0) (255) (255) (255) (255) (32768)).bind fun r => match r with
  | .a0 z1153 z1154 z1155 z1156 =>
   if (z1153 == 127 && (z1154 == 127 && (z1155 == 127 && (z1156 == 127 && true)))) = true then
    (F15 (5) (1) (2) (3) (4)).bind fun r => match r with
    | .a0 z1157 z1158 z1159 z1160 =>
     if (z1157 == 1 && (z1158 == 2 && (z1159 == 3 && (z1160 == 4 && true)))) = true then
      bnd (F17 (255) (255) (255) (255)) fun z1161 =>
      some (A13.a0 (z1161 == 255))
     else
      some (A13.a0 (false))
   else
    some (A13.a0 (false))
theorem F13_ok (m : Nat) (r : A13) (h : F13 = some r) : call Try.prog X O0 100000 (m + 4) 13 ([]) ([]) = some r.out := by
  unfold F13 at h
  obtain ⟨r0, h0, h⟩ := Option.bind_eq_some_iff.mp h
  have h0 := F12_ok (m + 0) (0) (0) (0) (0) (255) (255) (255) (255) (32768) r0 h0
  cases r0 with
  | a0 z1153 z1154 z1155 z1156 =>
    rcases ite_eq h with ⟨h1, h⟩ | ⟨h1, h⟩
    · skip
      obtain ⟨r2, h2, h⟩ := Option.bind_eq_some_iff.mp h
      have h2 := F15_ok (m + 2) (5) (1) (2) (3) (4) r2 h2
      cases r2 with
      | a0 z1157 z1158 z1159 z1160 =>
        rcases ite_eq h with ⟨h3, h⟩ | ⟨h3, h⟩
        · skip
          obtain ⟨z1161, h4, h⟩ := bnd_eq h
          cases h
          exact call_pathL (gs := [.an (V.agg [u8 z1153, u8 z1154, u8 z1155, u8 z1156]) [], .t, .t, .an (V.agg [u8 z1157, u8 z1158, u8 z1159, u8 z1160]) [], .t, .t, .t, .t, .t, .an (i64 z1161) [], .t, .t]) (notIn []) rfl rfl (by kernel_rfl) (And.intro h0 (And.intro h1 (And.intro h1 (And.intro h2 (And.intro h1 (And.intro h1 (And.intro h1 (And.intro h3 (And.intro h3 (And.intro (F17_ok (m + 2) (255) (255) (255) (255) z1161 h4) (And.intro h3 (And.intro h3 True.intro))))))))))))
        · skip
          cases h
          exact call_pathL (gs := [.an (V.agg [u8 z1153, u8 z1154, u8 z1155, u8 z1156]) [], .t, .t, .an (V.agg [u8 z1157, u8 z1158, u8 z1159, u8 z1160]) [], .t, .t, .t, .f, .f, .f, .f]) (notIn []) rfl rfl (by kernel_rfl) (And.intro h0 (And.intro h1 (And.intro h1 (And.intro h2 (And.intro h1 (And.intro h1 (And.intro h1 (And.intro (Bool.eq_false_iff.mpr h3) (And.intro (Bool.eq_false_iff.mpr h3) (And.intro (Bool.eq_false_iff.mpr h3) (And.intro (Bool.eq_false_iff.mpr h3) True.intro)))))))))))
    · skip
      cases h
      exact call_pathL (gs := [.an (V.agg [u8 z1153, u8 z1154, u8 z1155, u8 z1156]) [], .f, .f, .f, .f, .f, .a, .a, .a, .a]) (notIn []) rfl rfl (by kernel_rfl) (And.intro h0 (And.intro (Bool.eq_false_iff.mpr h1) (And.intro (Bool.eq_false_iff.mpr h1) (And.intro (Bool.eq_false_iff.mpr h1) (And.intro (Bool.eq_false_iff.mpr h1) (And.intro (Bool.eq_false_iff.mpr h1) True.intro))))))
/-! ## 7 -/
inductive A7 where
  | a0 (b1164 : Bool)
@[reducible] def A7.out : A7 → V × Store
  | .a0 b1164 => (vb b1164, [])
def F7 (z0 : Int) (z1 : Int) (z2 : Int) (z3 : Int) (z4 : Int) (z5 : Int) (z6 : Int) (z7 : Int) (z8 : Int) (l9 : List (List V)) (z10 : Int) (z11 : Int) (z12 : Int) (z13 : Int) (z14 : Int) : Option A7 :=
  if (↑(List.length l9) : Int) > 40 then
   if (0 : Int) ≤ (0 : Int) ∧ (0 : Int) ≤ (40 : Int) ∧ (40 : Int) ≤ (↑(List.length l9) : Int) then
    (F12 (z0) (z1) (z2) (z3) (z4) (z5) (z6) (z7) (z8)).bind fun r => match r with
    | .a0 z46 z47 z48 z49 =>
     (F22 (z0) (z1) (z2) (z3) (z4) (z5) (z6) (z7) (z8)).bind fun r => match r with
     | .a0 z106 z107 z108 z109 =>
      if (z46 == z106 && (z47 == z107 && (z48 == z108 && (z49 == z109 && true)))) = true then
       (F12 (z0) (z1) (z2) (z3) (z4) (z5) (z6) (z7) (w64 (↑(BitVec.toNat (BitVec.ofInt (IntKind.bits IntKind.i64) z8 &&& BitVec.ofInt (IntKind.bits IntKind.i64) 65535)) : Int))).bind fun r => match r with
       | .a0 z110 z111 z112 z113 =>
        (F22 (z0) (z1) (z2) (z3) (z4) (z5) (z6) (z7) (w64 (↑(BitVec.toNat (BitVec.ofInt (IntKind.bits IntKind.i64) z8 &&& BitVec.ofInt (IntKind.bits IntKind.i64) 65535)) : Int))).bind fun r => match r with
        | .a0 z114 z115 z116 z117 =>
         if (z110 == z114 && (z111 == z115 && (z112 == z116 && (z113 == z117 && true)))) = true then
          (F14 (List.take 40 l9)).bind fun r => match r with
          | .a0 =>
           (F24 (w64 (w64 (↑(BitVec.toNat (BitVec.ofInt (IntKind.bits IntKind.i64) z10 &&& BitVec.ofInt (IntKind.bits IntKind.i64) 255)) : Int) - 9)) (z0) (z1) (z2) (z3)).bind fun r => match r with
           | .a0 b232 =>
            if (b232) = true then
             (F24v1 (List.take 40 l9) (z10) (z4) (z5) (z6) (z7)).bind fun r => match r with
             | .a0 b1135 =>
              if (b1135) = true then
               bnd (F17 (z11) (z12) (z13) (z14)) fun z1143 =>
               bnd (F23 (z11) (z12) (z13) (z14)) fun z1151 =>
               if (z1143 == z1151) = true then
                (F13).bind fun r => match r with
                | .a0 b1163 =>
                 some (A7.a0 (b1163))
               else
                none -- false
              else
               none -- false
            else
             none -- false
          | .a1 k1165 l1166 =>
           if 0 + k1165 ≤ List.length l1166 then
            (F24v1 (List.take k1165 l1166) (w64 (w64 (↑(BitVec.toNat (BitVec.ofInt (IntKind.bits IntKind.i64) z10 &&& BitVec.ofInt (IntKind.bits IntKind.i64) 255)) : Int) - 9)) (z0) (z1) (z2) (z3)).bind fun r => match r with
            | .a0 b1167 =>
             if (b1167) = true then
              (F24v1 (List.take 40 l9) (z10) (z4) (z5) (z6) (z7)).bind fun r => match r with
              | .a0 b1168 =>
               if (b1168) = true then
                bnd (F17 (z11) (z12) (z13) (z14)) fun z1169 =>
                bnd (F23 (z11) (z12) (z13) (z14)) fun z1170 =>
                if (z1169 == z1170) = true then
                 (F13).bind fun r => match r with
                 | .a0 b1171 =>
                  some (A7.a0 (b1171))
                else
                 none -- false
               else
                none -- false
             else
              none -- false
           else
            none -- none
         else
          none -- false
      else
       none -- false
   else
    none -- none
  else
   (F12 (z0) (z1) (z2) (z3) (z4) (z5) (z6) (z7) (z8)).bind fun r => match r with
   | .a0 z1172 z1173 z1174 z1175 =>
    (F22 (z0) (z1) (z2) (z3) (z4) (z5) (z6) (z7) (z8)).bind fun r => match r with
    | .a0 z1176 z1177 z1178 z1179 =>
     if (z1172 == z1176 && (z1173 == z1177 && (z1174 == z1178 && (z1175 == z1179 && true)))) = true then
      (F12 (z0) (z1) (z2) (z3) (z4) (z5) (z6) (z7) (w64 (↑(BitVec.toNat (BitVec.ofInt (IntKind.bits IntKind.i64) z8 &&& BitVec.ofInt (IntKind.bits IntKind.i64) 65535)) : Int))).bind fun r => match r with
      | .a0 z1180 z1181 z1182 z1183 =>
       (F22 (z0) (z1) (z2) (z3) (z4) (z5) (z6) (z7) (w64 (↑(BitVec.toNat (BitVec.ofInt (IntKind.bits IntKind.i64) z8 &&& BitVec.ofInt (IntKind.bits IntKind.i64) 65535)) : Int))).bind fun r => match r with
       | .a0 z1184 z1185 z1186 z1187 =>
        if (z1180 == z1184 && (z1181 == z1185 && (z1182 == z1186 && (z1183 == z1187 && true)))) = true then
         (F14 (l9)).bind fun r => match r with
         | .a0 =>
          (F24 (w64 (w64 (↑(BitVec.toNat (BitVec.ofInt (IntKind.bits IntKind.i64) z10 &&& BitVec.ofInt (IntKind.bits IntKind.i64) 255)) : Int) - 9)) (z0) (z1) (z2) (z3)).bind fun r => match r with
          | .a0 b1188 =>
           if (b1188) = true then
            (F24v1 (l9) (z10) (z4) (z5) (z6) (z7)).bind fun r => match r with
            | .a0 b1189 =>
             if (b1189) = true then
              bnd (F17 (z11) (z12) (z13) (z14)) fun z1190 =>
              bnd (F23 (z11) (z12) (z13) (z14)) fun z1191 =>
              if (z1190 == z1191) = true then
               (F13).bind fun r => match r with
               | .a0 b1192 =>
                some (A7.a0 (b1192))
              else
               none -- false
             else
              none -- false
           else
            none -- false
         | .a1 k1193 l1194 =>
          if 0 + k1193 ≤ List.length l1194 then
           (F24v1 (List.take k1193 l1194) (w64 (w64 (↑(BitVec.toNat (BitVec.ofInt (IntKind.bits IntKind.i64) z10 &&& BitVec.ofInt (IntKind.bits IntKind.i64) 255)) : Int) - 9)) (z0) (z1) (z2) (z3)).bind fun r => match r with
           | .a0 b1195 =>
            if (b1195) = true then
             (F24v1 (l9) (z10) (z4) (z5) (z6) (z7)).bind fun r => match r with
             | .a0 b1196 =>
              if (b1196) = true then
               bnd (F17 (z11) (z12) (z13) (z14)) fun z1197 =>
               bnd (F23 (z11) (z12) (z13) (z14)) fun z1198 =>
               if (z1197 == z1198) = true then
                (F13).bind fun r => match r with
                | .a0 b1199 =>
                 some (A7.a0 (b1199))
               else
                none -- false
              else
               none -- false
            else
             none -- false
          else
           none -- none
        else
         none -- false
     else
      none -- false
theorem F7_ok (m : Nat) (z0 : Int) (z1 : Int) (z2 : Int) (z3 : Int) (z4 : Int) (z5 : Int) (z6 : Int) (z7 : Int) (z8 : Int) (l9 : List (List V)) (z10 : Int) (z11 : Int) (z12 : Int) (z13 : Int) (z14 : Int) (r : A7) (h : F7 z0 z1 z2 z3 z4 z5 z6 z7 z8 l9 z10 z11 z12 z13 z14 = some r) : call Try.prog X O0 100000 (m + 11) 7 ([V.agg [u8 z0, u8 z1, u8 z2, u8 z3], V.agg [u8 z4, u8 z5, u8 z6, u8 z7], i64 z8, V.list 10 l9, i64 z10, V.agg [u8 z11, u8 z12, u8 z13, u8 z14]]) ([]) = some r.out := by
  unfold F7 at h
  rcases ite_eq h with ⟨h0, h⟩ | ⟨h0, h⟩
  · skip
    rcases ite_eq h with ⟨h1, h⟩ | ⟨h1, h⟩
    · skip
      obtain ⟨r2, h2, h⟩ := Option.bind_eq_some_iff.mp h
      have h2 := F12_ok (m + 7) (z0) (z1) (z2) (z3) (z4) (z5) (z6) (z7) (z8) r2 h2
      cases r2 with
      | a0 z46 z47 z48 z49 =>
        obtain ⟨r3, h3, h⟩ := Option.bind_eq_some_iff.mp h
        have h3 := F22_ok (m + 7) (z0) (z1) (z2) (z3) (z4) (z5) (z6) (z7) (z8) r3 h3
        cases r3 with
        | a0 z106 z107 z108 z109 =>
          rcases ite_eq h with ⟨h4, h⟩ | ⟨h4, h⟩
          · skip
            obtain ⟨r5, h5, h⟩ := Option.bind_eq_some_iff.mp h
            have h5 := F12_ok (m + 7) (z0) (z1) (z2) (z3) (z4) (z5) (z6) (z7) (w64 (↑(BitVec.toNat (BitVec.ofInt (IntKind.bits IntKind.i64) z8 &&& BitVec.ofInt (IntKind.bits IntKind.i64) 65535)) : Int)) r5 h5
            cases r5 with
            | a0 z110 z111 z112 z113 =>
              obtain ⟨r6, h6, h⟩ := Option.bind_eq_some_iff.mp h
              have h6 := F22_ok (m + 7) (z0) (z1) (z2) (z3) (z4) (z5) (z6) (z7) (w64 (↑(BitVec.toNat (BitVec.ofInt (IntKind.bits IntKind.i64) z8 &&& BitVec.ofInt (IntKind.bits IntKind.i64) 65535)) : Int)) r6 h6
              cases r6 with
              | a0 z114 z115 z116 z117 =>
                rcases ite_eq h with ⟨h7, h⟩ | ⟨h7, h⟩
                · skip
                  obtain ⟨r8, h8, h⟩ := Option.bind_eq_some_iff.mp h
                  have h8 := F14_ok (m + 9) (List.take 40 l9) r8 h8
                  cases r8 with
                  | a0 =>
                    obtain ⟨r9, h9, h⟩ := Option.bind_eq_some_iff.mp h
                    have h9 := F24_ok (m + 8) (w64 (w64 (↑(BitVec.toNat (BitVec.ofInt (IntKind.bits IntKind.i64) z10 &&& BitVec.ofInt (IntKind.bits IntKind.i64) 255)) : Int) - 9)) (z0) (z1) (z2) (z3) r9 h9
                    cases r9 with
                    | a0 b232 =>
                      rcases ite_eq h with ⟨h10, h⟩ | ⟨h10, h⟩
                      · skip
                        obtain ⟨r11, h11, h⟩ := Option.bind_eq_some_iff.mp h
                        have h11 := F24v1_ok (m + 0) (List.take 40 l9) (z10) (z4) (z5) (z6) (z7) r11 h11
                        cases r11 with
                        | a0 b1135 =>
                          rcases ite_eq h with ⟨h12, h⟩ | ⟨h12, h⟩
                          · skip
                            obtain ⟨z1143, h13, h⟩ := bnd_eq h
                            obtain ⟨z1151, h14, h⟩ := bnd_eq h
                            rcases ite_eq h with ⟨h15, h⟩ | ⟨h15, h⟩
                            · skip
                              obtain ⟨r16, h16, h⟩ := Option.bind_eq_some_iff.mp h
                              have h16 := F13_ok (m + 6) r16 h16
                              cases r16 with
                              | a0 b1163 =>
                                cases h
                                exact call_pathL (gs := [.t, .t, .a, .a, .an (V.agg [u8 z46, u8 z47, u8 z48, u8 z49]) [], .a, .a, .an (V.agg [u8 z106, u8 z107, u8 z108, u8 z109]) [], .t, .a, .t, .a, .t, .t, .t, .an (V.agg [u8 z110, u8 z111, u8 z112, u8 z113]) [], .t, .a, .t, .a, .t, .t, .t, .an (V.agg [u8 z114, u8 z115, u8 z116, u8 z117]) [], .t, .t, .t, .t, .an (V.nilS) [], .t, .t, .t, .t, .a, .t, .an (vb b232) [], .t, .t, .t, .t, .a, .t, .an (vb b1135) [], .t, .t, .a, .t, .an (i64 z1143) [], .t, .a, .t, .an (i64 z1151) [], .t, .t, .t, .an (vb b1163) [], .t, .ft [⟨0, [0], []⟩, ⟨1, [1], []⟩, ⟨2, [], []⟩, ⟨3, [], []⟩, ⟨4, [0], []⟩, ⟨5, [1], []⟩, ⟨6, [], []⟩, ⟨7, [], []⟩, ⟨8, [], []⟩, ⟨9, [], []⟩, ⟨10, [0], []⟩, ⟨11, [1], []⟩, ⟨12, [], []⟩, ⟨13, [], []⟩, ⟨14, [], []⟩, ⟨15, [0], []⟩, ⟨16, [1], []⟩, ⟨17, [], []⟩, ⟨18, [], []⟩, ⟨19, [], []⟩, ⟨20, [], []⟩, ⟨21, [], []⟩, ⟨22, [], []⟩, ⟨23, [], []⟩, ⟨24, [], []⟩, ⟨25, [], []⟩, ⟨26, [], []⟩, ⟨27, [], []⟩, ⟨28, [0], []⟩, ⟨29, [], []⟩, ⟨30, [], []⟩, ⟨31, [], []⟩, ⟨32, [], []⟩, ⟨33, [], []⟩, ⟨34, [1], []⟩, ⟨35, [], []⟩, ⟨36, [], []⟩, ⟨37, [], []⟩, ⟨38, [2], []⟩, ⟨39, [], []⟩, ⟨40, [2], []⟩, ⟨41, [], []⟩, ⟨42, [], []⟩, ⟨43, [], []⟩, ⟨44, [], []⟩, ⟨45, [], []⟩, ⟨46, [], []⟩, ⟨47, [], []⟩]]) (notIn []) rfl rfl (by kernel_rfl) (And.intro (decide_eq_true h0) (And.intro (decide_eq_true h1) (And.intro h2 (And.intro h3 (And.intro h4 (And.intro h4 (And.intro h4 (And.intro h4 (And.intro h4 (And.intro h5 (And.intro h4 (And.intro h4 (And.intro h4 (And.intro h4 (And.intro h4 (And.intro h6 (And.intro h4 (And.intro h4 (And.intro h7 (And.intro h7 (And.intro h8 (And.intro h7 (And.intro h7 (And.intro h7 (And.intro h7 (And.intro h7 (And.intro h9 (And.intro h7 (And.intro h10 (And.intro h10 (And.intro h10 (And.intro h10 (And.intro h11 (And.intro h10 (And.intro h12 (And.intro h12 (And.intro (F17_ok (m + 9) (z11) (z12) (z13) (z14) z1143 h13) (And.intro h12 (And.intro h12 (And.intro (F23_ok (m + 9) (z11) (z12) (z13) (z14) z1151 h14) (And.intro h12 (And.intro h12 (And.intro h15 (And.intro h16 (And.intro h15 (And.intro (Eq.refl ([⟨0, [0], []⟩, ⟨1, [1], []⟩, ⟨2, [], []⟩, ⟨3, [], []⟩, ⟨4, [0], []⟩, ⟨5, [1], []⟩, ⟨6, [], []⟩, ⟨7, [], []⟩, ⟨8, [], []⟩, ⟨9, [], []⟩, ⟨10, [0], []⟩, ⟨11, [1], []⟩, ⟨12, [], []⟩, ⟨13, [], []⟩, ⟨14, [], []⟩, ⟨15, [0], []⟩, ⟨16, [1], []⟩, ⟨17, [], []⟩, ⟨18, [], []⟩, ⟨19, [], []⟩, ⟨20, [], []⟩, ⟨21, [], []⟩, ⟨22, [], []⟩, ⟨23, [], []⟩, ⟨24, [], []⟩, ⟨25, [], []⟩, ⟨26, [], []⟩, ⟨27, [], []⟩, ⟨28, [0], []⟩, ⟨29, [], []⟩, ⟨30, [], []⟩, ⟨31, [], []⟩, ⟨32, [], []⟩, ⟨33, [], []⟩, ⟨34, [1], []⟩, ⟨35, [], []⟩, ⟨36, [], []⟩, ⟨37, [], []⟩, ⟨38, [2], []⟩, ⟨39, [], []⟩, ⟨40, [2], []⟩, ⟨41, [], []⟩, ⟨42, [], []⟩, ⟨43, [], []⟩, ⟨44, [], []⟩, ⟨45, [], []⟩, ⟨46, [], []⟩, ⟨47, [], []⟩] : List Foot)) True.intro))))))))))))))))))))))))))))))))))))))))))))))
                            · skip
                              cases h
                          · skip
                            cases h
                      · skip
                        cases h
                  | a1 k1165 l1166 =>
                    rcases ite_eq h with ⟨h9, h⟩ | ⟨h9, h⟩
                    · skip
                      obtain ⟨r10, h10, h⟩ := Option.bind_eq_some_iff.mp h
                      have h10 := F24v1_ok (m + 0) (List.take k1165 l1166) (w64 (w64 (↑(BitVec.toNat (BitVec.ofInt (IntKind.bits IntKind.i64) z10 &&& BitVec.ofInt (IntKind.bits IntKind.i64) 255)) : Int) - 9)) (z0) (z1) (z2) (z3) r10 h10
                      cases r10 with
                      | a0 b1167 =>
                        rcases ite_eq h with ⟨h11, h⟩ | ⟨h11, h⟩
                        · skip
                          obtain ⟨r12, h12, h⟩ := Option.bind_eq_some_iff.mp h
                          have h12 := F24v1_ok (m + 0) (List.take 40 l9) (z10) (z4) (z5) (z6) (z7) r12 h12
                          cases r12 with
                          | a0 b1168 =>
                            rcases ite_eq h with ⟨h13, h⟩ | ⟨h13, h⟩
                            · skip
                              obtain ⟨z1169, h14, h⟩ := bnd_eq h
                              obtain ⟨z1170, h15, h⟩ := bnd_eq h
                              rcases ite_eq h with ⟨h16, h⟩ | ⟨h16, h⟩
                              · skip
                                obtain ⟨r17, h17, h⟩ := Option.bind_eq_some_iff.mp h
                                have h17 := F13_ok (m + 6) r17 h17
                                cases r17 with
                                | a0 b1171 =>
                                  cases h
                                  exact call_pathL (gs := [.t, .t, .a, .a, .an (V.agg [u8 z46, u8 z47, u8 z48, u8 z49]) [], .a, .a, .an (V.agg [u8 z106, u8 z107, u8 z108, u8 z109]) [], .t, .a, .t, .a, .t, .t, .t, .an (V.agg [u8 z110, u8 z111, u8 z112, u8 z113]) [], .t, .a, .t, .a, .t, .t, .t, .an (V.agg [u8 z114, u8 z115, u8 z116, u8 z117]) [], .t, .t, .t, .t, .an (V.hs 0 0 k1165) [Ob.cells true true 10 l1166], .t, .t, .t, .t, .a, .t, .t, .an (vb b1167) [], .t, .t, .t, .t, .a, .t, .an (vb b1168) [], .t, .t, .a, .t, .an (i64 z1169) [], .t, .a, .t, .an (i64 z1170) [], .t, .t, .t, .an (vb b1171) [], .t, .ft [⟨0, [0], []⟩, ⟨1, [1], []⟩, ⟨2, [], []⟩, ⟨3, [], []⟩, ⟨4, [0], []⟩, ⟨5, [1], []⟩, ⟨6, [], []⟩, ⟨7, [], []⟩, ⟨8, [], []⟩, ⟨9, [], []⟩, ⟨10, [0], []⟩, ⟨11, [1], []⟩, ⟨12, [], []⟩, ⟨13, [], []⟩, ⟨14, [], []⟩, ⟨15, [0], []⟩, ⟨16, [1], []⟩, ⟨17, [], []⟩, ⟨18, [], []⟩, ⟨19, [], []⟩, ⟨20, [], []⟩, ⟨21, [], []⟩, ⟨22, [], []⟩, ⟨23, [], []⟩, ⟨24, [3], [3]⟩, ⟨25, [], []⟩, ⟨26, [], []⟩, ⟨27, [], []⟩, ⟨28, [0], []⟩, ⟨29, [3], []⟩, ⟨30, [], []⟩, ⟨31, [], []⟩, ⟨32, [], []⟩, ⟨33, [], []⟩, ⟨34, [1], []⟩, ⟨35, [], []⟩, ⟨36, [], []⟩, ⟨37, [], []⟩, ⟨38, [2], []⟩, ⟨39, [], []⟩, ⟨40, [2], []⟩, ⟨41, [], []⟩, ⟨42, [], []⟩, ⟨43, [], []⟩, ⟨44, [], []⟩, ⟨45, [], []⟩, ⟨46, [], []⟩, ⟨47, [], []⟩]]) (notIn []) rfl rfl (by kernel_rfl) (And.intro (decide_eq_true h0) (And.intro (decide_eq_true h1) (And.intro h2 (And.intro h3 (And.intro h4 (And.intro h4 (And.intro h4 (And.intro h4 (And.intro h4 (And.intro h5 (And.intro h4 (And.intro h4 (And.intro h4 (And.intro h4 (And.intro h4 (And.intro h6 (And.intro h4 (And.intro h4 (And.intro h7 (And.intro h7 (And.intro h8 (And.intro h7 (And.intro h7 (And.intro h7 (And.intro h7 (And.intro h7 (And.intro (decide_eq_true h9) (And.intro h10 (And.intro h7 (And.intro h11 (And.intro h11 (And.intro h11 (And.intro h11 (And.intro h12 (And.intro h11 (And.intro h13 (And.intro h13 (And.intro (F17_ok (m + 9) (z11) (z12) (z13) (z14) z1169 h14) (And.intro h13 (And.intro h13 (And.intro (F23_ok (m + 9) (z11) (z12) (z13) (z14) z1170 h15) (And.intro h13 (And.intro h13 (And.intro h16 (And.intro h17 (And.intro h16 (And.intro (Eq.refl ([⟨0, [0], []⟩, ⟨1, [1], []⟩, ⟨2, [], []⟩, ⟨3, [], []⟩, ⟨4, [0], []⟩, ⟨5, [1], []⟩, ⟨6, [], []⟩, ⟨7, [], []⟩, ⟨8, [], []⟩, ⟨9, [], []⟩, ⟨10, [0], []⟩, ⟨11, [1], []⟩, ⟨12, [], []⟩, ⟨13, [], []⟩, ⟨14, [], []⟩, ⟨15, [0], []⟩, ⟨16, [1], []⟩, ⟨17, [], []⟩, ⟨18, [], []⟩, ⟨19, [], []⟩, ⟨20, [], []⟩, ⟨21, [], []⟩, ⟨22, [], []⟩, ⟨23, [], []⟩, ⟨24, [3], [3]⟩, ⟨25, [], []⟩, ⟨26, [], []⟩, ⟨27, [], []⟩, ⟨28, [0], []⟩, ⟨29, [3], []⟩, ⟨30, [], []⟩, ⟨31, [], []⟩, ⟨32, [], []⟩, ⟨33, [], []⟩, ⟨34, [1], []⟩, ⟨35, [], []⟩, ⟨36, [], []⟩, ⟨37, [], []⟩, ⟨38, [2], []⟩, ⟨39, [], []⟩, ⟨40, [2], []⟩, ⟨41, [], []⟩, ⟨42, [], []⟩, ⟨43, [], []⟩, ⟨44, [], []⟩, ⟨45, [], []⟩, ⟨46, [], []⟩, ⟨47, [], []⟩] : List Foot)) True.intro)))))))))))))))))))))))))))))))))))))))))))))))
                              · skip
                                cases h
                            · skip
                              cases h
                        · skip
                          cases h
                    · skip
                      cases h
                · skip
                  cases h
          · skip
            cases h
    · skip
      cases h
  · skip
    obtain ⟨r1, h1, h⟩ := Option.bind_eq_some_iff.mp h
    have h1 := F12_ok (m + 7) (z0) (z1) (z2) (z3) (z4) (z5) (z6) (z7) (z8) r1 h1
    cases r1 with
    | a0 z1172 z1173 z1174 z1175 =>
      obtain ⟨r2, h2, h⟩ := Option.bind_eq_some_iff.mp h
      have h2 := F22_ok (m + 7) (z0) (z1) (z2) (z3) (z4) (z5) (z6) (z7) (z8) r2 h2
      cases r2 with
      | a0 z1176 z1177 z1178 z1179 =>
        rcases ite_eq h with ⟨h3, h⟩ | ⟨h3, h⟩
        · skip
          obtain ⟨r4, h4, h⟩ := Option.bind_eq_some_iff.mp h
          have h4 := F12_ok (m + 7) (z0) (z1) (z2) (z3) (z4) (z5) (z6) (z7) (w64 (↑(BitVec.toNat (BitVec.ofInt (IntKind.bits IntKind.i64) z8 &&& BitVec.ofInt (IntKind.bits IntKind.i64) 65535)) : Int)) r4 h4
          cases r4 with
          | a0 z1180 z1181 z1182 z1183 =>
            obtain ⟨r5, h5, h⟩ := Option.bind_eq_some_iff.mp h
            have h5 := F22_ok (m + 7) (z0) (z1) (z2) (z3) (z4) (z5) (z6) (z7) (w64 (↑(BitVec.toNat (BitVec.ofInt (IntKind.bits IntKind.i64) z8 &&& BitVec.ofInt (IntKind.bits IntKind.i64) 65535)) : Int)) r5 h5
            cases r5 with
            | a0 z1184 z1185 z1186 z1187 =>
              rcases ite_eq h with ⟨h6, h⟩ | ⟨h6, h⟩
              · skip
                obtain ⟨r7, h7, h⟩ := Option.bind_eq_some_iff.mp h
                have h7 := F14_ok (m + 9) (l9) r7 h7
                cases r7 with
                | a0 =>
                  obtain ⟨r8, h8, h⟩ := Option.bind_eq_some_iff.mp h
                  have h8 := F24_ok (m + 8) (w64 (w64 (↑(BitVec.toNat (BitVec.ofInt (IntKind.bits IntKind.i64) z10 &&& BitVec.ofInt (IntKind.bits IntKind.i64) 255)) : Int) - 9)) (z0) (z1) (z2) (z3) r8 h8
                  cases r8 with
                  | a0 b1188 =>
                    rcases ite_eq h with ⟨h9, h⟩ | ⟨h9, h⟩
                    · skip
                      obtain ⟨r10, h10, h⟩ := Option.bind_eq_some_iff.mp h
                      have h10 := F24v1_ok (m + 0) (l9) (z10) (z4) (z5) (z6) (z7) r10 h10
                      cases r10 with
                      | a0 b1189 =>
                        rcases ite_eq h with ⟨h11, h⟩ | ⟨h11, h⟩
                        · skip
                          obtain ⟨z1190, h12, h⟩ := bnd_eq h
                          obtain ⟨z1191, h13, h⟩ := bnd_eq h
                          rcases ite_eq h with ⟨h14, h⟩ | ⟨h14, h⟩
                          · skip
                            obtain ⟨r15, h15, h⟩ := Option.bind_eq_some_iff.mp h
                            have h15 := F13_ok (m + 6) r15 h15
                            cases r15 with
                            | a0 b1192 =>
                              cases h
                              exact call_pathL (gs := [.f, .a, .a, .an (V.agg [u8 z1172, u8 z1173, u8 z1174, u8 z1175]) [], .a, .a, .an (V.agg [u8 z1176, u8 z1177, u8 z1178, u8 z1179]) [], .t, .a, .t, .a, .t, .t, .t, .an (V.agg [u8 z1180, u8 z1181, u8 z1182, u8 z1183]) [], .t, .a, .t, .a, .t, .t, .t, .an (V.agg [u8 z1184, u8 z1185, u8 z1186, u8 z1187]) [], .t, .t, .t, .t, .an (V.nilS) [], .t, .t, .t, .t, .a, .t, .an (vb b1188) [], .t, .t, .t, .t, .a, .t, .an (vb b1189) [], .t, .t, .a, .t, .an (i64 z1190) [], .t, .a, .t, .an (i64 z1191) [], .t, .t, .t, .an (vb b1192) [], .t, .ft [⟨0, [0], []⟩, ⟨1, [1], []⟩, ⟨2, [], []⟩, ⟨3, [], []⟩, ⟨4, [0], []⟩, ⟨5, [1], []⟩, ⟨6, [], []⟩, ⟨7, [], []⟩, ⟨8, [], []⟩, ⟨9, [], []⟩, ⟨10, [0], []⟩, ⟨11, [1], []⟩, ⟨12, [], []⟩, ⟨13, [], []⟩, ⟨14, [], []⟩, ⟨15, [0], []⟩, ⟨16, [1], []⟩, ⟨17, [], []⟩, ⟨18, [], []⟩, ⟨19, [], []⟩, ⟨20, [], []⟩, ⟨21, [], []⟩, ⟨22, [], []⟩, ⟨23, [], []⟩, ⟨24, [], []⟩, ⟨25, [], []⟩, ⟨26, [], []⟩, ⟨27, [], []⟩, ⟨28, [0], []⟩, ⟨29, [], []⟩, ⟨30, [], []⟩, ⟨31, [], []⟩, ⟨32, [], []⟩, ⟨33, [], []⟩, ⟨34, [1], []⟩, ⟨35, [], []⟩, ⟨36, [], []⟩, ⟨37, [], []⟩, ⟨38, [2], []⟩, ⟨39, [], []⟩, ⟨40, [2], []⟩, ⟨41, [], []⟩, ⟨42, [], []⟩, ⟨43, [], []⟩, ⟨44, [], []⟩, ⟨45, [], []⟩, ⟨46, [], []⟩, ⟨47, [], []⟩]]) (notIn []) rfl rfl (by kernel_rfl) (And.intro (decide_eq_false h0) (And.intro h1 (And.intro h2 (And.intro h3 (And.intro h3 (And.intro h3 (And.intro h3 (And.intro h3 (And.intro h4 (And.intro h3 (And.intro h3 (And.intro h3 (And.intro h3 (And.intro h3 (And.intro h5 (And.intro h3 (And.intro h3 (And.intro h6 (And.intro h6 (And.intro h7 (And.intro h6 (And.intro h6 (And.intro h6 (And.intro h6 (And.intro h6 (And.intro h8 (And.intro h6 (And.intro h9 (And.intro h9 (And.intro h9 (And.intro h9 (And.intro h10 (And.intro h9 (And.intro h11 (And.intro h11 (And.intro (F17_ok (m + 9) (z11) (z12) (z13) (z14) z1190 h12) (And.intro h11 (And.intro h11 (And.intro (F23_ok (m + 9) (z11) (z12) (z13) (z14) z1191 h13) (And.intro h11 (And.intro h11 (And.intro h14 (And.intro h15 (And.intro h14 (And.intro (Eq.refl ([⟨0, [0], []⟩, ⟨1, [1], []⟩, ⟨2, [], []⟩, ⟨3, [], []⟩, ⟨4, [0], []⟩, ⟨5, [1], []⟩, ⟨6, [], []⟩, ⟨7, [], []⟩, ⟨8, [], []⟩, ⟨9, [], []⟩, ⟨10, [0], []⟩, ⟨11, [1], []⟩, ⟨12, [], []⟩, ⟨13, [], []⟩, ⟨14, [], []⟩, ⟨15, [0], []⟩, ⟨16, [1], []⟩, ⟨17, [], []⟩, ⟨18, [], []⟩, ⟨19, [], []⟩, ⟨20, [], []⟩, ⟨21, [], []⟩, ⟨22, [], []⟩, ⟨23, [], []⟩, ⟨24, [], []⟩, ⟨25, [], []⟩, ⟨26, [], []⟩, ⟨27, [], []⟩, ⟨28, [0], []⟩, ⟨29, [], []⟩, ⟨30, [], []⟩, ⟨31, [], []⟩, ⟨32, [], []⟩, ⟨33, [], []⟩, ⟨34, [1], []⟩, ⟨35, [], []⟩, ⟨36, [], []⟩, ⟨37, [], []⟩, ⟨38, [2], []⟩, ⟨39, [], []⟩, ⟨40, [2], []⟩, ⟨41, [], []⟩, ⟨42, [], []⟩, ⟨43, [], []⟩, ⟨44, [], []⟩, ⟨45, [], []⟩, ⟨46, [], []⟩, ⟨47, [], []⟩] : List Foot)) True.intro)))))))))))))))))))))))))))))))))))))))))))))
                          · skip
                            cases h
                        · skip
                          cases h
                    · skip
                      cases h
                | a1 k1193 l1194 =>
                  rcases ite_eq h with ⟨h8, h⟩ | ⟨h8, h⟩
                  · skip
                    obtain ⟨r9, h9, h⟩ := Option.bind_eq_some_iff.mp h
                    have h9 := F24v1_ok (m + 0) (List.take k1193 l1194) (w64 (w64 (↑(BitVec.toNat (BitVec.ofInt (IntKind.bits IntKind.i64) z10 &&& BitVec.ofInt (IntKind.bits IntKind.i64) 255)) : Int) - 9)) (z0) (z1) (z2) (z3) r9 h9
                    cases r9 with
                    | a0 b1195 =>
                      rcases ite_eq h with ⟨h10, h⟩ | ⟨h10, h⟩
                      · skip
                        obtain ⟨r11, h11, h⟩ := Option.bind_eq_some_iff.mp h
                        have h11 := F24v1_ok (m + 0) (l9) (z10) (z4) (z5) (z6) (z7) r11 h11
                        cases r11 with
                        | a0 b1196 =>
                          rcases ite_eq h with ⟨h12, h⟩ | ⟨h12, h⟩
                          · skip
                            obtain ⟨z1197, h13, h⟩ := bnd_eq h
                            obtain ⟨z1198, h14, h⟩ := bnd_eq h
                            rcases ite_eq h with ⟨h15, h⟩ | ⟨h15, h⟩
                            · skip
                              obtain ⟨r16, h16, h⟩ := Option.bind_eq_some_iff.mp h
                              have h16 := F13_ok (m + 6) r16 h16
                              cases r16 with
                              | a0 b1199 =>
                                cases h
                                exact call_pathL (gs := [.f, .a, .a, .an (V.agg [u8 z1172, u8 z1173, u8 z1174, u8 z1175]) [], .a, .a, .an (V.agg [u8 z1176, u8 z1177, u8 z1178, u8 z1179]) [], .t, .a, .t, .a, .t, .t, .t, .an (V.agg [u8 z1180, u8 z1181, u8 z1182, u8 z1183]) [], .t, .a, .t, .a, .t, .t, .t, .an (V.agg [u8 z1184, u8 z1185, u8 z1186, u8 z1187]) [], .t, .t, .t, .t, .an (V.hs 0 0 k1193) [Ob.cells true true 10 l1194], .t, .t, .t, .t, .a, .t, .t, .an (vb b1195) [], .t, .t, .t, .t, .a, .t, .an (vb b1196) [], .t, .t, .a, .t, .an (i64 z1197) [], .t, .a, .t, .an (i64 z1198) [], .t, .t, .t, .an (vb b1199) [], .t, .ft [⟨0, [0], []⟩, ⟨1, [1], []⟩, ⟨2, [], []⟩, ⟨3, [], []⟩, ⟨4, [0], []⟩, ⟨5, [1], []⟩, ⟨6, [], []⟩, ⟨7, [], []⟩, ⟨8, [], []⟩, ⟨9, [], []⟩, ⟨10, [0], []⟩, ⟨11, [1], []⟩, ⟨12, [], []⟩, ⟨13, [], []⟩, ⟨14, [], []⟩, ⟨15, [0], []⟩, ⟨16, [1], []⟩, ⟨17, [], []⟩, ⟨18, [], []⟩, ⟨19, [], []⟩, ⟨20, [], []⟩, ⟨21, [], []⟩, ⟨22, [], []⟩, ⟨23, [], []⟩, ⟨24, [3], [3]⟩, ⟨25, [], []⟩, ⟨26, [], []⟩, ⟨27, [], []⟩, ⟨28, [0], []⟩, ⟨29, [3], []⟩, ⟨30, [], []⟩, ⟨31, [], []⟩, ⟨32, [], []⟩, ⟨33, [], []⟩, ⟨34, [1], []⟩, ⟨35, [], []⟩, ⟨36, [], []⟩, ⟨37, [], []⟩, ⟨38, [2], []⟩, ⟨39, [], []⟩, ⟨40, [2], []⟩, ⟨41, [], []⟩, ⟨42, [], []⟩, ⟨43, [], []⟩, ⟨44, [], []⟩, ⟨45, [], []⟩, ⟨46, [], []⟩, ⟨47, [], []⟩]]) (notIn []) rfl rfl (by kernel_rfl) (And.intro (decide_eq_false h0) (And.intro h1 (And.intro h2 (And.intro h3 (And.intro h3 (And.intro h3 (And.intro h3 (And.intro h3 (And.intro h4 (And.intro h3 (And.intro h3 (And.intro h3 (And.intro h3 (And.intro h3 (And.intro h5 (And.intro h3 (And.intro h3 (And.intro h6 (And.intro h6 (And.intro h7 (And.intro h6 (And.intro h6 (And.intro h6 (And.intro h6 (And.intro h6 (And.intro (decide_eq_true h8) (And.intro h9 (And.intro h6 (And.intro h10 (And.intro h10 (And.intro h10 (And.intro h10 (And.intro h11 (And.intro h10 (And.intro h12 (And.intro h12 (And.intro (F17_ok (m + 9) (z11) (z12) (z13) (z14) z1197 h13) (And.intro h12 (And.intro h12 (And.intro (F23_ok (m + 9) (z11) (z12) (z13) (z14) z1198 h14) (And.intro h12 (And.intro h12 (And.intro h15 (And.intro h16 (And.intro h15 (And.intro (Eq.refl ([⟨0, [0], []⟩, ⟨1, [1], []⟩, ⟨2, [], []⟩, ⟨3, [], []⟩, ⟨4, [0], []⟩, ⟨5, [1], []⟩, ⟨6, [], []⟩, ⟨7, [], []⟩, ⟨8, [], []⟩, ⟨9, [], []⟩, ⟨10, [0], []⟩, ⟨11, [1], []⟩, ⟨12, [], []⟩, ⟨13, [], []⟩, ⟨14, [], []⟩, ⟨15, [0], []⟩, ⟨16, [1], []⟩, ⟨17, [], []⟩, ⟨18, [], []⟩, ⟨19, [], []⟩, ⟨20, [], []⟩, ⟨21, [], []⟩, ⟨22, [], []⟩, ⟨23, [], []⟩, ⟨24, [3], [3]⟩, ⟨25, [], []⟩, ⟨26, [], []⟩, ⟨27, [], []⟩, ⟨28, [0], []⟩, ⟨29, [3], []⟩, ⟨30, [], []⟩, ⟨31, [], []⟩, ⟨32, [], []⟩, ⟨33, [], []⟩, ⟨34, [1], []⟩, ⟨35, [], []⟩, ⟨36, [], []⟩, ⟨37, [], []⟩, ⟨38, [2], []⟩, ⟨39, [], []⟩, ⟨40, [2], []⟩, ⟨41, [], []⟩, ⟨42, [], []⟩, ⟨43, [], []⟩, ⟨44, [], []⟩, ⟨45, [], []⟩, ⟨46, [], []⟩, ⟨47, [], []⟩] : List Foot)) True.intro))))))))))))))))))))))))))))))))))))))))))))))
                            · skip
                              cases h
                          · skip
                            cases h
                      · skip
                        cases h
                  · skip
                    cases h
              · skip
                cases h
        · skip
          cases h
end Go.Proofs.Ytcomanfboibhiaa.H
