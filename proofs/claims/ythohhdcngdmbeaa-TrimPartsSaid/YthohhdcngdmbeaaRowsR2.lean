/- The elements of slices as plain records. No condition. -/
import Derived.Test.YthohhdcngdmbeaaHA
set_option linter.unusedVariables false
set_option linter.unusedSimpArgs false
namespace Go.Proofs.Ythohhdcngdmbeaa.H
open Go Go.VM
structure W3 where
  c0 : Int
abbrev W3.cells (k : W3) : List V := [.int .i64 k.c0]
def W3.dec : List V → Option W3
  | [.int .i64 c0] => some ⟨c0⟩
  | _ => none
theorem W3.dec_cells (k : W3) : W3.dec k.cells = some k := rfl
theorem W3.dec_ok {o : Option (List V)} {k : W3} (h : o.bind W3.dec = some k) : o = some k.cells := by
  cases o with
  | none => cases h
  | some x =>
    have h : W3.dec x = some k := h
    unfold W3.dec at h
    split at h
    · cases h; rfl
    · cases h
structure W34 where
  c0 : Int
  c1 : Int
abbrev W34.cells (k : W34) : List V := [.int .i64 k.c0, .int .i64 k.c1]
def W34.dec : List V → Option W34
  | [.int .i64 c0, .int .i64 c1] => some ⟨c0, c1⟩
  | _ => none
theorem W34.dec_cells (k : W34) : W34.dec k.cells = some k := rfl
theorem W34.dec_ok {o : Option (List V)} {k : W34} (h : o.bind W34.dec = some k) : o = some k.cells := by
  cases o with
  | none => cases h
  | some x =>
    have h : W34.dec x = some k := h
    unfold W34.dec at h
    split at h
    · cases h; rfl
    · cases h
structure W39 where
  c0 : Bool
  c1 : List (List V)
abbrev W39.cells (k : W39) : List V := [.bool k.c0, .list 2 k.c1]
def W39.dec : List V → Option W39
  | [.bool c0, .list 2 c1] => some ⟨c0, c1⟩
  | _ => none
theorem W39.dec_cells (k : W39) : W39.dec k.cells = some k := rfl
theorem W39.dec_ok {o : Option (List V)} {k : W39} (h : o.bind W39.dec = some k) : o = some k.cells := by
  cases o with
  | none => cases h
  | some x =>
    have h : W39.dec x = some k := h
    unfold W39.dec at h
    split at h
    · cases h; rfl
    · cases h
structure W2 where
  c0 : Int
abbrev W2.cells (k : W2) : List V := [.int .i64 k.c0]
def W2.dec : List V → Option W2
  | [.int .i64 c0] => some ⟨c0⟩
  | _ => none
theorem W2.dec_cells (k : W2) : W2.dec k.cells = some k := rfl
theorem W2.dec_ok {o : Option (List V)} {k : W2} (h : o.bind W2.dec = some k) : o = some k.cells := by
  cases o with
  | none => cases h
  | some x =>
    have h : W2.dec x = some k := h
    unfold W2.dec at h
    split at h
    · cases h; rfl
    · cases h
structure W95 where
  c0 : Int
  c1 : Bool
  c2 : List (List V)
  c3 : Int
  c4 : Int
  c5 : Int
  c6 : Int
  c7 : Int
abbrev W95.cells (k : W95) : List V := [.int .i64 k.c0, .bool k.c1, .list 2 k.c2, .int .i64 k.c3, .int .i64 k.c4, .int .i64 k.c5, .int .i64 k.c6, .int .i64 k.c7]
def W95.dec : List V → Option W95
  | [.int .i64 c0, .bool c1, .list 2 c2, .int .i64 c3, .int .i64 c4, .int .i64 c5, .int .i64 c6, .int .i64 c7] => some ⟨c0, c1, c2, c3, c4, c5, c6, c7⟩
  | _ => none
theorem W95.dec_cells (k : W95) : W95.dec k.cells = some k := rfl
theorem W95.dec_ok {o : Option (List V)} {k : W95} (h : o.bind W95.dec = some k) : o = some k.cells := by
  cases o with
  | none => cases h
  | some x =>
    have h : W95.dec x = some k := h
    unfold W95.dec at h
    split at h
    · cases h; rfl
    · cases h
end Go.Proofs.Ythohhdcngdmbeaa.H
