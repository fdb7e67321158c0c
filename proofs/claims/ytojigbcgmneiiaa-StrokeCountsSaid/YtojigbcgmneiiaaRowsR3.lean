/- The elements of slices as plain records. No condition. -/
import Derived.Test.YtojigbcgmneiiaaHA
set_option linter.unusedVariables false
set_option linter.unusedSimpArgs false
namespace Go.Proofs.Ytojigbcgmneiiaa.H
open Go Go.VM
structure W3 where
  c0 : Int
abbrev W3.cells (k : W3) : List V := [.int .i64 k.c0]
def W3.dec : List V → Option W3
  | [.int .i64 c0] => some ⟨c0⟩
  | _ => none
theorem W3.dec_cells (k : W3) : W3.dec k.cells = some k := rfl
theorem W3.dec_ok {o : Option (List V)} {k : W3} (h : o.bind W3.dec = some k) : o = some k.cells := by
  cases o with
  | none => cases h
  | some x =>
    have h : W3.dec x = some k := h
    unfold W3.dec at h
    split at h
    · cases h; rfl
    · cases h
structure W43 where
  c0 : Int
  c1 : Int
abbrev W43.cells (k : W43) : List V := [.int .i64 k.c0, .int .i64 k.c1]
def W43.dec : List V → Option W43
  | [.int .i64 c0, .int .i64 c1] => some ⟨c0, c1⟩
  | _ => none
theorem W43.dec_cells (k : W43) : W43.dec k.cells = some k := rfl
theorem W43.dec_ok {o : Option (List V)} {k : W43} (h : o.bind W43.dec = some k) : o = some k.cells := by
  cases o with
  | none => cases h
  | some x =>
    have h : W43.dec x = some k := h
    unfold W43.dec at h
    split at h
    · cases h; rfl
    · cases h
structure W25 where
  c0 : Bool
  c1 : List (List V)
abbrev W25.cells (k : W25) : List V := [.bool k.c0, .list 2 k.c1]
def W25.dec : List V → Option W25
  | [.bool c0, .list 2 c1] => some ⟨c0, c1⟩
  | _ => none
theorem W25.dec_cells (k : W25) : W25.dec k.cells = some k := rfl
theorem W25.dec_ok {o : Option (List V)} {k : W25} (h : o.bind W25.dec = some k) : o = some k.cells := by
  cases o with
  | none => cases h
  | some x =>
    have h : W25.dec x = some k := h
    unfold W25.dec at h
    split at h
    · cases h; rfl
    · cases h
structure W2 where
  c0 : Int
abbrev W2.cells (k : W2) : List V := [.int .i64 k.c0]
def W2.dec : List V → Option W2
  | [.int .i64 c0] => some ⟨c0⟩
  | _ => none
theorem W2.dec_cells (k : W2) : W2.dec k.cells = some k := rfl
theorem W2.dec_ok {o : Option (List V)} {k : W2} (h : o.bind W2.dec = some k) : o = some k.cells := by
  cases o with
  | none => cases h
  | some x =>
    have h : W2.dec x = some k := h
    unfold W2.dec at h
    split at h
    · cases h; rfl
    · cases h
structure W65 where
  c0 : Int
  c1 : Int
  c2 : Int
  c3 : Int
  c4 : Int
  c5 : Int
abbrev W65.cells (k : W65) : List V := [.int .i64 k.c0, .int .i64 k.c1, .int .i64 k.c2, .int .i64 k.c3, .int .i64 k.c4, .int .i64 k.c5]
def W65.dec : List V → Option W65
  | [.int .i64 c0, .int .i64 c1, .int .i64 c2, .int .i64 c3, .int .i64 c4, .int .i64 c5] => some ⟨c0, c1, c2, c3, c4, c5⟩
  | _ => none
theorem W65.dec_cells (k : W65) : W65.dec k.cells = some k := rfl
theorem W65.dec_ok {o : Option (List V)} {k : W65} (h : o.bind W65.dec = some k) : o = some k.cells := by
  cases o with
  | none => cases h
  | some x =>
    have h : W65.dec x = some k := h
    unfold W65.dec at h
    split at h
    · cases h; rfl
    · cases h
structure W86 where
  c0 : Int
  c1 : Int
  c2 : Int
  c3 : Int
  c4 : Int
  c5 : Int
  c6 : Int
  c7 : Int
abbrev W86.cells (k : W86) : List V := [.int .i64 k.c0, .int .i64 k.c1, .int .i64 k.c2, .int .i64 k.c3, .int .i64 k.c4, .int .i64 k.c5, .int .i64 k.c6, .int .i64 k.c7]
def W86.dec : List V → Option W86
  | [.int .i64 c0, .int .i64 c1, .int .i64 c2, .int .i64 c3, .int .i64 c4, .int .i64 c5, .int .i64 c6, .int .i64 c7] => some ⟨c0, c1, c2, c3, c4, c5, c6, c7⟩
  | _ => none
theorem W86.dec_cells (k : W86) : W86.dec k.cells = some k := rfl
theorem W86.dec_ok {o : Option (List V)} {k : W86} (h : o.bind W86.dec = some k) : o = some k.cells := by
  cases o with
  | none => cases h
  | some x =>
    have h : W86.dec x = some k := h
    unfold W86.dec at h
    split at h
    · cases h; rfl
    · cases h
end Go.Proofs.Ytojigbcgmneiiaa.H
