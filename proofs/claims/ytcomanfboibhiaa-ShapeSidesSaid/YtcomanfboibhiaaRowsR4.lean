/- The elements of slices as plain records. No condition. -/
import Derived.Test.YtcomanfboibhiaaHA
set_option linter.unusedVariables false
set_option linter.unusedSimpArgs false
namespace Go.Proofs.Ytcomanfboibhiaa.H
open Go Go.VM
structure W33 where
  c0 : Int
  c1 : Int
  c2 : Int
  c3 : Int
  c4 : Int
  c5 : Int
  c6 : Int
  c7 : Int
  c8 : Int
  c9 : Int
abbrev W33.cells (k : W33) : List V := [.int .i64 k.c0, .int .u8 k.c1, .int .u8 k.c2, .int .u8 k.c3, .int .u8 k.c4, .int .i64 k.c5, .int .i64 k.c6, .int .i64 k.c7, .int .i64 k.c8, .int .i64 k.c9]
def W33.dec : List V → Option W33
  | [.int .i64 c0, .int .u8 c1, .int .u8 c2, .int .u8 c3, .int .u8 c4, .int .i64 c5, .int .i64 c6, .int .i64 c7, .int .i64 c8, .int .i64 c9] => some ⟨c0, c1, c2, c3, c4, c5, c6, c7, c8, c9⟩
  | _ => none
theorem W33.dec_cells (k : W33) : W33.dec k.cells = some k := rfl
theorem W33.dec_ok {o : Option (List V)} {k : W33} (h : o.bind W33.dec = some k) : o = some k.cells := by
  cases o with
  | none => cases h
  | some x =>
    have h : W33.dec x = some k := h
    unfold W33.dec at h
    split at h
    · cases h; rfl
    · cases h
structure W44 where
  c0 : Int
  c1 : Int
abbrev W44.cells (k : W44) : List V := [.int .i64 k.c0, .int .i64 k.c1]
def W44.dec : List V → Option W44
  | [.int .i64 c0, .int .i64 c1] => some ⟨c0, c1⟩
  | _ => none
theorem W44.dec_cells (k : W44) : W44.dec k.cells = some k := rfl
theorem W44.dec_ok {o : Option (List V)} {k : W44} (h : o.bind W44.dec = some k) : o = some k.cells := by
  cases o with
  | none => cases h
  | some x =>
    have h : W44.dec x = some k := h
    unfold W44.dec at h
    split at h
    · cases h; rfl
    · cases h
structure W2 where
  c0 : Int
abbrev W2.cells (k : W2) : List V := [.int .i64 k.c0]
def W2.dec : List V → Option W2
  | [.int .i64 c0] => some ⟨c0⟩
  | _ => none
theorem W2.dec_cells (k : W2) : W2.dec k.cells = some k := rfl
theorem W2.dec_ok {o : Option (List V)} {k : W2} (h : o.bind W2.dec = some k) : o = some k.cells := by
  cases o with
  | none => cases h
  | some x =>
    have h : W2.dec x = some k := h
    unfold W2.dec at h
    split at h
    · cases h; rfl
    · cases h
structure W3 where
  c0 : Int
abbrev W3.cells (k : W3) : List V := [.int .i64 k.c0]
def W3.dec : List V → Option W3
  | [.int .i64 c0] => some ⟨c0⟩
  | _ => none
theorem W3.dec_cells (k : W3) : W3.dec k.cells = some k := rfl
theorem W3.dec_ok {o : Option (List V)} {k : W3} (h : o.bind W3.dec = some k) : o = some k.cells := by
  cases o with
  | none => cases h
  | some x =>
    have h : W3.dec x = some k := h
    unfold W3.dec at h
    split at h
    · cases h; rfl
    · cases h
structure W68 where
  c0 : Int
  c1 : Int
  c2 : Int
  c3 : Int
  c4 : Int
  c5 : Int
  c6 : Int
abbrev W68.cells (k : W68) : List V := [.int .i64 k.c0, .int .i64 k.c1, .int .i64 k.c2, .int .i64 k.c3, .int .i64 k.c4, .int .i64 k.c5, .int .i64 k.c6]
def W68.dec : List V → Option W68
  | [.int .i64 c0, .int .i64 c1, .int .i64 c2, .int .i64 c3, .int .i64 c4, .int .i64 c5, .int .i64 c6] => some ⟨c0, c1, c2, c3, c4, c5, c6⟩
  | _ => none
theorem W68.dec_cells (k : W68) : W68.dec k.cells = some k := rfl
theorem W68.dec_ok {o : Option (List V)} {k : W68} (h : o.bind W68.dec = some k) : o = some k.cells := by
  cases o with
  | none => cases h
  | some x =>
    have h : W68.dec x = some k := h
    unfold W68.dec at h
    split at h
    · cases h; rfl
    · cases h
structure W70 where
  c0 : Int
  c1 : Bool
  c2 : List (List V)
  c3 : Int
  c4 : Int
  c5 : Int
  c6 : Int
  c7 : Int
abbrev W70.cells (k : W70) : List V := [.int .i64 k.c0, .bool k.c1, .list 2 k.c2, .int .i64 k.c3, .int .i64 k.c4, .int .i64 k.c5, .int .i64 k.c6, .int .i64 k.c7]
def W70.dec : List V → Option W70
  | [.int .i64 c0, .bool c1, .list 2 c2, .int .i64 c3, .int .i64 c4, .int .i64 c5, .int .i64 c6, .int .i64 c7] => some ⟨c0, c1, c2, c3, c4, c5, c6, c7⟩
  | _ => none
theorem W70.dec_cells (k : W70) : W70.dec k.cells = some k := rfl
theorem W70.dec_ok {o : Option (List V)} {k : W70} (h : o.bind W70.dec = some k) : o = some k.cells := by
  cases o with
  | none => cases h
  | some x =>
    have h : W70.dec x = some k := h
    unfold W70.dec at h
    split at h
    · cases h; rfl
    · cases h
structure W5 where
  c0 : Int
abbrev W5.cells (k : W5) : List V := [.int .u8 k.c0]
def W5.dec : List V → Option W5
  | [.int .u8 c0] => some ⟨c0⟩
  | _ => none
theorem W5.dec_cells (k : W5) : W5.dec k.cells = some k := rfl
theorem W5.dec_ok {o : Option (List V)} {k : W5} (h : o.bind W5.dec = some k) : o = some k.cells := by
  cases o with
  | none => cases h
  | some x =>
    have h : W5.dec x = some k := h
    unfold W5.dec at h
    split at h
    · cases h; rfl
    · cases h
end Go.Proofs.Ytcomanfboibhiaa.H
