/- The elements of slices as plain records. No condition. -/
import Derived.Test.YtifalphladcdcaaHA
set_option linter.unusedVariables false
set_option linter.unusedSimpArgs false
namespace Go.Proofs.Ytifalphladcdcaa.H
open Go Go.VM
structure W26 where
  c0 : Int
  c1 : Int
abbrev W26.cells (k : W26) : List V := [.int .i64 k.c0, .int .i64 k.c1]
def W26.dec : List V → Option W26
  | [.int .i64 c0, .int .i64 c1] => some ⟨c0, c1⟩
  | _ => none
theorem W26.dec_cells (k : W26) : W26.dec k.cells = some k := rfl
theorem W26.dec_ok {o : Option (List V)} {k : W26} (h : o.bind W26.dec = some k) : o = some k.cells := by
  cases o with
  | none => cases h
  | some x =>
    have h : W26.dec x = some k := h
    unfold W26.dec at h
    split at h
    · cases h; rfl
    · cases h
abbrev RW26 : Row := ⟨W26, W26.cells, W26.dec, fun _ _ h => W26.dec_ok h⟩
structure W2 where
  c0 : Int
abbrev W2.cells (k : W2) : List V := [.int .i64 k.c0]
def W2.dec : List V → Option W2
  | [.int .i64 c0] => some ⟨c0⟩
  | _ => none
theorem W2.dec_cells (k : W2) : W2.dec k.cells = some k := rfl
theorem W2.dec_ok {o : Option (List V)} {k : W2} (h : o.bind W2.dec = some k) : o = some k.cells := by
  cases o with
  | none => cases h
  | some x =>
    have h : W2.dec x = some k := h
    unfold W2.dec at h
    split at h
    · cases h; rfl
    · cases h
abbrev RW2 : Row := ⟨W2, W2.cells, W2.dec, fun _ _ h => W2.dec_ok h⟩
structure W3 where
  c0 : Int
abbrev W3.cells (k : W3) : List V := [.int .i64 k.c0]
def W3.dec : List V → Option W3
  | [.int .i64 c0] => some ⟨c0⟩
  | _ => none
theorem W3.dec_cells (k : W3) : W3.dec k.cells = some k := rfl
theorem W3.dec_ok {o : Option (List V)} {k : W3} (h : o.bind W3.dec = some k) : o = some k.cells := by
  cases o with
  | none => cases h
  | some x =>
    have h : W3.dec x = some k := h
    unfold W3.dec at h
    split at h
    · cases h; rfl
    · cases h
abbrev RW3 : Row := ⟨W3, W3.cells, W3.dec, fun _ _ h => W3.dec_ok h⟩
structure W63 where
  c0 : Int
  c1 : Bool
  c2 : List (List V)
  c3 : Int
  c4 : Int
  c5 : Int
  c6 : Int
  c7 : Int
abbrev W63.cells (k : W63) : List V := [.int .i64 k.c0, .bool k.c1, .list 2 k.c2, .int .i64 k.c3, .int .i64 k.c4, .int .i64 k.c5, .int .i64 k.c6, .int .i64 k.c7]
def W63.dec : List V → Option W63
  | [.int .i64 c0, .bool c1, .list 2 c2, .int .i64 c3, .int .i64 c4, .int .i64 c5, .int .i64 c6, .int .i64 c7] => some ⟨c0, c1, c2, c3, c4, c5, c6, c7⟩
  | _ => none
theorem W63.dec_cells (k : W63) : W63.dec k.cells = some k := rfl
theorem W63.dec_ok {o : Option (List V)} {k : W63} (h : o.bind W63.dec = some k) : o = some k.cells := by
  cases o with
  | none => cases h
  | some x =>
    have h : W63.dec x = some k := h
    unfold W63.dec at h
    split at h
    · cases h; rfl
    · cases h
abbrev RW63 : Row := ⟨W63, W63.cells, W63.dec, fun _ _ h => W63.dec_ok h⟩
structure W61 where
  c0 : Int
  c1 : Int
  c2 : Int
  c3 : Int
  c4 : Int
  c5 : Int
  c6 : Int
abbrev W61.cells (k : W61) : List V := [.int .i64 k.c0, .int .i64 k.c1, .int .i64 k.c2, .int .i64 k.c3, .int .i64 k.c4, .int .i64 k.c5, .int .i64 k.c6]
def W61.dec : List V → Option W61
  | [.int .i64 c0, .int .i64 c1, .int .i64 c2, .int .i64 c3, .int .i64 c4, .int .i64 c5, .int .i64 c6] => some ⟨c0, c1, c2, c3, c4, c5, c6⟩
  | _ => none
theorem W61.dec_cells (k : W61) : W61.dec k.cells = some k := rfl
theorem W61.dec_ok {o : Option (List V)} {k : W61} (h : o.bind W61.dec = some k) : o = some k.cells := by
  cases o with
  | none => cases h
  | some x =>
    have h : W61.dec x = some k := h
    unfold W61.dec at h
    split at h
    · cases h; rfl
    · cases h
abbrev RW61 : Row := ⟨W61, W61.cells, W61.dec, fun _ _ h => W61.dec_ok h⟩
structure W65 where
  c0 : Int
  c1 : Int
  c2 : Int
  c3 : Int
  c4 : Int
  c5 : Int
  c6 : Int
  c7 : Int
  c8 : Int
  c9 : Int
abbrev W65.cells (k : W65) : List V := [.int .i64 k.c0, .int .u8 k.c1, .int .u8 k.c2, .int .u8 k.c3, .int .u8 k.c4, .int .i64 k.c5, .int .i64 k.c6, .int .i64 k.c7, .int .i64 k.c8, .int .i64 k.c9]
def W65.dec : List V → Option W65
  | [.int .i64 c0, .int .u8 c1, .int .u8 c2, .int .u8 c3, .int .u8 c4, .int .i64 c5, .int .i64 c6, .int .i64 c7, .int .i64 c8, .int .i64 c9] => some ⟨c0, c1, c2, c3, c4, c5, c6, c7, c8, c9⟩
  | _ => none
theorem W65.dec_cells (k : W65) : W65.dec k.cells = some k := rfl
theorem W65.dec_ok {o : Option (List V)} {k : W65} (h : o.bind W65.dec = some k) : o = some k.cells := by
  cases o with
  | none => cases h
  | some x =>
    have h : W65.dec x = some k := h
    unfold W65.dec at h
    split at h
    · cases h; rfl
    · cases h
abbrev RW65 : Row := ⟨W65, W65.cells, W65.dec, fun _ _ h => W65.dec_ok h⟩
structure W5 where
  c0 : Int
abbrev W5.cells (k : W5) : List V := [.int .u8 k.c0]
def W5.dec : List V → Option W5
  | [.int .u8 c0] => some ⟨c0⟩
  | _ => none
theorem W5.dec_cells (k : W5) : W5.dec k.cells = some k := rfl
theorem W5.dec_ok {o : Option (List V)} {k : W5} (h : o.bind W5.dec = some k) : o = some k.cells := by
  cases o with
  | none => cases h
  | some x =>
    have h : W5.dec x = some k := h
    unfold W5.dec at h
    split at h
    · cases h; rfl
    · cases h
abbrev RW5 : Row := ⟨W5, W5.cells, W5.dec, fun _ _ h => W5.dec_ok h⟩
end Go.Proofs.Ytifalphladcdcaa.H
