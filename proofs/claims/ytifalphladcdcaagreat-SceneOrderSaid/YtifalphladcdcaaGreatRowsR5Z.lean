/- The elements of slices as plain records. No condition. -/
import Derived.Test.YtifalphladcdcaaGreatHA
set_option linter.unusedVariables false
set_option linter.unusedSimpArgs false
namespace Go.Proofs.YtifalphladcdcaaGreat.H
open Go Go.VM
structure W3 where
  c0 : Int
  deriving Inhabited
abbrev W3.cells (k : W3) : List V := [.int .i64 k.c0]
def W3.dec : List V → Option W3
  | [.int .i64 c0] => some ⟨c0⟩
  | _ => none
theorem W3.dec_cells (k : W3) : W3.dec k.cells = some k := rfl
theorem W3.dec_ok {o : Option (List V)} {k : W3} (h : o.bind W3.dec = some k) : o = some k.cells := by
  cases o with
  | none => cases h
  | some x =>
    have h : W3.dec x = some k := h
    unfold W3.dec at h
    split at h
    · cases h; rfl
    · cases h
noncomputable abbrev RW3 : Row := ⟨W3, W3.cells, W3.dec, fun _ _ h => W3.dec_ok h⟩
structure W74 where
  c0 : Int
  c1 : Int
  c2 : Int
  c3 : Int
  c4 : Int
  c5 : Int
  c6 : Int
  deriving Inhabited
abbrev W74.cells (k : W74) : List V := [.int .i64 k.c0, .int .i64 k.c1, .int .i64 k.c2, .int .i64 k.c3, .int .i64 k.c4, .int .i64 k.c5, .int .i64 k.c6]
def W74.dec : List V → Option W74
  | [.int .i64 c0, .int .i64 c1, .int .i64 c2, .int .i64 c3, .int .i64 c4, .int .i64 c5, .int .i64 c6] => some ⟨c0, c1, c2, c3, c4, c5, c6⟩
  | _ => none
theorem W74.dec_cells (k : W74) : W74.dec k.cells = some k := rfl
theorem W74.dec_ok {o : Option (List V)} {k : W74} (h : o.bind W74.dec = some k) : o = some k.cells := by
  cases o with
  | none => cases h
  | some x =>
    have h : W74.dec x = some k := h
    unfold W74.dec at h
    split at h
    · cases h; rfl
    · cases h
noncomputable abbrev RW74 : Row := ⟨W74, W74.cells, W74.dec, fun _ _ h => W74.dec_ok h⟩
structure W100 where
  c0 : Int
  c1 : Bool
  c2 : List (List V)
  c3 : Int
  c4 : Int
  c5 : Int
  c6 : Int
  c7 : Int
  deriving Inhabited
abbrev W100.cells (k : W100) : List V := [.int .i64 k.c0, .bool k.c1, .list 2 k.c2, .int .i64 k.c3, .int .i64 k.c4, .int .i64 k.c5, .int .i64 k.c6, .int .i64 k.c7]
def W100.dec : List V → Option W100
  | [.int .i64 c0, .bool c1, .list 2 c2, .int .i64 c3, .int .i64 c4, .int .i64 c5, .int .i64 c6, .int .i64 c7] => some ⟨c0, c1, c2, c3, c4, c5, c6, c7⟩
  | _ => none
theorem W100.dec_cells (k : W100) : W100.dec k.cells = some k := rfl
theorem W100.dec_ok {o : Option (List V)} {k : W100} (h : o.bind W100.dec = some k) : o = some k.cells := by
  cases o with
  | none => cases h
  | some x =>
    have h : W100.dec x = some k := h
    unfold W100.dec at h
    split at h
    · cases h; rfl
    · cases h
noncomputable abbrev RW100 : Row := ⟨W100, W100.cells, W100.dec, fun _ _ h => W100.dec_ok h⟩
structure W108 where
  c0 : Int
  c1 : Int
  c2 : Int
  c3 : Int
  c4 : Int
  c5 : Int
  c6 : Int
  c7 : Int
  c8 : Int
  c9 : Int
  deriving Inhabited
abbrev W108.cells (k : W108) : List V := [.int .i64 k.c0, .int .u8 k.c1, .int .u8 k.c2, .int .u8 k.c3, .int .u8 k.c4, .int .i64 k.c5, .int .i64 k.c6, .int .i64 k.c7, .int .i64 k.c8, .int .i64 k.c9]
def W108.dec : List V → Option W108
  | [.int .i64 c0, .int .u8 c1, .int .u8 c2, .int .u8 c3, .int .u8 c4, .int .i64 c5, .int .i64 c6, .int .i64 c7, .int .i64 c8, .int .i64 c9] => some ⟨c0, c1, c2, c3, c4, c5, c6, c7, c8, c9⟩
  | _ => none
theorem W108.dec_cells (k : W108) : W108.dec k.cells = some k := rfl
theorem W108.dec_ok {o : Option (List V)} {k : W108} (h : o.bind W108.dec = some k) : o = some k.cells := by
  cases o with
  | none => cases h
  | some x =>
    have h : W108.dec x = some k := h
    unfold W108.dec at h
    split at h
    · cases h; rfl
    · cases h
noncomputable abbrev RW108 : Row := ⟨W108, W108.cells, W108.dec, fun _ _ h => W108.dec_ok h⟩
structure W2 where
  c0 : Int
  deriving Inhabited
abbrev W2.cells (k : W2) : List V := [.int .i64 k.c0]
def W2.dec : List V → Option W2
  | [.int .i64 c0] => some ⟨c0⟩
  | _ => none
theorem W2.dec_cells (k : W2) : W2.dec k.cells = some k := rfl
theorem W2.dec_ok {o : Option (List V)} {k : W2} (h : o.bind W2.dec = some k) : o = some k.cells := by
  cases o with
  | none => cases h
  | some x =>
    have h : W2.dec x = some k := h
    unfold W2.dec at h
    split at h
    · cases h; rfl
    · cases h
noncomputable abbrev RW2 : Row := ⟨W2, W2.cells, W2.dec, fun _ _ h => W2.dec_ok h⟩
structure W52 where
  c0 : List (List V)
  deriving Inhabited
abbrev W52.cells (k : W52) : List V := [.list 50 k.c0]
def W52.dec : List V → Option W52
  | [.list 50 c0] => some ⟨c0⟩
  | _ => none
theorem W52.dec_cells (k : W52) : W52.dec k.cells = some k := rfl
theorem W52.dec_ok {o : Option (List V)} {k : W52} (h : o.bind W52.dec = some k) : o = some k.cells := by
  cases o with
  | none => cases h
  | some x =>
    have h : W52.dec x = some k := h
    unfold W52.dec at h
    split at h
    · cases h; rfl
    · cases h
noncomputable abbrev RW52 : Row := ⟨W52, W52.cells, W52.dec, fun _ _ h => W52.dec_ok h⟩
structure W57 where
  c0 : Int
  c1 : Int
  c2 : Int
  c3 : Int
  c4 : Int
  c5 : Int
  c6 : Int
  c7 : List (List V)
  c8 : List (List V)
  c9 : List (List V)
  c10 : List (List V)
  c11 : List (List V)
  c12 : List (List V)
  c13 : List (List V)
  c14 : List (List V)
  c15 : List (List V)
  c16 : Bool
  c17 : List (List V)
  c18 : Int
  c19 : Int
  c20 : List (List V)
  c21 : List (List V)
  c22 : List (List V)
  c23 : Bool
  c24 : Int
  c25 : Int
  c26 : Int
  c27 : Int
  c28 : Int
  c29 : Int
  c30 : Int
  c31 : Int
  c32 : Int
  c33 : Int
  c34 : Int
  c35 : Int
  c36 : Int
  c37 : Int
  c38 : Int
  c39 : List (List V)
  c40 : Bool
  c41 : List (List V)
  c42 : Int
  c43 : Int
  c44 : Int
  c45 : Int
  c46 : Int
  c47 : List (List V)
  c48 : List (List V)
  c49 : List (List V)
  deriving Inhabited
abbrev W57.cells (k : W57) : List V := [.int .i64 k.c0, .int .i64 k.c1, .int .i64 k.c2, .int .i64 k.c3, .int .i64 k.c4, .int .i64 k.c5, .int .i64 k.c6, .list 7 k.c7, .list 7 k.c8, .list 7 k.c9, .list 7 k.c10, .list 7 k.c11, .list 7 k.c12, .list 7 k.c13, .list 7 k.c14, .list 7 k.c15, .bool k.c16, .list 2 k.c17, .int .i64 k.c18, .int .i64 k.c19, .list 7 k.c20, .list 7 k.c21, .list 8 k.c22, .bool k.c23, .int .i64 k.c24, .int .i64 k.c25, .int .u8 k.c26, .int .u8 k.c27, .int .u8 k.c28, .int .u8 k.c29, .int .u8 k.c30, .int .u8 k.c31, .int .u8 k.c32, .int .u8 k.c33, .int .i64 k.c34, .int .i64 k.c35, .int .i64 k.c36, .int .i64 k.c37, .int .i64 k.c38, .list 10 k.c39, .bool k.c40, .list 7 k.c41, .int .u8 k.c42, .int .u8 k.c43, .int .u8 k.c44, .int .u8 k.c45, .int .i64 k.c46, .list 1 k.c47, .list 7 k.c48, .list 7 k.c49]
noncomputable def W57.of (l : List V) : W57 := ⟨vI (l.getD 0 .undef), vI (l.getD 1 .undef), vI (l.getD 2 .undef), vI (l.getD 3 .undef), vI (l.getD 4 .undef), vI (l.getD 5 .undef), vI (l.getD 6 .undef), vL (l.getD 7 .undef), vL (l.getD 8 .undef), vL (l.getD 9 .undef), vL (l.getD 10 .undef), vL (l.getD 11 .undef), vL (l.getD 12 .undef), vL (l.getD 13 .undef), vL (l.getD 14 .undef), vL (l.getD 15 .undef), vB (l.getD 16 .undef), vL (l.getD 17 .undef), vI (l.getD 18 .undef), vI (l.getD 19 .undef), vL (l.getD 20 .undef), vL (l.getD 21 .undef), vL (l.getD 22 .undef), vB (l.getD 23 .undef), vI (l.getD 24 .undef), vI (l.getD 25 .undef), vI (l.getD 26 .undef), vI (l.getD 27 .undef), vI (l.getD 28 .undef), vI (l.getD 29 .undef), vI (l.getD 30 .undef), vI (l.getD 31 .undef), vI (l.getD 32 .undef), vI (l.getD 33 .undef), vI (l.getD 34 .undef), vI (l.getD 35 .undef), vI (l.getD 36 .undef), vI (l.getD 37 .undef), vI (l.getD 38 .undef), vL (l.getD 39 .undef), vB (l.getD 40 .undef), vL (l.getD 41 .undef), vI (l.getD 42 .undef), vI (l.getD 43 .undef), vI (l.getD 44 .undef), vI (l.getD 45 .undef), vI (l.getD 46 .undef), vL (l.getD 47 .undef), vL (l.getD 48 .undef), vL (l.getD 49 .undef)⟩
theorem W57.of_cells (k : W57) : W57.of k.cells = k := rfl
noncomputable def W57.dec (l : List V) : Option W57 := open Classical in if (W57.of l).cells = l then some (W57.of l) else none
theorem W57.dec_cells (k : W57) : W57.dec k.cells = some k := by unfold W57.dec; rw [W57.of_cells]; exact if_pos rfl
theorem W57.dec_ok {o : Option (List V)} {k : W57} (h : o.bind W57.dec = some k) : o = some k.cells := by
  cases o with
  | none => cases h
  | some x =>
    have h : W57.dec x = some k := h
    unfold W57.dec at h
    split at h
    · rename_i e; cases h; rw [e]
    · cases h
noncomputable abbrev RW57 : Row := ⟨W57, W57.cells, W57.dec, fun _ _ h => W57.dec_ok h⟩
structure W28 where
  c0 : Int
  c1 : Int
  deriving Inhabited
abbrev W28.cells (k : W28) : List V := [.int .i64 k.c0, .int .i64 k.c1]
def W28.dec : List V → Option W28
  | [.int .i64 c0, .int .i64 c1] => some ⟨c0, c1⟩
  | _ => none
theorem W28.dec_cells (k : W28) : W28.dec k.cells = some k := rfl
theorem W28.dec_ok {o : Option (List V)} {k : W28} (h : o.bind W28.dec = some k) : o = some k.cells := by
  cases o with
  | none => cases h
  | some x =>
    have h : W28.dec x = some k := h
    unfold W28.dec at h
    split at h
    · cases h; rfl
    · cases h
noncomputable abbrev RW28 : Row := ⟨W28, W28.cells, W28.dec, fun _ _ h => W28.dec_ok h⟩
structure W133 where
  c0 : Int
  c1 : Int
  c2 : Int
  c3 : Int
  deriving Inhabited
abbrev W133.cells (k : W133) : List V := [.int .i64 k.c0, .int .i64 k.c1, .int .i64 k.c2, .int .i64 k.c3]
def W133.dec : List V → Option W133
  | [.int .i64 c0, .int .i64 c1, .int .i64 c2, .int .i64 c3] => some ⟨c0, c1, c2, c3⟩
  | _ => none
theorem W133.dec_cells (k : W133) : W133.dec k.cells = some k := rfl
theorem W133.dec_ok {o : Option (List V)} {k : W133} (h : o.bind W133.dec = some k) : o = some k.cells := by
  cases o with
  | none => cases h
  | some x =>
    have h : W133.dec x = some k := h
    unfold W133.dec at h
    split at h
    · cases h; rfl
    · cases h
noncomputable abbrev RW133 : Row := ⟨W133, W133.cells, W133.dec, fun _ _ h => W133.dec_ok h⟩
structure W48 where
  c0 : Int
  c1 : Int
  c2 : List (List V)
  deriving Inhabited
abbrev W48.cells (k : W48) : List V := [.int .i64 k.c0, .int .i64 k.c1, .list 1 k.c2]
def W48.dec : List V → Option W48
  | [.int .i64 c0, .int .i64 c1, .list 1 c2] => some ⟨c0, c1, c2⟩
  | _ => none
theorem W48.dec_cells (k : W48) : W48.dec k.cells = some k := rfl
theorem W48.dec_ok {o : Option (List V)} {k : W48} (h : o.bind W48.dec = some k) : o = some k.cells := by
  cases o with
  | none => cases h
  | some x =>
    have h : W48.dec x = some k := h
    unfold W48.dec at h
    split at h
    · cases h; rfl
    · cases h
noncomputable abbrev RW48 : Row := ⟨W48, W48.cells, W48.dec, fun _ _ h => W48.dec_ok h⟩
structure W87 where
  c0 : Bool
  c1 : List (List V)
  c2 : Int
  c3 : Int
  c4 : Int
  c5 : Int
  c6 : Int
  c7 : Int
  c8 : Int
  c9 : Int
  c10 : Int
  c11 : Int
  c12 : Int
  c13 : Int
  c14 : Int
  c15 : Int
  c16 : Int
  c17 : Int
  c18 : List (List V)
  c19 : List (List V)
  c20 : Int
  c21 : List (List V)
  c22 : Int
  deriving Inhabited
abbrev W87.cells (k : W87) : List V := [.bool k.c0, .list 2 k.c1, .int .i64 k.c2, .int .i64 k.c3, .int .u8 k.c4, .int .u8 k.c5, .int .u8 k.c6, .int .u8 k.c7, .int .u8 k.c8, .int .u8 k.c9, .int .u8 k.c10, .int .u8 k.c11, .int .i64 k.c12, .int .i64 k.c13, .int .i64 k.c14, .int .i64 k.c15, .int .i64 k.c16, .int .i64 k.c17, .list 23 k.c18, .list 2 k.c19, .int .i64 k.c20, .list 23 k.c21, .int .i64 k.c22]
noncomputable def W87.of (l : List V) : W87 := ⟨vB (l.getD 0 .undef), vL (l.getD 1 .undef), vI (l.getD 2 .undef), vI (l.getD 3 .undef), vI (l.getD 4 .undef), vI (l.getD 5 .undef), vI (l.getD 6 .undef), vI (l.getD 7 .undef), vI (l.getD 8 .undef), vI (l.getD 9 .undef), vI (l.getD 10 .undef), vI (l.getD 11 .undef), vI (l.getD 12 .undef), vI (l.getD 13 .undef), vI (l.getD 14 .undef), vI (l.getD 15 .undef), vI (l.getD 16 .undef), vI (l.getD 17 .undef), vL (l.getD 18 .undef), vL (l.getD 19 .undef), vI (l.getD 20 .undef), vL (l.getD 21 .undef), vI (l.getD 22 .undef)⟩
theorem W87.of_cells (k : W87) : W87.of k.cells = k := rfl
noncomputable def W87.dec (l : List V) : Option W87 := open Classical in if (W87.of l).cells = l then some (W87.of l) else none
theorem W87.dec_cells (k : W87) : W87.dec k.cells = some k := by unfold W87.dec; rw [W87.of_cells]; exact if_pos rfl
theorem W87.dec_ok {o : Option (List V)} {k : W87} (h : o.bind W87.dec = some k) : o = some k.cells := by
  cases o with
  | none => cases h
  | some x =>
    have h : W87.dec x = some k := h
    unfold W87.dec at h
    split at h
    · rename_i e; cases h; rw [e]
    · cases h
noncomputable abbrev RW87 : Row := ⟨W87, W87.cells, W87.dec, fun _ _ h => W87.dec_ok h⟩
structure W88 where
  c0 : Bool
  c1 : List (List V)
  deriving Inhabited
abbrev W88.cells (k : W88) : List V := [.bool k.c0, .list 2 k.c1]
def W88.dec : List V → Option W88
  | [.bool c0, .list 2 c1] => some ⟨c0, c1⟩
  | _ => none
theorem W88.dec_cells (k : W88) : W88.dec k.cells = some k := rfl
theorem W88.dec_ok {o : Option (List V)} {k : W88} (h : o.bind W88.dec = some k) : o = some k.cells := by
  cases o with
  | none => cases h
  | some x =>
    have h : W88.dec x = some k := h
    unfold W88.dec at h
    split at h
    · cases h; rfl
    · cases h
noncomputable abbrev RW88 : Row := ⟨W88, W88.cells, W88.dec, fun _ _ h => W88.dec_ok h⟩
structure W85 where
  c0 : List (List V)
  c1 : Int
  c2 : Int
  c3 : Int
  c4 : Int
  c5 : Int
  c6 : Int
  c7 : Int
  c8 : Int
  c9 : Int
  c10 : Int
  c11 : Int
  c12 : Int
  c13 : Int
  c14 : Int
  c15 : Int
  c16 : Int
  deriving Inhabited
abbrev W85.cells (k : W85) : List V := [.list 2 k.c0, .int .i64 k.c1, .int .i64 k.c2, .int .u8 k.c3, .int .u8 k.c4, .int .u8 k.c5, .int .u8 k.c6, .int .u8 k.c7, .int .u8 k.c8, .int .u8 k.c9, .int .u8 k.c10, .int .i64 k.c11, .int .i64 k.c12, .int .i64 k.c13, .int .i64 k.c14, .int .i64 k.c15, .int .i64 k.c16]
noncomputable def W85.of (l : List V) : W85 := ⟨vL (l.getD 0 .undef), vI (l.getD 1 .undef), vI (l.getD 2 .undef), vI (l.getD 3 .undef), vI (l.getD 4 .undef), vI (l.getD 5 .undef), vI (l.getD 6 .undef), vI (l.getD 7 .undef), vI (l.getD 8 .undef), vI (l.getD 9 .undef), vI (l.getD 10 .undef), vI (l.getD 11 .undef), vI (l.getD 12 .undef), vI (l.getD 13 .undef), vI (l.getD 14 .undef), vI (l.getD 15 .undef), vI (l.getD 16 .undef)⟩
theorem W85.of_cells (k : W85) : W85.of k.cells = k := rfl
noncomputable def W85.dec (l : List V) : Option W85 := open Classical in if (W85.of l).cells = l then some (W85.of l) else none
theorem W85.dec_cells (k : W85) : W85.dec k.cells = some k := by unfold W85.dec; rw [W85.of_cells]; exact if_pos rfl
theorem W85.dec_ok {o : Option (List V)} {k : W85} (h : o.bind W85.dec = some k) : o = some k.cells := by
  cases o with
  | none => cases h
  | some x =>
    have h : W85.dec x = some k := h
    unfold W85.dec at h
    split at h
    · rename_i e; cases h; rw [e]
    · cases h
noncomputable abbrev RW85 : Row := ⟨W85, W85.cells, W85.dec, fun _ _ h => W85.dec_ok h⟩
structure W59 where
  c0 : Int
  c1 : Int
  c2 : Int
  c3 : Int
  c4 : Int
  c5 : Int
  deriving Inhabited
abbrev W59.cells (k : W59) : List V := [.int .i64 k.c0, .int .i64 k.c1, .int .i64 k.c2, .int .i64 k.c3, .int .i64 k.c4, .int .i64 k.c5]
def W59.dec : List V → Option W59
  | [.int .i64 c0, .int .i64 c1, .int .i64 c2, .int .i64 c3, .int .i64 c4, .int .i64 c5] => some ⟨c0, c1, c2, c3, c4, c5⟩
  | _ => none
theorem W59.dec_cells (k : W59) : W59.dec k.cells = some k := rfl
theorem W59.dec_ok {o : Option (List V)} {k : W59} (h : o.bind W59.dec = some k) : o = some k.cells := by
  cases o with
  | none => cases h
  | some x =>
    have h : W59.dec x = some k := h
    unfold W59.dec at h
    split at h
    · cases h; rfl
    · cases h
noncomputable abbrev RW59 : Row := ⟨W59, W59.cells, W59.dec, fun _ _ h => W59.dec_ok h⟩
structure W5 where
  c0 : Int
  deriving Inhabited
abbrev W5.cells (k : W5) : List V := [.int .u8 k.c0]
def W5.dec : List V → Option W5
  | [.int .u8 c0] => some ⟨c0⟩
  | _ => none
theorem W5.dec_cells (k : W5) : W5.dec k.cells = some k := rfl
theorem W5.dec_ok {o : Option (List V)} {k : W5} (h : o.bind W5.dec = some k) : o = some k.cells := by
  cases o with
  | none => cases h
  | some x =>
    have h : W5.dec x = some k := h
    unfold W5.dec at h
    split at h
    · cases h; rfl
    · cases h
noncomputable abbrev RW5 : Row := ⟨W5, W5.cells, W5.dec, fun _ _ h => W5.dec_ok h⟩
structure W23 where
  c0 : List (List V)
  deriving Inhabited
abbrev W23.cells (k : W23) : List V := [.list 7 k.c0]
def W23.dec : List V → Option W23
  | [.list 7 c0] => some ⟨c0⟩
  | _ => none
theorem W23.dec_cells (k : W23) : W23.dec k.cells = some k := rfl
theorem W23.dec_ok {o : Option (List V)} {k : W23} (h : o.bind W23.dec = some k) : o = some k.cells := by
  cases o with
  | none => cases h
  | some x =>
    have h : W23.dec x = some k := h
    unfold W23.dec at h
    split at h
    · cases h; rfl
    · cases h
noncomputable abbrev RW23 : Row := ⟨W23, W23.cells, W23.dec, fun _ _ h => W23.dec_ok h⟩
structure W206 where
  c0 : Int
  c1 : Int
  c2 : Int
  c3 : Int
  c4 : Int
  c5 : Int
  c6 : Int
  c7 : Int
  deriving Inhabited
abbrev W206.cells (k : W206) : List V := [.int .i64 k.c0, .int .i64 k.c1, .int .i64 k.c2, .int .i64 k.c3, .int .i64 k.c4, .int .i64 k.c5, .int .i64 k.c6, .int .i64 k.c7]
def W206.dec : List V → Option W206
  | [.int .i64 c0, .int .i64 c1, .int .i64 c2, .int .i64 c3, .int .i64 c4, .int .i64 c5, .int .i64 c6, .int .i64 c7] => some ⟨c0, c1, c2, c3, c4, c5, c6, c7⟩
  | _ => none
theorem W206.dec_cells (k : W206) : W206.dec k.cells = some k := rfl
theorem W206.dec_ok {o : Option (List V)} {k : W206} (h : o.bind W206.dec = some k) : o = some k.cells := by
  cases o with
  | none => cases h
  | some x =>
    have h : W206.dec x = some k := h
    unfold W206.dec at h
    split at h
    · cases h; rfl
    · cases h
noncomputable abbrev RW206 : Row := ⟨W206, W206.cells, W206.dec, fun _ _ h => W206.dec_ok h⟩
structure W223 where
  c0 : Int
  c1 : Int
  c2 : Int
  c3 : Int
  c4 : Int
  c5 : Int
  deriving Inhabited
abbrev W223.cells (k : W223) : List V := [.int .i64 k.c0, .int .i64 k.c1, .int .i64 k.c2, .int .i64 k.c3, .int .i64 k.c4, .int .i64 k.c5]
def W223.dec : List V → Option W223
  | [.int .i64 c0, .int .i64 c1, .int .i64 c2, .int .i64 c3, .int .i64 c4, .int .i64 c5] => some ⟨c0, c1, c2, c3, c4, c5⟩
  | _ => none
theorem W223.dec_cells (k : W223) : W223.dec k.cells = some k := rfl
theorem W223.dec_ok {o : Option (List V)} {k : W223} (h : o.bind W223.dec = some k) : o = some k.cells := by
  cases o with
  | none => cases h
  | some x =>
    have h : W223.dec x = some k := h
    unfold W223.dec at h
    split at h
    · cases h; rfl
    · cases h
noncomputable abbrev RW223 : Row := ⟨W223, W223.cells, W223.dec, fun _ _ h => W223.dec_ok h⟩
structure W34 where
  c0 : Int
  c1 : Int
  c2 : List (List V)
  c3 : List (List V)
  c4 : List (List V)
  c5 : Bool
  c6 : Int
  c7 : Int
  c8 : Int
  c9 : Int
  c10 : Int
  c11 : Int
  c12 : Int
  c13 : Int
  c14 : Int
  c15 : Int
  c16 : Int
  c17 : Int
  c18 : Int
  c19 : Int
  c20 : Int
  c21 : List (List V)
  c22 : Bool
  c23 : List (List V)
  c24 : Int
  c25 : Int
  c26 : Int
  c27 : Int
  c28 : Int
  c29 : List (List V)
  c30 : List (List V)
  c31 : List (List V)
  deriving Inhabited
abbrev W34.cells (k : W34) : List V := [.int .i64 k.c0, .int .i64 k.c1, .list 7 k.c2, .list 7 k.c3, .list 8 k.c4, .bool k.c5, .int .i64 k.c6, .int .i64 k.c7, .int .u8 k.c8, .int .u8 k.c9, .int .u8 k.c10, .int .u8 k.c11, .int .u8 k.c12, .int .u8 k.c13, .int .u8 k.c14, .int .u8 k.c15, .int .i64 k.c16, .int .i64 k.c17, .int .i64 k.c18, .int .i64 k.c19, .int .i64 k.c20, .list 10 k.c21, .bool k.c22, .list 7 k.c23, .int .u8 k.c24, .int .u8 k.c25, .int .u8 k.c26, .int .u8 k.c27, .int .i64 k.c28, .list 1 k.c29, .list 7 k.c30, .list 7 k.c31]
noncomputable def W34.of (l : List V) : W34 := ⟨vI (l.getD 0 .undef), vI (l.getD 1 .undef), vL (l.getD 2 .undef), vL (l.getD 3 .undef), vL (l.getD 4 .undef), vB (l.getD 5 .undef), vI (l.getD 6 .undef), vI (l.getD 7 .undef), vI (l.getD 8 .undef), vI (l.getD 9 .undef), vI (l.getD 10 .undef), vI (l.getD 11 .undef), vI (l.getD 12 .undef), vI (l.getD 13 .undef), vI (l.getD 14 .undef), vI (l.getD 15 .undef), vI (l.getD 16 .undef), vI (l.getD 17 .undef), vI (l.getD 18 .undef), vI (l.getD 19 .undef), vI (l.getD 20 .undef), vL (l.getD 21 .undef), vB (l.getD 22 .undef), vL (l.getD 23 .undef), vI (l.getD 24 .undef), vI (l.getD 25 .undef), vI (l.getD 26 .undef), vI (l.getD 27 .undef), vI (l.getD 28 .undef), vL (l.getD 29 .undef), vL (l.getD 30 .undef), vL (l.getD 31 .undef)⟩
theorem W34.of_cells (k : W34) : W34.of k.cells = k := rfl
noncomputable def W34.dec (l : List V) : Option W34 := open Classical in if (W34.of l).cells = l then some (W34.of l) else none
theorem W34.dec_cells (k : W34) : W34.dec k.cells = some k := by unfold W34.dec; rw [W34.of_cells]; exact if_pos rfl
theorem W34.dec_ok {o : Option (List V)} {k : W34} (h : o.bind W34.dec = some k) : o = some k.cells := by
  cases o with
  | none => cases h
  | some x =>
    have h : W34.dec x = some k := h
    unfold W34.dec at h
    split at h
    · rename_i e; cases h; rw [e]
    · cases h
noncomputable abbrev RW34 : Row := ⟨W34, W34.cells, W34.dec, fun _ _ h => W34.dec_ok h⟩
end Go.Proofs.YtifalphladcdcaaGreat.H
