/- What the functions compute, and that they do so over the machine of plain values (printed by this session's program wip/vm/Walk.lean). No condition beyond those stated. -/
import Derived.Test.YtifalphladcdcaaWk
import Derived.Test.YtifalphladcdcaaRowsR5
set_option linter.unusedVariables false
set_option linter.unusedSimpArgs false
namespace Go.Proofs.Ytifalphladcdcaa.H
open Go Go.VM
set_option maxRecDepth 100000
/-! ## types -/
def Y0 : ByteArray := { data := List.toArray (List.append (List.append [0, 1, 2, 2, 3, 3, 3, 3, 4, 4, 4, 4, 4, 4, 4, 4, 5, 5, 5, 5, 5, 5, 5, 5, 5, 5, 5, 5, 5, 5, 5, 5, 6, 6, 6, 6, 6, 6, 6, 6, 6, 6, 6, 6, 6, 6, 6, 6, 6, 6, 6, 6, 6, 6, 6, 6, 6, 6, 6, 6, 6, 6, 6, 6] [7, 7, 7, 7, 7, 7, 7, 7, 7, 7, 7, 7, 7, 7, 7, 7, 7, 7, 7, 7, 7, 7, 7, 7, 7, 7, 7, 7, 7, 7, 7, 7, 7, 7, 7, 7, 7, 7, 7, 7, 7, 7, 7, 7, 7, 7, 7, 7, 7, 7, 7, 7, 7, 7, 7, 7, 7, 7, 7, 7, 7, 7, 7, 7]) (List.append [8, 8, 8, 8, 8, 8, 8, 8, 8, 8, 8, 8, 8, 8, 8, 8, 8, 8, 8, 8, 8, 8, 8, 8, 8, 8, 8, 8, 8, 8, 8, 8, 8, 8, 8, 8, 8, 8, 8, 8, 8, 8, 8, 8, 8, 8, 8, 8, 8, 8, 8, 8, 8, 8, 8, 8, 8, 8, 8, 8, 8, 8, 8, 8] [8, 8, 8, 8, 8, 8, 8, 8, 8, 8, 8, 8, 8, 8, 8, 8, 8, 8, 8, 8, 8, 8, 8, 8, 8, 8, 8, 8, 8, 8, 8, 8, 8, 8, 8, 8, 8, 8, 8, 8, 8, 8, 8, 8, 8, 8, 8, 8, 8, 8, 8, 8, 8, 8, 8, 8, 8, 8, 8, 8, 8, 8, 8, 8])) }
inductive A38 where
  | a0 (z14 : Int)
@[reducible] def A38.out : A38 → V × Store
  | .a0 z14 => (i64 z14, [])
def A38.ex (g : A38 → Prop) : Prop := (∃ (z14 : Int), g (.a0 z14))
theorem A38.ok (g : A38 → Prop) : A38.ex g ↔ ∃ b, g b := ⟨fun h => match h with
  | ⟨_, h⟩ => ⟨_, h⟩, fun ⟨b, h⟩ => match b, h with
  | .a0 _, h => ⟨_, h⟩⟩
abbrev E38 : Ent (V × Store) := ⟨A38, A38.out, A38.ex, A38.ok⟩
inductive A14 where
  | a0 (z7 : Int) (l8 : List (List V)) (z9 : Int)
@[reducible] def A14.out : A14 → V × Store
  | .a0 z7 l8 z9 => (i64 z7, [Ob.cells true false 2 [[V.list 1 l8, i64 z9]]])
def A14.ex (g : A14 → Prop) : Prop := (∃ (z7 : Int) (l8 : List (List V)) (z9 : Int), g (.a0 z7 l8 z9))
theorem A14.ok (g : A14 → Prop) : A14.ex g ↔ ∃ b, g b := ⟨fun h => match h with
  | ⟨_, _, _, h⟩ => ⟨_, h⟩, fun ⟨b, h⟩ => match b, h with
  | .a0 _ _ _, h => ⟨_, _, _, h⟩⟩
abbrev E14 : Ent (V × Store) := ⟨A14, A14.out, A14.ex, A14.ok⟩
inductive A41 where
  | a0 (z77 : Int) (l78 : List (List V)) (z79 : Int)
@[reducible] def A41.out : A41 → V × Store
  | .a0 z77 l78 z79 => (i64 z77, [Ob.cells true false 2 [[V.list 1 l78, i64 z79]]])
def A41.ex (g : A41 → Prop) : Prop := (∃ (z77 : Int) (l78 : List (List V)) (z79 : Int), g (.a0 z77 l78 z79))
theorem A41.ok (g : A41 → Prop) : A41.ex g ↔ ∃ b, g b := ⟨fun h => match h with
  | ⟨_, _, _, h⟩ => ⟨_, h⟩, fun ⟨b, h⟩ => match b, h with
  | .a0 _ _ _, h => ⟨_, _, _, h⟩⟩
abbrev E41 : Ent (V × Store) := ⟨A41, A41.out, A41.ex, A41.ok⟩
inductive A37 where
  | a0 (z89 : Int) (z90 : Int) (l91 : List (List V)) (z92 : Int)
@[reducible] def A37.out : A37 → V × Store
  | .a0 z89 z90 l91 z92 => (V.agg [i64 z89, i64 z90], [Ob.cells true false 2 [[V.list 1 l91, i64 z92]]])
def A37.ex (g : A37 → Prop) : Prop := (∃ (z89 : Int) (z90 : Int) (l91 : List (List V)) (z92 : Int), g (.a0 z89 z90 l91 z92))
theorem A37.ok (g : A37 → Prop) : A37.ex g ↔ ∃ b, g b := ⟨fun h => match h with
  | ⟨_, _, _, _, h⟩ => ⟨_, h⟩, fun ⟨b, h⟩ => match b, h with
  | .a0 _ _ _ _, h => ⟨_, _, _, _, h⟩⟩
abbrev E37 : Ent (V × Store) := ⟨A37, A37.out, A37.ex, A37.ok⟩
inductive A13 where
  | a0 (b133 : Bool) (k134 : Nat) (l135 : List (List V)) (z136 : Int) (l137 : List (List V))
@[reducible] def A13.out : A13 → V × Store
  | .a0 b133 k134 l135 z136 l137 => (V.agg [vb b133, V.hs 1 0 k134], [Ob.cells true false 2 [[V.list 1 l135, i64 z136]], Ob.cells true true 2 l137])
def A13.ex (g : A13 → Prop) : Prop := (∃ (b133 : Bool) (k134 : Nat) (l135 : List (List V)) (z136 : Int) (l137 : List (List V)), g (.a0 b133 k134 l135 z136 l137))
theorem A13.ok (g : A13 → Prop) : A13.ex g ↔ ∃ b, g b := ⟨fun h => match h with
  | ⟨_, _, _, _, _, h⟩ => ⟨_, h⟩, fun ⟨b, h⟩ => match b, h with
  | .a0 _ _ _ _ _, h => ⟨_, _, _, _, _, h⟩⟩
abbrev E13 : Ent (V × Store) := ⟨A13, A13.out, A13.ex, A13.ok⟩
inductive A75 where
  | a0 (z224 : Int) (z225 : Int) (z226 : Int) (z227 : Int) (l228 : List (List V)) (z229 : Int)
@[reducible] def A75.out : A75 → V × Store
  | .a0 z224 z225 z226 z227 l228 z229 => (V.agg [i64 z224, i64 z225, i64 z226, i64 z227], [Ob.cells true false 2 [[V.list 1 l228, i64 z229]]])
def A75.ex (g : A75 → Prop) : Prop := (∃ (z224 : Int) (z225 : Int) (z226 : Int) (z227 : Int) (l228 : List (List V)) (z229 : Int), g (.a0 z224 z225 z226 z227 l228 z229))
theorem A75.ok (g : A75 → Prop) : A75.ex g ↔ ∃ b, g b := ⟨fun h => match h with
  | ⟨_, _, _, _, _, _, h⟩ => ⟨_, h⟩, fun ⟨b, h⟩ => match b, h with
  | .a0 _ _ _ _ _ _, h => ⟨_, _, _, _, _, _, h⟩⟩
abbrev E75 : Ent (V × Store) := ⟨A75, A75.out, A75.ex, A75.ok⟩
inductive A39 where
  | a0 (z203 : Int) (z204 : Int) (z205 : Int) (z206 : Int) (z207 : Int) (l208 : List (List V)) (z209 : Int)
@[reducible] def A39.out : A39 → V × Store
  | .a0 z203 z204 z205 z206 z207 l208 z209 => (V.tup [i64 z203, V.agg [i64 z204, i64 z205, i64 z206, i64 z207]], [Ob.cells true false 2 [[V.list 1 l208, i64 z209]]])
def A39.ex (g : A39 → Prop) : Prop := (∃ (z203 : Int) (z204 : Int) (z205 : Int) (z206 : Int) (z207 : Int) (l208 : List (List V)) (z209 : Int), g (.a0 z203 z204 z205 z206 z207 l208 z209))
theorem A39.ok (g : A39 → Prop) : A39.ex g ↔ ∃ b, g b := ⟨fun h => match h with
  | ⟨_, _, _, _, _, _, _, h⟩ => ⟨_, h⟩, fun ⟨b, h⟩ => match b, h with
  | .a0 _ _ _ _ _ _ _, h => ⟨_, _, _, _, _, _, _, h⟩⟩
abbrev E39 : Ent (V × Store) := ⟨A39, A39.out, A39.ex, A39.ok⟩
inductive A40 where
  | a0 (k309 : Nat) (l310 : List (List V)) (z311 : Int) (l312 : List (List V))
@[reducible] def A40.out : A40 → V × Store
  | .a0 k309 l310 z311 l312 => (V.hs 1 0 k309, [Ob.cells true false 2 [[V.list 1 l310, i64 z311]], Ob.cells true true 7 l312])
def A40.ex (g : A40 → Prop) : Prop := (∃ (k309 : Nat) (l310 : List (List V)) (z311 : Int) (l312 : List (List V)), g (.a0 k309 l310 z311 l312))
theorem A40.ok (g : A40 → Prop) : A40.ex g ↔ ∃ b, g b := ⟨fun h => match h with
  | ⟨_, _, _, _, h⟩ => ⟨_, h⟩, fun ⟨b, h⟩ => match b, h with
  | .a0 _ _ _ _, h => ⟨_, _, _, _, h⟩⟩
abbrev E40 : Ent (V × Store) := ⟨A40, A40.out, A40.ex, A40.ok⟩
inductive A43 where
  | a0 (z422 : Int) (z423 : Int) (z424 : Int) (z425 : Int) (l426 : List (List V)) (z427 : Int)
@[reducible] def A43.out : A43 → V × Store
  | .a0 z422 z423 z424 z425 l426 z427 => (V.agg [u8 z422, u8 z423, u8 z424, u8 z425], [Ob.cells true false 2 [[V.list 1 l426, i64 z427]]])
def A43.ex (g : A43 → Prop) : Prop := (∃ (z422 : Int) (z423 : Int) (z424 : Int) (z425 : Int) (l426 : List (List V)) (z427 : Int), g (.a0 z422 z423 z424 z425 l426 z427))
theorem A43.ok (g : A43 → Prop) : A43.ex g ↔ ∃ b, g b := ⟨fun h => match h with
  | ⟨_, _, _, _, _, _, h⟩ => ⟨_, h⟩, fun ⟨b, h⟩ => match b, h with
  | .a0 _ _ _ _ _ _, h => ⟨_, _, _, _, _, _, h⟩⟩
abbrev E43 : Ent (V × Store) := ⟨A43, A43.out, A43.ex, A43.ok⟩
inductive A42 where
  | a0 (z451 : Int) (z452 : Int) (z453 : Int) (z454 : Int) (z455 : Int) (z456 : Int) (z457 : Int) (z458 : Int) (z459 : Int) (z460 : Int) (z461 : Int) (z462 : Int) (z463 : Int) (z464 : Int) (l465 : List (List V)) (z466 : Int)
@[reducible] def A42.out : A42 → V × Store
  | .a0 z451 z452 z453 z454 z455 z456 z457 z458 z459 z460 z461 z462 z463 z464 l465 z466 => (V.agg [i64 z451, u8 z452, u8 z453, u8 z454, u8 z455, u8 z456, u8 z457, u8 z458, u8 z459, i64 z460, i64 z461, i64 z462, i64 z463, i64 z464], [Ob.cells true false 2 [[V.list 1 l465, i64 z466]]])
def A42.ex (g : A42 → Prop) : Prop := (∃ (z451 : Int) (z452 : Int) (z453 : Int) (z454 : Int) (z455 : Int) (z456 : Int) (z457 : Int) (z458 : Int) (z459 : Int) (z460 : Int) (z461 : Int) (z462 : Int) (z463 : Int) (z464 : Int) (l465 : List (List V)) (z466 : Int), g (.a0 z451 z452 z453 z454 z455 z456 z457 z458 z459 z460 z461 z462 z463 z464 l465 z466))
theorem A42.ok (g : A42 → Prop) : A42.ex g ↔ ∃ b, g b := ⟨fun h => match h with
  | ⟨_, _, _, _, _, _, _, _, _, _, _, _, _, _, _, _, h⟩ => ⟨_, h⟩, fun ⟨b, h⟩ => match b, h with
  | .a0 _ _ _ _ _ _ _ _ _ _ _ _ _ _ _ _, h => ⟨_, _, _, _, _, _, _, _, _, _, _, _, _, _, _, _, h⟩⟩
abbrev E42 : Ent (V × Store) := ⟨A42, A42.out, A42.ex, A42.ok⟩
inductive A15 where
  | a0 (z891 : Int) (z892 : Int) (k893 : Nat) (k894 : Nat) (k895 : Nat) (b896 : Bool) (z897 : Int) (z898 : Int) (z899 : Int) (z900 : Int) (z901 : Int) (z902 : Int) (z903 : Int) (z904 : Int) (z905 : Int) (z906 : Int) (z907 : Int) (z908 : Int) (z909 : Int) (z910 : Int) (z911 : Int) (k912 : Nat) (b913 : Bool) (k914 : Nat) (z915 : Int) (z916 : Int) (z917 : Int) (z918 : Int) (z919 : Int) (k920 : Nat) (k921 : Nat) (k922 : Nat) (l923 : List (List V)) (z924 : Int) (l925 : List (List V)) (l926 : List (List V)) (l927 : List (List V)) (l928 : List (List V)) (l929 : List (List V)) (l930 : List (List V)) (l931 : List (List V)) (l932 : List (List V))
@[reducible] def A15.out : A15 → V × Store
  | .a0 z891 z892 k893 k894 k895 b896 z897 z898 z899 z900 z901 z902 z903 z904 z905 z906 z907 z908 z909 z910 z911 k912 b913 k914 z915 z916 z917 z918 z919 k920 k921 k922 l923 z924 l925 l926 l927 l928 l929 l930 l931 l932 => (V.agg [i64 z891, i64 z892, V.hs 1 0 k893, V.hs 2 0 k894, V.hs 3 0 k895, vb b896, i64 z897, i64 z898, u8 z899, u8 z900, u8 z901, u8 z902, u8 z903, u8 z904, u8 z905, u8 z906, i64 z907, i64 z908, i64 z909, i64 z910, i64 z911, V.hs 4 0 k912, vb b913, V.hs 5 0 k914, u8 z915, u8 z916, u8 z917, u8 z918, i64 z919, V.hs 6 0 k920, V.hs 7 0 k921, V.hs 8 0 k922], [Ob.cells true false 2 [[V.list 1 l923, i64 z924]], Ob.cells true true 7 l925, Ob.cells true true 7 l926, Ob.cells true true 8 l927, Ob.cells true true 10 l928, Ob.cells true true 7 l929, Ob.cells true true 1 l930, Ob.cells true true 7 l931, Ob.cells true true 7 l932])
def A15.ex (g : A15 → Prop) : Prop := (∃ (z891 : Int) (z892 : Int) (k893 : Nat) (k894 : Nat) (k895 : Nat) (b896 : Bool) (z897 : Int) (z898 : Int) (z899 : Int) (z900 : Int) (z901 : Int) (z902 : Int) (z903 : Int) (z904 : Int) (z905 : Int) (z906 : Int) (z907 : Int) (z908 : Int) (z909 : Int) (z910 : Int) (z911 : Int) (k912 : Nat) (b913 : Bool) (k914 : Nat) (z915 : Int) (z916 : Int) (z917 : Int) (z918 : Int) (z919 : Int) (k920 : Nat) (k921 : Nat) (k922 : Nat) (l923 : List (List V)) (z924 : Int) (l925 : List (List V)) (l926 : List (List V)) (l927 : List (List V)) (l928 : List (List V)) (l929 : List (List V)) (l930 : List (List V)) (l931 : List (List V)) (l932 : List (List V)), g (.a0 z891 z892 k893 k894 k895 b896 z897 z898 z899 z900 z901 z902 z903 z904 z905 z906 z907 z908 z909 z910 z911 k912 b913 k914 z915 z916 z917 z918 z919 k920 k921 k922 l923 z924 l925 l926 l927 l928 l929 l930 l931 l932))
theorem A15.ok (g : A15 → Prop) : A15.ex g ↔ ∃ b, g b := ⟨fun h => match h with
  | ⟨_, _, _, _, _, _, _, _, _, _, _, _, _, _, _, _, _, _, _, _, _, _, _, _, _, _, _, _, _, _, _, _, _, _, _, _, _, _, _, _, _, _, h⟩ => ⟨_, h⟩, fun ⟨b, h⟩ => match b, h with
  | .a0 _ _ _ _ _ _ _ _ _ _ _ _ _ _ _ _ _ _ _ _ _ _ _ _ _ _ _ _ _ _ _ _ _ _ _ _ _ _ _ _ _ _, h => ⟨_, _, _, _, _, _, _, _, _, _, _, _, _, _, _, _, _, _, _, _, _, _, _, _, _, _, _, _, _, _, _, _, _, _, _, _, _, _, _, _, _, _, h⟩⟩
abbrev E15 : Ent (V × Store) := ⟨A15, A15.out, A15.ex, A15.ok⟩
inductive A76 where
  | a0 (z1713 : Int)
@[reducible] def A76.out : A76 → V × Store
  | .a0 z1713 => (i64 z1713, [])
def A76.ex (g : A76 → Prop) : Prop := (∃ (z1713 : Int), g (.a0 z1713))
theorem A76.ok (g : A76 → Prop) : A76.ex g ↔ ∃ b, g b := ⟨fun h => match h with
  | ⟨_, h⟩ => ⟨_, h⟩, fun ⟨b, h⟩ => match b, h with
  | .a0 _, h => ⟨_, h⟩⟩
abbrev E76 : Ent (V × Store) := ⟨A76, A76.out, A76.ex, A76.ok⟩
inductive A72 where
  | a0 (z1734 : Int)
@[reducible] def A72.out : A72 → V × Store
  | .a0 z1734 => (i64 z1734, [])
def A72.ex (g : A72 → Prop) : Prop := (∃ (z1734 : Int), g (.a0 z1734))
theorem A72.ok (g : A72 → Prop) : A72.ex g ↔ ∃ b, g b := ⟨fun h => match h with
  | ⟨_, h⟩ => ⟨_, h⟩, fun ⟨b, h⟩ => match b, h with
  | .a0 _, h => ⟨_, h⟩⟩
abbrev E72 : Ent (V × Store) := ⟨A72, A72.out, A72.ex, A72.ok⟩
inductive A113 where
  | a0 (z1766 : Int) (z1767 : Int)
@[reducible] def A113.out : A113 → V × Store
  | .a0 z1766 z1767 => (V.tup [V.int IntKind.u64 z1766, V.int IntKind.u64 z1767], [])
def A113.ex (g : A113 → Prop) : Prop := (∃ (z1766 : Int) (z1767 : Int), g (.a0 z1766 z1767))
theorem A113.ok (g : A113 → Prop) : A113.ex g ↔ ∃ b, g b := ⟨fun h => match h with
  | ⟨_, _, h⟩ => ⟨_, h⟩, fun ⟨b, h⟩ => match b, h with
  | .a0 _ _, h => ⟨_, _, h⟩⟩
abbrev E113 : Ent (V × Store) := ⟨A113, A113.out, A113.ex, A113.ok⟩
inductive A109 where
  | a0 (z1770 : Int) (z1771 : Int)
@[reducible] def A109.out : A109 → V × Store
  | .a0 z1770 z1771 => (V.tup [V.int IntKind.u64 z1770, V.int IntKind.u64 z1771], [])
def A109.ex (g : A109 → Prop) : Prop := (∃ (z1770 : Int) (z1771 : Int), g (.a0 z1770 z1771))
theorem A109.ok (g : A109 → Prop) : A109.ex g ↔ ∃ b, g b := ⟨fun h => match h with
  | ⟨_, _, h⟩ => ⟨_, h⟩, fun ⟨b, h⟩ => match b, h with
  | .a0 _ _, h => ⟨_, _, h⟩⟩
abbrev E109 : Ent (V × Store) := ⟨A109, A109.out, A109.ex, A109.ok⟩
inductive A108 where
  | a0 (z1786 : Int)
@[reducible] def A108.out : A108 → V × Store
  | .a0 z1786 => (i64 z1786, [])
def A108.ex (g : A108 → Prop) : Prop := (∃ (z1786 : Int), g (.a0 z1786))
theorem A108.ok (g : A108 → Prop) : A108.ex g ↔ ∃ b, g b := ⟨fun h => match h with
  | ⟨_, h⟩ => ⟨_, h⟩, fun ⟨b, h⟩ => match b, h with
  | .a0 _, h => ⟨_, h⟩⟩
abbrev E108 : Ent (V × Store) := ⟨A108, A108.out, A108.ex, A108.ok⟩
inductive A79 where
  | a0 (z1792 : Int)
@[reducible] def A79.out : A79 → V × Store
  | .a0 z1792 => (i64 z1792, [])
def A79.ex (g : A79 → Prop) : Prop := (∃ (z1792 : Int), g (.a0 z1792))
theorem A79.ok (g : A79 → Prop) : A79.ex g ↔ ∃ b, g b := ⟨fun h => match h with
  | ⟨_, h⟩ => ⟨_, h⟩, fun ⟨b, h⟩ => match b, h with
  | .a0 _, h => ⟨_, h⟩⟩
abbrev E79 : Ent (V × Store) := ⟨A79, A79.out, A79.ex, A79.ok⟩
inductive A121 where
  | a0 (z1809 : Int)
@[reducible] def A121.out : A121 → V × Store
  | .a0 z1809 => (i64 z1809, [])
def A121.ex (g : A121 → Prop) : Prop := (∃ (z1809 : Int), g (.a0 z1809))
theorem A121.ok (g : A121 → Prop) : A121.ex g ↔ ∃ b, g b := ⟨fun h => match h with
  | ⟨_, h⟩ => ⟨_, h⟩, fun ⟨b, h⟩ => match b, h with
  | .a0 _, h => ⟨_, h⟩⟩
abbrev E121 : Ent (V × Store) := ⟨A121, A121.out, A121.ex, A121.ok⟩
inductive A106 where
  | a0 (z1748 : Int)
@[reducible] def A106.out : A106 → V × Store
  | .a0 z1748 => (i64 z1748, [])
def A106.ex (g : A106 → Prop) : Prop := (∃ (z1748 : Int), g (.a0 z1748))
theorem A106.ok (g : A106 → Prop) : A106.ex g ↔ ∃ b, g b := ⟨fun h => match h with
  | ⟨_, h⟩ => ⟨_, h⟩, fun ⟨b, h⟩ => match b, h with
  | .a0 _, h => ⟨_, h⟩⟩
abbrev E106 : Ent (V × Store) := ⟨A106, A106.out, A106.ex, A106.ok⟩
inductive A71 where
  | a0 (z1742 : Int)
@[reducible] def A71.out : A71 → V × Store
  | .a0 z1742 => (i64 z1742, [])
def A71.ex (g : A71 → Prop) : Prop := (∃ (z1742 : Int), g (.a0 z1742))
theorem A71.ok (g : A71 → Prop) : A71.ex g ↔ ∃ b, g b := ⟨fun h => match h with
  | ⟨_, h⟩ => ⟨_, h⟩, fun ⟨b, h⟩ => match b, h with
  | .a0 _, h => ⟨_, h⟩⟩
abbrev E71 : Ent (V × Store) := ⟨A71, A71.out, A71.ex, A71.ok⟩
inductive A66 where
  | a0 (z1855 : Int)
@[reducible] def A66.out : A66 → V × Store
  | .a0 z1855 => (i64 z1855, [])
def A66.ex (g : A66 → Prop) : Prop := (∃ (z1855 : Int), g (.a0 z1855))
theorem A66.ok (g : A66 → Prop) : A66.ex g ↔ ∃ b, g b := ⟨fun h => match h with
  | ⟨_, h⟩ => ⟨_, h⟩, fun ⟨b, h⟩ => match b, h with
  | .a0 _, h => ⟨_, h⟩⟩
abbrev E66 : Ent (V × Store) := ⟨A66, A66.out, A66.ex, A66.ok⟩
inductive A44 where
  | a0 (z1704 : Int)
@[reducible] def A44.out : A44 → V × Store
  | .a0 z1704 => (i64 z1704, [])
def A44.ex (g : A44 → Prop) : Prop := (∃ (z1704 : Int), g (.a0 z1704))
theorem A44.ok (g : A44 → Prop) : A44.ex g ↔ ∃ b, g b := ⟨fun h => match h with
  | ⟨_, h⟩ => ⟨_, h⟩, fun ⟨b, h⟩ => match b, h with
  | .a0 _, h => ⟨_, h⟩⟩
abbrev E44 : Ent (V × Store) := ⟨A44, A44.out, A44.ex, A44.ok⟩
inductive A78 where
  | a0 (z1863 : Int) (z1864 : Int)
@[reducible] def A78.out : A78 → V × Store
  | .a0 z1863 z1864 => (V.agg [i64 z1863, i64 z1864], [])
def A78.ex (g : A78 → Prop) : Prop := (∃ (z1863 : Int) (z1864 : Int), g (.a0 z1863 z1864))
theorem A78.ok (g : A78 → Prop) : A78.ex g ↔ ∃ b, g b := ⟨fun h => match h with
  | ⟨_, _, h⟩ => ⟨_, h⟩, fun ⟨b, h⟩ => match b, h with
  | .a0 _ _, h => ⟨_, _, h⟩⟩
abbrev E78 : Ent (V × Store) := ⟨A78, A78.out, A78.ex, A78.ok⟩
inductive A77 where
  | a0 (b1887 : Bool) (k1888 : Nat) (l1889 : List (List V))
@[reducible] def A77.out : A77 → V × Store
  | .a0 b1887 k1888 l1889 => (V.agg [vb b1887, V.hs 0 0 k1888], [Ob.cells true true 2 l1889])
def A77.ex (g : A77 → Prop) : Prop := (∃ (b1887 : Bool) (k1888 : Nat) (l1889 : List (List V)), g (.a0 b1887 k1888 l1889))
theorem A77.ok (g : A77 → Prop) : A77.ex g ↔ ∃ b, g b := ⟨fun h => match h with
  | ⟨_, _, _, h⟩ => ⟨_, h⟩, fun ⟨b, h⟩ => match b, h with
  | .a0 _ _ _, h => ⟨_, _, _, h⟩⟩
abbrev E77 : Ent (V × Store) := ⟨A77, A77.out, A77.ex, A77.ok⟩
inductive A45 where
  | a0 (b1905 : Bool) (k1906 : Nat) (l1907 : List (List V))
@[reducible] def A45.out : A45 → V × Store
  | .a0 b1905 k1906 l1907 => (V.agg [vb b1905, V.hs 0 0 k1906], [Ob.cells true true 2 l1907])
def A45.ex (g : A45 → Prop) : Prop := (∃ (b1905 : Bool) (k1906 : Nat) (l1907 : List (List V)), g (.a0 b1905 k1906 l1907))
theorem A45.ok (g : A45 → Prop) : A45.ex g ↔ ∃ b, g b := ⟨fun h => match h with
  | ⟨_, _, _, h⟩ => ⟨_, h⟩, fun ⟨b, h⟩ => match b, h with
  | .a0 _ _ _, h => ⟨_, _, _, h⟩⟩
abbrev E45 : Ent (V × Store) := ⟨A45, A45.out, A45.ex, A45.ok⟩
inductive A46 where
  | a0 (b1944 : Bool) (k1945 : Nat) (l1946 : List (List V))
@[reducible] def A46.out : A46 → V × Store
  | .a0 b1944 k1945 l1946 => (V.agg [vb b1944, V.hs 0 0 k1945], [Ob.cells true true 2 l1946])
def A46.ex (g : A46 → Prop) : Prop := (∃ (b1944 : Bool) (k1945 : Nat) (l1946 : List (List V)), g (.a0 b1944 k1945 l1946))
theorem A46.ok (g : A46 → Prop) : A46.ex g ↔ ∃ b, g b := ⟨fun h => match h with
  | ⟨_, _, _, h⟩ => ⟨_, h⟩, fun ⟨b, h⟩ => match b, h with
  | .a0 _ _ _, h => ⟨_, _, _, h⟩⟩
abbrev E46 : Ent (V × Store) := ⟨A46, A46.out, A46.ex, A46.ok⟩
inductive A81 where
  | a0 (z1978 : Int)
@[reducible] def A81.out : A81 → V × Store
  | .a0 z1978 => (i64 z1978, [])
def A81.ex (g : A81 → Prop) : Prop := (∃ (z1978 : Int), g (.a0 z1978))
theorem A81.ok (g : A81 → Prop) : A81.ex g ↔ ∃ b, g b := ⟨fun h => match h with
  | ⟨_, h⟩ => ⟨_, h⟩, fun ⟨b, h⟩ => match b, h with
  | .a0 _, h => ⟨_, h⟩⟩
abbrev E81 : Ent (V × Store) := ⟨A81, A81.out, A81.ex, A81.ok⟩
inductive A80 where
  | a0 (z1982 : Int)
@[reducible] def A80.out : A80 → V × Store
  | .a0 z1982 => (i64 z1982, [])
def A80.ex (g : A80 → Prop) : Prop := (∃ (z1982 : Int), g (.a0 z1982))
theorem A80.ok (g : A80 → Prop) : A80.ex g ↔ ∃ b, g b := ⟨fun h => match h with
  | ⟨_, h⟩ => ⟨_, h⟩, fun ⟨b, h⟩ => match b, h with
  | .a0 _, h => ⟨_, h⟩⟩
abbrev E80 : Ent (V × Store) := ⟨A80, A80.out, A80.ex, A80.ok⟩
inductive A47 where
  | a0 (b1999 : Bool) (k2000 : Nat) (l2001 : List (List V))
@[reducible] def A47.out : A47 → V × Store
  | .a0 b1999 k2000 l2001 => (V.agg [vb b1999, V.hs 0 0 k2000], [Ob.cells true true 2 l2001])
def A47.ex (g : A47 → Prop) : Prop := (∃ (b1999 : Bool) (k2000 : Nat) (l2001 : List (List V)), g (.a0 b1999 k2000 l2001))
theorem A47.ok (g : A47 → Prop) : A47.ex g ↔ ∃ b, g b := ⟨fun h => match h with
  | ⟨_, _, _, h⟩ => ⟨_, h⟩, fun ⟨b, h⟩ => match b, h with
  | .a0 _ _ _, h => ⟨_, _, _, h⟩⟩
abbrev E47 : Ent (V × Store) := ⟨A47, A47.out, A47.ex, A47.ok⟩
inductive A65 where
  | a0 (l2083 : List (List V))
@[reducible] def A65.out : A65 → V × Store
  | .a0 l2083 => (V.hs 0 0 (List.length l2083), [Ob.cells true true 2 l2083])
def A65.ex (g : A65 → Prop) : Prop := (∃ (l2083 : List (List V)), g (.a0 l2083))
theorem A65.ok (g : A65 → Prop) : A65.ex g ↔ ∃ b, g b := ⟨fun h => match h with
  | ⟨_, h⟩ => ⟨_, h⟩, fun ⟨b, h⟩ => match b, h with
  | .a0 _, h => ⟨_, h⟩⟩
abbrev E65 : Ent (V × Store) := ⟨A65, A65.out, A65.ex, A65.ok⟩
inductive A59 where
  | a0 (b2085 : Bool) (k2086 : Nat) (l2087 : List (List V))
@[reducible] def A59.out : A59 → V × Store
  | .a0 b2085 k2086 l2087 => (V.agg [vb b2085, V.hs 0 0 k2086], [Ob.cells true true 2 l2087])
def A59.ex (g : A59 → Prop) : Prop := (∃ (b2085 : Bool) (k2086 : Nat) (l2087 : List (List V)), g (.a0 b2085 k2086 l2087))
theorem A59.ok (g : A59 → Prop) : A59.ex g ↔ ∃ b, g b := ⟨fun h => match h with
  | ⟨_, _, _, h⟩ => ⟨_, h⟩, fun ⟨b, h⟩ => match b, h with
  | .a0 _ _ _, h => ⟨_, _, _, h⟩⟩
abbrev E59 : Ent (V × Store) := ⟨A59, A59.out, A59.ex, A59.ok⟩
inductive A29 where
  | a0 (b2111 : Bool) (k2112 : Nat) (l2113 : List (List V))
@[reducible] def A29.out : A29 → V × Store
  | .a0 b2111 k2112 l2113 => (V.agg [vb b2111, V.hs 0 0 k2112], [Ob.cells true true 2 l2113])
def A29.ex (g : A29 → Prop) : Prop := (∃ (b2111 : Bool) (k2112 : Nat) (l2113 : List (List V)), g (.a0 b2111 k2112 l2113))
theorem A29.ok (g : A29 → Prop) : A29.ex g ↔ ∃ b, g b := ⟨fun h => match h with
  | ⟨_, _, _, h⟩ => ⟨_, h⟩, fun ⟨b, h⟩ => match b, h with
  | .a0 _ _ _, h => ⟨_, _, _, h⟩⟩
abbrev E29 : Ent (V × Store) := ⟨A29, A29.out, A29.ex, A29.ok⟩
inductive A35 where
  | a0 (b2067 : Bool) (k2068 : Nat) (l2069 : List (List V))
@[reducible] def A35.out : A35 → V × Store
  | .a0 b2067 k2068 l2069 => (V.agg [vb b2067, V.hs 0 0 k2068], [Ob.cells true true 2 l2069])
def A35.ex (g : A35 → Prop) : Prop := (∃ (b2067 : Bool) (k2068 : Nat) (l2069 : List (List V)), g (.a0 b2067 k2068 l2069))
theorem A35.ok (g : A35 → Prop) : A35.ex g ↔ ∃ b, g b := ⟨fun h => match h with
  | ⟨_, _, _, h⟩ => ⟨_, h⟩, fun ⟨b, h⟩ => match b, h with
  | .a0 _ _ _, h => ⟨_, _, _, h⟩⟩
abbrev E35 : Ent (V × Store) := ⟨A35, A35.out, A35.ex, A35.ok⟩
inductive A16 where
  | a0 (b1911 : Bool) (k1912 : Nat) (l1913 : List (List V))
@[reducible] def A16.out : A16 → V × Store
  | .a0 b1911 k1912 l1913 => (V.agg [vb b1911, V.hs 0 0 k1912], [Ob.cells true true 2 l1913])
def A16.ex (g : A16 → Prop) : Prop := (∃ (b1911 : Bool) (k1912 : Nat) (l1913 : List (List V)), g (.a0 b1911 k1912 l1913))
theorem A16.ok (g : A16 → Prop) : A16.ex g ↔ ∃ b, g b := ⟨fun h => match h with
  | ⟨_, _, _, h⟩ => ⟨_, h⟩, fun ⟨b, h⟩ => match b, h with
  | .a0 _ _ _, h => ⟨_, _, _, h⟩⟩
abbrev E16 : Ent (V × Store) := ⟨A16, A16.out, A16.ex, A16.ok⟩
inductive A69 where
  | a0 (b2704 : Bool)
@[reducible] def A69.out : A69 → V × Store
  | .a0 b2704 => (vb b2704, [])
def A69.ex (g : A69 → Prop) : Prop := (∃ (b2704 : Bool), g (.a0 b2704))
theorem A69.ok (g : A69 → Prop) : A69.ex g ↔ ∃ b, g b := ⟨fun h => match h with
  | ⟨_, h⟩ => ⟨_, h⟩, fun ⟨b, h⟩ => match b, h with
  | .a0 _, h => ⟨_, h⟩⟩
abbrev E69 : Ent (V × Store) := ⟨A69, A69.out, A69.ex, A69.ok⟩
inductive A97 where
  | a0 (z2750 : Int)
@[reducible] def A97.out : A97 → V × Store
  | .a0 z2750 => (i64 z2750, [])
def A97.ex (g : A97 → Prop) : Prop := (∃ (z2750 : Int), g (.a0 z2750))
theorem A97.ok (g : A97 → Prop) : A97.ex g ↔ ∃ b, g b := ⟨fun h => match h with
  | ⟨_, h⟩ => ⟨_, h⟩, fun ⟨b, h⟩ => match b, h with
  | .a0 _, h => ⟨_, h⟩⟩
abbrev E97 : Ent (V × Store) := ⟨A97, A97.out, A97.ex, A97.ok⟩
inductive A61 where
  | a0 (b2759 : Bool)
@[reducible] def A61.out : A61 → V × Store
  | .a0 b2759 => (vb b2759, [])
def A61.ex (g : A61 → Prop) : Prop := (∃ (b2759 : Bool), g (.a0 b2759))
theorem A61.ok (g : A61 → Prop) : A61.ex g ↔ ∃ b, g b := ⟨fun h => match h with
  | ⟨_, h⟩ => ⟨_, h⟩, fun ⟨b, h⟩ => match b, h with
  | .a0 _, h => ⟨_, h⟩⟩
abbrev E61 : Ent (V × Store) := ⟨A61, A61.out, A61.ex, A61.ok⟩
inductive A24 where
  | a0 (b2733 : Bool)
@[reducible] def A24.out : A24 → V × Store
  | .a0 b2733 => (vb b2733, [])
def A24.ex (g : A24 → Prop) : Prop := (∃ (b2733 : Bool), g (.a0 b2733))
theorem A24.ok (g : A24 → Prop) : A24.ex g ↔ ∃ b, g b := ⟨fun h => match h with
  | ⟨_, h⟩ => ⟨_, h⟩, fun ⟨b, h⟩ => match b, h with
  | .a0 _, h => ⟨_, h⟩⟩
abbrev E24 : Ent (V × Store) := ⟨A24, A24.out, A24.ex, A24.ok⟩
inductive A33 where
  | a0 (b2769 : Bool)
@[reducible] def A33.out : A33 → V × Store
  | .a0 b2769 => (vb b2769, [])
def A33.ex (g : A33 → Prop) : Prop := (∃ (b2769 : Bool), g (.a0 b2769))
theorem A33.ok (g : A33 → Prop) : A33.ex g ↔ ∃ b, g b := ⟨fun h => match h with
  | ⟨_, h⟩ => ⟨_, h⟩, fun ⟨b, h⟩ => match b, h with
  | .a0 _, h => ⟨_, h⟩⟩
abbrev E33 : Ent (V × Store) := ⟨A33, A33.out, A33.ex, A33.ok⟩
inductive A51 where
  | a0 (b2858 : Bool)
@[reducible] def A51.out : A51 → V × Store
  | .a0 b2858 => (vb b2858, [])
def A51.ex (g : A51 → Prop) : Prop := (∃ (b2858 : Bool), g (.a0 b2858))
theorem A51.ok (g : A51 → Prop) : A51.ex g ↔ ∃ b, g b := ⟨fun h => match h with
  | ⟨_, h⟩ => ⟨_, h⟩, fun ⟨b, h⟩ => match b, h with
  | .a0 _, h => ⟨_, h⟩⟩
abbrev E51 : Ent (V × Store) := ⟨A51, A51.out, A51.ex, A51.ok⟩
inductive A48 where
  | a0 (b2815 : Bool)
@[reducible] def A48.out : A48 → V × Store
  | .a0 b2815 => (vb b2815, [])
def A48.ex (g : A48 → Prop) : Prop := (∃ (b2815 : Bool), g (.a0 b2815))
theorem A48.ok (g : A48 → Prop) : A48.ex g ↔ ∃ b, g b := ⟨fun h => match h with
  | ⟨_, h⟩ => ⟨_, h⟩, fun ⟨b, h⟩ => match b, h with
  | .a0 _, h => ⟨_, h⟩⟩
abbrev E48 : Ent (V × Store) := ⟨A48, A48.out, A48.ex, A48.ok⟩
inductive A49 where
  | a0 (b3067 : Bool)
@[reducible] def A49.out : A49 → V × Store
  | .a0 b3067 => (vb b3067, [])
def A49.ex (g : A49 → Prop) : Prop := (∃ (b3067 : Bool), g (.a0 b3067))
theorem A49.ok (g : A49 → Prop) : A49.ex g ↔ ∃ b, g b := ⟨fun h => match h with
  | ⟨_, h⟩ => ⟨_, h⟩, fun ⟨b, h⟩ => match b, h with
  | .a0 _, h => ⟨_, h⟩⟩
abbrev E49 : Ent (V × Store) := ⟨A49, A49.out, A49.ex, A49.ok⟩
inductive A50 where
  | a0 (b3099 : Bool)
@[reducible] def A50.out : A50 → V × Store
  | .a0 b3099 => (vb b3099, [])
def A50.ex (g : A50 → Prop) : Prop := (∃ (b3099 : Bool), g (.a0 b3099))
theorem A50.ok (g : A50 → Prop) : A50.ex g ↔ ∃ b, g b := ⟨fun h => match h with
  | ⟨_, h⟩ => ⟨_, h⟩, fun ⟨b, h⟩ => match b, h with
  | .a0 _, h => ⟨_, h⟩⟩
abbrev E50 : Ent (V × Store) := ⟨A50, A50.out, A50.ex, A50.ok⟩
inductive A111 where
  | a0 (z3120 : Int)
@[reducible] def A111.out : A111 → V × Store
  | .a0 z3120 => (i64 z3120, [])
def A111.ex (g : A111 → Prop) : Prop := (∃ (z3120 : Int), g (.a0 z3120))
theorem A111.ok (g : A111 → Prop) : A111.ex g ↔ ∃ b, g b := ⟨fun h => match h with
  | ⟨_, h⟩ => ⟨_, h⟩, fun ⟨b, h⟩ => match b, h with
  | .a0 _, h => ⟨_, h⟩⟩
abbrev E111 : Ent (V × Store) := ⟨A111, A111.out, A111.ex, A111.ok⟩
inductive A83 where
  | a0 (b3129 : Bool)
@[reducible] def A83.out : A83 → V × Store
  | .a0 b3129 => (vb b3129, [])
def A83.ex (g : A83 → Prop) : Prop := (∃ (b3129 : Bool), g (.a0 b3129))
theorem A83.ok (g : A83 → Prop) : A83.ex g ↔ ∃ b, g b := ⟨fun h => match h with
  | ⟨_, h⟩ => ⟨_, h⟩, fun ⟨b, h⟩ => match b, h with
  | .a0 _, h => ⟨_, h⟩⟩
abbrev E83 : Ent (V × Store) := ⟨A83, A83.out, A83.ex, A83.ok⟩
inductive A52 where
  | a0 (b3131 : Bool)
@[reducible] def A52.out : A52 → V × Store
  | .a0 b3131 => (vb b3131, [])
def A52.ex (g : A52 → Prop) : Prop := (∃ (b3131 : Bool), g (.a0 b3131))
theorem A52.ok (g : A52 → Prop) : A52.ex g ↔ ∃ b, g b := ⟨fun h => match h with
  | ⟨_, h⟩ => ⟨_, h⟩, fun ⟨b, h⟩ => match b, h with
  | .a0 _, h => ⟨_, h⟩⟩
abbrev E52 : Ent (V × Store) := ⟨A52, A52.out, A52.ex, A52.ok⟩
inductive A17 where
  | a0 (b3133 : Bool)
@[reducible] def A17.out : A17 → V × Store
  | .a0 b3133 => (vb b3133, [])
def A17.ex (g : A17 → Prop) : Prop := (∃ (b3133 : Bool), g (.a0 b3133))
theorem A17.ok (g : A17 → Prop) : A17.ex g ↔ ∃ b, g b := ⟨fun h => match h with
  | ⟨_, h⟩ => ⟨_, h⟩, fun ⟨b, h⟩ => match b, h with
  | .a0 _, h => ⟨_, h⟩⟩
abbrev E17 : Ent (V × Store) := ⟨A17, A17.out, A17.ex, A17.ok⟩
inductive A18 where
  | a0 (b3145 : Bool)
@[reducible] def A18.out : A18 → V × Store
  | .a0 b3145 => (vb b3145, [])
def A18.ex (g : A18 → Prop) : Prop := (∃ (b3145 : Bool), g (.a0 b3145))
theorem A18.ok (g : A18 → Prop) : A18.ex g ↔ ∃ b, g b := ⟨fun h => match h with
  | ⟨_, h⟩ => ⟨_, h⟩, fun ⟨b, h⟩ => match b, h with
  | .a0 _, h => ⟨_, h⟩⟩
abbrev E18 : Ent (V × Store) := ⟨A18, A18.out, A18.ex, A18.ok⟩
inductive A19 where
  | a0 (b3176 : Bool)
@[reducible] def A19.out : A19 → V × Store
  | .a0 b3176 => (vb b3176, [])
def A19.ex (g : A19 → Prop) : Prop := (∃ (b3176 : Bool), g (.a0 b3176))
theorem A19.ok (g : A19 → Prop) : A19.ex g ↔ ∃ b, g b := ⟨fun h => match h with
  | ⟨_, h⟩ => ⟨_, h⟩, fun ⟨b, h⟩ => match b, h with
  | .a0 _, h => ⟨_, h⟩⟩
abbrev E19 : Ent (V × Store) := ⟨A19, A19.out, A19.ex, A19.ok⟩
inductive A5 where
  | a0 (b3178 : Bool)
@[reducible] def A5.out : A5 → V × Store
  | .a0 b3178 => (vb b3178, [])
def A5.ex (g : A5 → Prop) : Prop := (∃ (b3178 : Bool), g (.a0 b3178))
theorem A5.ok (g : A5 → Prop) : A5.ex g ↔ ∃ b, g b := ⟨fun h => match h with
  | ⟨_, h⟩ => ⟨_, h⟩, fun ⟨b, h⟩ => match b, h with
  | .a0 _, h => ⟨_, h⟩⟩
abbrev E5 : Ent (V × Store) := ⟨A5, A5.out, A5.ex, A5.ok⟩
inductive A31 where
  | a0 (b3236 : Bool)
@[reducible] def A31.out : A31 → V × Store
  | .a0 b3236 => (vb b3236, [])
def A31.ex (g : A31 → Prop) : Prop := (∃ (b3236 : Bool), g (.a0 b3236))
theorem A31.ok (g : A31 → Prop) : A31.ex g ↔ ∃ b, g b := ⟨fun h => match h with
  | ⟨_, h⟩ => ⟨_, h⟩, fun ⟨b, h⟩ => match b, h with
  | .a0 _, h => ⟨_, h⟩⟩
abbrev E31 : Ent (V × Store) := ⟨A31, A31.out, A31.ex, A31.ok⟩
inductive A20 where
  | a0 (b3247 : Bool)
@[reducible] def A20.out : A20 → V × Store
  | .a0 b3247 => (vb b3247, [])
def A20.ex (g : A20 → Prop) : Prop := (∃ (b3247 : Bool), g (.a0 b3247))
theorem A20.ok (g : A20 → Prop) : A20.ex g ↔ ∃ b, g b := ⟨fun h => match h with
  | ⟨_, h⟩ => ⟨_, h⟩, fun ⟨b, h⟩ => match b, h with
  | .a0 _, h => ⟨_, h⟩⟩
abbrev E20 : Ent (V × Store) := ⟨A20, A20.out, A20.ex, A20.ok⟩
inductive A6 where
  | a0 (b3257 : Bool)
@[reducible] def A6.out : A6 → V × Store
  | .a0 b3257 => (vb b3257, [])
def A6.ex (g : A6 → Prop) : Prop := (∃ (b3257 : Bool), g (.a0 b3257))
theorem A6.ok (g : A6 → Prop) : A6.ex g ↔ ∃ b, g b := ⟨fun h => match h with
  | ⟨_, h⟩ => ⟨_, h⟩, fun ⟨b, h⟩ => match b, h with
  | .a0 _, h => ⟨_, h⟩⟩
abbrev E6 : Ent (V × Store) := ⟨A6, A6.out, A6.ex, A6.ok⟩
inductive A96 where
  | a0 (z3392 : Int)
@[reducible] def A96.out : A96 → V × Store
  | .a0 z3392 => (i64 z3392, [])
def A96.ex (g : A96 → Prop) : Prop := (∃ (z3392 : Int), g (.a0 z3392))
theorem A96.ok (g : A96 → Prop) : A96.ex g ↔ ∃ b, g b := ⟨fun h => match h with
  | ⟨_, h⟩ => ⟨_, h⟩, fun ⟨b, h⟩ => match b, h with
  | .a0 _, h => ⟨_, h⟩⟩
abbrev E96 : Ent (V × Store) := ⟨A96, A96.out, A96.ex, A96.ok⟩
inductive A60 where
  | a0 (z3402 : Int) (z3403 : Int)
@[reducible] def A60.out : A60 → V × Store
  | .a0 z3402 z3403 => (V.agg [i64 z3402, i64 z3403], [])
def A60.ex (g : A60 → Prop) : Prop := (∃ (z3402 : Int) (z3403 : Int), g (.a0 z3402 z3403))
theorem A60.ok (g : A60 → Prop) : A60.ex g ↔ ∃ b, g b := ⟨fun h => match h with
  | ⟨_, _, h⟩ => ⟨_, h⟩, fun ⟨b, h⟩ => match b, h with
  | .a0 _ _, h => ⟨_, _, h⟩⟩
abbrev E60 : Ent (V × Store) := ⟨A60, A60.out, A60.ex, A60.ok⟩
inductive A23 where
  | a0 (b3424 : Bool) (k3425 : Nat) (l3426 : List (List V))
@[reducible] def A23.out : A23 → V × Store
  | .a0 b3424 k3425 l3426 => (V.agg [vb b3424, V.hs 0 0 k3425], [Ob.cells true true 2 l3426])
def A23.ex (g : A23 → Prop) : Prop := (∃ (b3424 : Bool) (k3425 : Nat) (l3426 : List (List V)), g (.a0 b3424 k3425 l3426))
theorem A23.ok (g : A23 → Prop) : A23.ex g ↔ ∃ b, g b := ⟨fun h => match h with
  | ⟨_, _, _, h⟩ => ⟨_, h⟩, fun ⟨b, h⟩ => match b, h with
  | .a0 _ _ _, h => ⟨_, _, _, h⟩⟩
abbrev E23 : Ent (V × Store) := ⟨A23, A23.out, A23.ex, A23.ok⟩
inductive A112 where
  | a0 (z3488 : Int) (b3489 : Bool)
@[reducible] def A112.out : A112 → V × Store
  | .a0 z3488 b3489 => (V.tup [V.int IntKind.u64 z3488, vb b3489], [])
def A112.ex (g : A112 → Prop) : Prop := (∃ (z3488 : Int) (b3489 : Bool), g (.a0 z3488 b3489))
theorem A112.ok (g : A112 → Prop) : A112.ex g ↔ ∃ b, g b := ⟨fun h => match h with
  | ⟨_, _, h⟩ => ⟨_, h⟩, fun ⟨b, h⟩ => match b, h with
  | .a0 _ _, h => ⟨_, _, h⟩⟩
abbrev E112 : Ent (V × Store) := ⟨A112, A112.out, A112.ex, A112.ok⟩
inductive A125 where
  | a0 (z3509 : Int)
@[reducible] def A125.out : A125 → V × Store
  | .a0 z3509 => (i64 z3509, [])
def A125.ex (g : A125 → Prop) : Prop := (∃ (z3509 : Int), g (.a0 z3509))
theorem A125.ok (g : A125 → Prop) : A125.ex g ↔ ∃ b, g b := ⟨fun h => match h with
  | ⟨_, h⟩ => ⟨_, h⟩, fun ⟨b, h⟩ => match b, h with
  | .a0 _, h => ⟨_, h⟩⟩
abbrev E125 : Ent (V × Store) := ⟨A125, A125.out, A125.ex, A125.ok⟩
inductive A124 where
  | a0 (z3512 : Int)
@[reducible] def A124.out : A124 → V × Store
  | .a0 z3512 => (i64 z3512, [])
def A124.ex (g : A124 → Prop) : Prop := (∃ (z3512 : Int), g (.a0 z3512))
theorem A124.ok (g : A124 → Prop) : A124.ex g ↔ ∃ b, g b := ⟨fun h => match h with
  | ⟨_, h⟩ => ⟨_, h⟩, fun ⟨b, h⟩ => match b, h with
  | .a0 _, h => ⟨_, h⟩⟩
abbrev E124 : Ent (V × Store) := ⟨A124, A124.out, A124.ex, A124.ok⟩
inductive A123 where
  | a0 (z3505 : Int) (z3506 : Int)
@[reducible] def A123.out : A123 → V × Store
  | .a0 z3505 z3506 => (V.tup [V.int IntKind.u64 z3505, V.int IntKind.u64 z3506], [])
def A123.ex (g : A123 → Prop) : Prop := (∃ (z3505 : Int) (z3506 : Int), g (.a0 z3505 z3506))
theorem A123.ok (g : A123 → Prop) : A123.ex g ↔ ∃ b, g b := ⟨fun h => match h with
  | ⟨_, _, h⟩ => ⟨_, h⟩, fun ⟨b, h⟩ => match b, h with
  | .a0 _ _, h => ⟨_, _, h⟩⟩
abbrev E123 : Ent (V × Store) := ⟨A123, A123.out, A123.ex, A123.ok⟩
inductive A114 where
  | a0 (z3501 : Int)
@[reducible] def A114.out : A114 → V × Store
  | .a0 z3501 => (i64 z3501, [])
def A114.ex (g : A114 → Prop) : Prop := (∃ (z3501 : Int), g (.a0 z3501))
theorem A114.ok (g : A114 → Prop) : A114.ex g ↔ ∃ b, g b := ⟨fun h => match h with
  | ⟨_, h⟩ => ⟨_, h⟩, fun ⟨b, h⟩ => match b, h with
  | .a0 _, h => ⟨_, h⟩⟩
abbrev E114 : Ent (V × Store) := ⟨A114, A114.out, A114.ex, A114.ok⟩
inductive A86 where
  | a0 (z3600 : Int)
@[reducible] def A86.out : A86 → V × Store
  | .a0 z3600 => (i64 z3600, [])
def A86.ex (g : A86 → Prop) : Prop := (∃ (z3600 : Int), g (.a0 z3600))
theorem A86.ok (g : A86 → Prop) : A86.ex g ↔ ∃ b, g b := ⟨fun h => match h with
  | ⟨_, h⟩ => ⟨_, h⟩, fun ⟨b, h⟩ => match b, h with
  | .a0 _, h => ⟨_, h⟩⟩
abbrev E86 : Ent (V × Store) := ⟨A86, A86.out, A86.ex, A86.ok⟩
inductive A67 where
  | a0 (z3603 : Int)
@[reducible] def A67.out : A67 → V × Store
  | .a0 z3603 => (i64 z3603, [])
def A67.ex (g : A67 → Prop) : Prop := (∃ (z3603 : Int), g (.a0 z3603))
theorem A67.ok (g : A67 → Prop) : A67.ex g ↔ ∃ b, g b := ⟨fun h => match h with
  | ⟨_, h⟩ => ⟨_, h⟩, fun ⟨b, h⟩ => match b, h with
  | .a0 _, h => ⟨_, h⟩⟩
abbrev E67 : Ent (V × Store) := ⟨A67, A67.out, A67.ex, A67.ok⟩
inductive A30 where
  | a0 (b3617 : Bool) (k3618 : Nat) (l3619 : List (List V))
@[reducible] def A30.out : A30 → V × Store
  | .a0 b3617 k3618 l3619 => (V.agg [vb b3617, V.hs 0 0 k3618], [Ob.cells true true 2 l3619])
def A30.ex (g : A30 → Prop) : Prop := (∃ (b3617 : Bool) (k3618 : Nat) (l3619 : List (List V)), g (.a0 b3617 k3618 l3619))
theorem A30.ok (g : A30 → Prop) : A30.ex g ↔ ∃ b, g b := ⟨fun h => match h with
  | ⟨_, _, _, h⟩ => ⟨_, h⟩, fun ⟨b, h⟩ => match b, h with
  | .a0 _ _ _, h => ⟨_, _, _, h⟩⟩
abbrev E30 : Ent (V × Store) := ⟨A30, A30.out, A30.ex, A30.ok⟩
inductive A64 where
  | a0 (b3650 : Bool)
@[reducible] def A64.out : A64 → V × Store
  | .a0 b3650 => (vb b3650, [])
def A64.ex (g : A64 → Prop) : Prop := (∃ (b3650 : Bool), g (.a0 b3650))
theorem A64.ok (g : A64 → Prop) : A64.ex g ↔ ∃ b, g b := ⟨fun h => match h with
  | ⟨_, h⟩ => ⟨_, h⟩, fun ⟨b, h⟩ => match b, h with
  | .a0 _, h => ⟨_, h⟩⟩
abbrev E64 : Ent (V × Store) := ⟨A64, A64.out, A64.ex, A64.ok⟩
inductive A28 where
  | a0 (b3663 : Bool)
@[reducible] def A28.out : A28 → V × Store
  | .a0 b3663 => (vb b3663, [])
def A28.ex (g : A28 → Prop) : Prop := (∃ (b3663 : Bool), g (.a0 b3663))
theorem A28.ok (g : A28 → Prop) : A28.ex g ↔ ∃ b, g b := ⟨fun h => match h with
  | ⟨_, h⟩ => ⟨_, h⟩, fun ⟨b, h⟩ => match b, h with
  | .a0 _, h => ⟨_, h⟩⟩
abbrev E28 : Ent (V × Store) := ⟨A28, A28.out, A28.ex, A28.ok⟩
inductive A102 where
  | a0 (z3699 : Int)
@[reducible] def A102.out : A102 → V × Store
  | .a0 z3699 => (i64 z3699, [])
def A102.ex (g : A102 → Prop) : Prop := (∃ (z3699 : Int), g (.a0 z3699))
theorem A102.ok (g : A102 → Prop) : A102.ex g ↔ ∃ b, g b := ⟨fun h => match h with
  | ⟨_, h⟩ => ⟨_, h⟩, fun ⟨b, h⟩ => match b, h with
  | .a0 _, h => ⟨_, h⟩⟩
abbrev E102 : Ent (V × Store) := ⟨A102, A102.out, A102.ex, A102.ok⟩
inductive A68 where
  | a0 (z3707 : Int) (z3708 : Int)
@[reducible] def A68.out : A68 → V × Store
  | .a0 z3707 z3708 => (V.agg [i64 z3707, i64 z3708], [])
def A68.ex (g : A68 → Prop) : Prop := (∃ (z3707 : Int) (z3708 : Int), g (.a0 z3707 z3708))
theorem A68.ok (g : A68 → Prop) : A68.ex g ↔ ∃ b, g b := ⟨fun h => match h with
  | ⟨_, _, h⟩ => ⟨_, h⟩, fun ⟨b, h⟩ => match b, h with
  | .a0 _ _, h => ⟨_, _, h⟩⟩
abbrev E68 : Ent (V × Store) := ⟨A68, A68.out, A68.ex, A68.ok⟩
inductive A32 where
  | a0 (k3721 : Nat) (l3722 : List (List V))
@[reducible] def A32.out : A32 → V × Store
  | .a0 k3721 l3722 => (V.hs 0 0 k3721, [Ob.cells true true 2 l3722])
def A32.ex (g : A32 → Prop) : Prop := (∃ (k3721 : Nat) (l3722 : List (List V)), g (.a0 k3721 l3722))
theorem A32.ok (g : A32 → Prop) : A32.ex g ↔ ∃ b, g b := ⟨fun h => match h with
  | ⟨_, _, h⟩ => ⟨_, h⟩, fun ⟨b, h⟩ => match b, h with
  | .a0 _ _, h => ⟨_, _, h⟩⟩
abbrev E32 : Ent (V × Store) := ⟨A32, A32.out, A32.ex, A32.ok⟩
inductive A8 where
  | a0 (b3738 : Bool)
@[reducible] def A8.out : A8 → V × Store
  | .a0 b3738 => (vb b3738, [])
def A8.ex (g : A8 → Prop) : Prop := (∃ (b3738 : Bool), g (.a0 b3738))
theorem A8.ok (g : A8 → Prop) : A8.ex g ↔ ∃ b, g b := ⟨fun h => match h with
  | ⟨_, h⟩ => ⟨_, h⟩, fun ⟨b, h⟩ => match b, h with
  | .a0 _, h => ⟨_, h⟩⟩
abbrev E8 : Ent (V × Store) := ⟨A8, A8.out, A8.ex, A8.ok⟩
inductive A9 where
  | a0 (z3740 : Int) (z3741 : Int) (z3742 : Int) (z3743 : Int) (z3744 : Int) (z3745 : Int)
@[reducible] def A9.out : A9 → V × Store
  | .a0 z3740 z3741 z3742 z3743 z3744 z3745 => (V.agg [i64 z3740, i64 z3741, i64 z3742, i64 z3743, i64 z3744, i64 z3745], [])
def A9.ex (g : A9 → Prop) : Prop := (∃ (z3740 : Int) (z3741 : Int) (z3742 : Int) (z3743 : Int) (z3744 : Int) (z3745 : Int), g (.a0 z3740 z3741 z3742 z3743 z3744 z3745))
theorem A9.ok (g : A9 → Prop) : A9.ex g ↔ ∃ b, g b := ⟨fun h => match h with
  | ⟨_, _, _, _, _, _, h⟩ => ⟨_, h⟩, fun ⟨b, h⟩ => match b, h with
  | .a0 _ _ _ _ _ _, h => ⟨_, _, _, _, _, _, h⟩⟩
abbrev E9 : Ent (V × Store) := ⟨A9, A9.out, A9.ex, A9.ok⟩
inductive A11 where
  | a0 (k3804 : Nat) (l3805 : List (List V))
@[reducible] def A11.out : A11 → V × Store
  | .a0 k3804 l3805 => (V.hs 0 0 k3804, [Ob.cells true true 8 l3805])
def A11.ex (g : A11 → Prop) : Prop := (∃ (k3804 : Nat) (l3805 : List (List V)), g (.a0 k3804 l3805))
theorem A11.ok (g : A11 → Prop) : A11.ex g ↔ ∃ b, g b := ⟨fun h => match h with
  | ⟨_, _, h⟩ => ⟨_, h⟩, fun ⟨b, h⟩ => match b, h with
  | .a0 _ _, h => ⟨_, _, h⟩⟩
abbrev E11 : Ent (V × Store) := ⟨A11, A11.out, A11.ex, A11.ok⟩
inductive A34 where
  | a0 (b3916 : Bool)
@[reducible] def A34.out : A34 → V × Store
  | .a0 b3916 => (vb b3916, [])
def A34.ex (g : A34 → Prop) : Prop := (∃ (b3916 : Bool), g (.a0 b3916))
theorem A34.ok (g : A34 → Prop) : A34.ex g ↔ ∃ b, g b := ⟨fun h => match h with
  | ⟨_, h⟩ => ⟨_, h⟩, fun ⟨b, h⟩ => match b, h with
  | .a0 _, h => ⟨_, h⟩⟩
abbrev E34 : Ent (V × Store) := ⟨A34, A34.out, A34.ex, A34.ok⟩
inductive A74 where
  | a0 (z3991 : Int)
@[reducible] def A74.out : A74 → V × Store
  | .a0 z3991 => (i64 z3991, [])
def A74.ex (g : A74 → Prop) : Prop := (∃ (z3991 : Int), g (.a0 z3991))
theorem A74.ok (g : A74 → Prop) : A74.ex g ↔ ∃ b, g b := ⟨fun h => match h with
  | ⟨_, h⟩ => ⟨_, h⟩, fun ⟨b, h⟩ => match b, h with
  | .a0 _, h => ⟨_, h⟩⟩
abbrev E74 : Ent (V × Store) := ⟨A74, A74.out, A74.ex, A74.ok⟩
inductive A122 where
  | a0 (z4025 : Int)
@[reducible] def A122.out : A122 → V × Store
  | .a0 z4025 => (i64 z4025, [])
def A122.ex (g : A122 → Prop) : Prop := (∃ (z4025 : Int), g (.a0 z4025))
theorem A122.ok (g : A122 → Prop) : A122.ex g ↔ ∃ b, g b := ⟨fun h => match h with
  | ⟨_, h⟩ => ⟨_, h⟩, fun ⟨b, h⟩ => match b, h with
  | .a0 _, h => ⟨_, h⟩⟩
abbrev E122 : Ent (V × Store) := ⟨A122, A122.out, A122.ex, A122.ok⟩
inductive A107 where
  | a0 (z4005 : Int)
@[reducible] def A107.out : A107 → V × Store
  | .a0 z4005 => (i64 z4005, [])
def A107.ex (g : A107 → Prop) : Prop := (∃ (z4005 : Int), g (.a0 z4005))
theorem A107.ok (g : A107 → Prop) : A107.ex g ↔ ∃ b, g b := ⟨fun h => match h with
  | ⟨_, h⟩ => ⟨_, h⟩, fun ⟨b, h⟩ => match b, h with
  | .a0 _, h => ⟨_, h⟩⟩
abbrev E107 : Ent (V × Store) := ⟨A107, A107.out, A107.ex, A107.ok⟩
inductive A73 where
  | a0 (z3999 : Int)
@[reducible] def A73.out : A73 → V × Store
  | .a0 z3999 => (i64 z3999, [])
def A73.ex (g : A73 → Prop) : Prop := (∃ (z3999 : Int), g (.a0 z3999))
theorem A73.ok (g : A73 → Prop) : A73.ex g ↔ ∃ b, g b := ⟨fun h => match h with
  | ⟨_, h⟩ => ⟨_, h⟩, fun ⟨b, h⟩ => match b, h with
  | .a0 _, h => ⟨_, h⟩⟩
abbrev E73 : Ent (V × Store) := ⟨A73, A73.out, A73.ex, A73.ok⟩
inductive A36 where
  | a0 (b3943 : Bool) (k3944 : Nat) (l3945 : List (List V))
@[reducible] def A36.out : A36 → V × Store
  | .a0 b3943 k3944 l3945 => (V.agg [vb b3943, V.hs 0 0 k3944], [Ob.cells true true 2 l3945])
def A36.ex (g : A36 → Prop) : Prop := (∃ (b3943 : Bool) (k3944 : Nat) (l3945 : List (List V)), g (.a0 b3943 k3944 l3945))
theorem A36.ok (g : A36 → Prop) : A36.ex g ↔ ∃ b, g b := ⟨fun h => match h with
  | ⟨_, _, _, h⟩ => ⟨_, h⟩, fun ⟨b, h⟩ => match b, h with
  | .a0 _ _ _, h => ⟨_, _, _, h⟩⟩
abbrev E36 : Ent (V × Store) := ⟨A36, A36.out, A36.ex, A36.ok⟩
inductive A10 where
  | a0 (b4095 : Bool)
@[reducible] def A10.out : A10 → V × Store
  | .a0 b4095 => (vb b4095, [])
def A10.ex (g : A10 → Prop) : Prop := (∃ (b4095 : Bool), g (.a0 b4095))
theorem A10.ok (g : A10 → Prop) : A10.ex g ↔ ∃ b, g b := ⟨fun h => match h with
  | ⟨_, h⟩ => ⟨_, h⟩, fun ⟨b, h⟩ => match b, h with
  | .a0 _, h => ⟨_, h⟩⟩
abbrev E10 : Ent (V × Store) := ⟨A10, A10.out, A10.ex, A10.ok⟩
inductive A12 where
  | a0 (b4112 : Bool)
@[reducible] def A12.out : A12 → V × Store
  | .a0 b4112 => (vb b4112, [])
def A12.ex (g : A12 → Prop) : Prop := (∃ (b4112 : Bool), g (.a0 b4112))
theorem A12.ok (g : A12 → Prop) : A12.ex g ↔ ∃ b, g b := ⟨fun h => match h with
  | ⟨_, h⟩ => ⟨_, h⟩, fun ⟨b, h⟩ => match b, h with
  | .a0 _, h => ⟨_, h⟩⟩
abbrev E12 : Ent (V × Store) := ⟨A12, A12.out, A12.ex, A12.ok⟩
inductive A4 where
  | a0 (b4114 : Bool)
@[reducible] def A4.out : A4 → V × Store
  | .a0 b4114 => (vb b4114, [])
def A4.ex (g : A4 → Prop) : Prop := (∃ (b4114 : Bool), g (.a0 b4114))
theorem A4.ok (g : A4 → Prop) : A4.ex g ↔ ∃ b, g b := ⟨fun h => match h with
  | ⟨_, h⟩ => ⟨_, h⟩, fun ⟨b, h⟩ => match b, h with
  | .a0 _, h => ⟨_, h⟩⟩
abbrev E4 : Ent (V × Store) := ⟨A4, A4.out, A4.ex, A4.ok⟩
inductive A3 where
  | a0 (b4375 : Bool)
@[reducible] def A3.out : A3 → V × Store
  | .a0 b4375 => (vb b4375, [])
def A3.ex (g : A3 → Prop) : Prop := (∃ (b4375 : Bool), g (.a0 b4375))
theorem A3.ok (g : A3 → Prop) : A3.ex g ↔ ∃ b, g b := ⟨fun h => match h with
  | ⟨_, h⟩ => ⟨_, h⟩, fun ⟨b, h⟩ => match b, h with
  | .a0 _, h => ⟨_, h⟩⟩
abbrev E3 : Ent (V × Store) := ⟨A3, A3.out, A3.ex, A3.ok⟩
inductive A85 where
  | a0 (b4430 : Bool) (k4431 : Nat) (l4432 : List (List V))
@[reducible] def A85.out : A85 → V × Store
  | .a0 b4430 k4431 l4432 => (V.agg [vb b4430, V.hs 0 0 k4431], [Ob.cells true true 2 l4432])
def A85.ex (g : A85 → Prop) : Prop := (∃ (b4430 : Bool) (k4431 : Nat) (l4432 : List (List V)), g (.a0 b4430 k4431 l4432))
theorem A85.ok (g : A85 → Prop) : A85.ex g ↔ ∃ b, g b := ⟨fun h => match h with
  | ⟨_, _, _, h⟩ => ⟨_, h⟩, fun ⟨b, h⟩ => match b, h with
  | .a0 _ _ _, h => ⟨_, _, _, h⟩⟩
abbrev E85 : Ent (V × Store) := ⟨A85, A85.out, A85.ex, A85.ok⟩
inductive A54 where
  | a0 (b4448 : Bool) (k4449 : Nat) (l4450 : List (List V))
@[reducible] def A54.out : A54 → V × Store
  | .a0 b4448 k4449 l4450 => (V.agg [vb b4448, V.hs 0 0 k4449], [Ob.cells true true 2 l4450])
def A54.ex (g : A54 → Prop) : Prop := (∃ (b4448 : Bool) (k4449 : Nat) (l4450 : List (List V)), g (.a0 b4448 k4449 l4450))
theorem A54.ok (g : A54 → Prop) : A54.ex g ↔ ∃ b, g b := ⟨fun h => match h with
  | ⟨_, _, _, h⟩ => ⟨_, h⟩, fun ⟨b, h⟩ => match b, h with
  | .a0 _ _ _, h => ⟨_, _, _, h⟩⟩
abbrev E54 : Ent (V × Store) := ⟨A54, A54.out, A54.ex, A54.ok⟩
inductive A55 where
  | a0 (b4462 : Bool) (k4463 : Nat) (l4464 : List (List V))
@[reducible] def A55.out : A55 → V × Store
  | .a0 b4462 k4463 l4464 => (V.agg [vb b4462, V.hs 0 0 k4463], [Ob.cells true true 2 l4464])
def A55.ex (g : A55 → Prop) : Prop := (∃ (b4462 : Bool) (k4463 : Nat) (l4464 : List (List V)), g (.a0 b4462 k4463 l4464))
theorem A55.ok (g : A55 → Prop) : A55.ex g ↔ ∃ b, g b := ⟨fun h => match h with
  | ⟨_, _, _, h⟩ => ⟨_, h⟩, fun ⟨b, h⟩ => match b, h with
  | .a0 _ _ _, h => ⟨_, _, _, h⟩⟩
abbrev E55 : Ent (V × Store) := ⟨A55, A55.out, A55.ex, A55.ok⟩
inductive A88 where
  | a0 (z4496 : Int)
@[reducible] def A88.out : A88 → V × Store
  | .a0 z4496 => (i64 z4496, [])
def A88.ex (g : A88 → Prop) : Prop := (∃ (z4496 : Int), g (.a0 z4496))
theorem A88.ok (g : A88 → Prop) : A88.ex g ↔ ∃ b, g b := ⟨fun h => match h with
  | ⟨_, h⟩ => ⟨_, h⟩, fun ⟨b, h⟩ => match b, h with
  | .a0 _, h => ⟨_, h⟩⟩
abbrev E88 : Ent (V × Store) := ⟨A88, A88.out, A88.ex, A88.ok⟩
inductive A87 where
  | a0 (z4498 : Int)
@[reducible] def A87.out : A87 → V × Store
  | .a0 z4498 => (i64 z4498, [])
def A87.ex (g : A87 → Prop) : Prop := (∃ (z4498 : Int), g (.a0 z4498))
theorem A87.ok (g : A87 → Prop) : A87.ex g ↔ ∃ b, g b := ⟨fun h => match h with
  | ⟨_, h⟩ => ⟨_, h⟩, fun ⟨b, h⟩ => match b, h with
  | .a0 _, h => ⟨_, h⟩⟩
abbrev E87 : Ent (V × Store) := ⟨A87, A87.out, A87.ex, A87.ok⟩
inductive A56 where
  | a0 (b4512 : Bool) (k4513 : Nat) (l4514 : List (List V))
@[reducible] def A56.out : A56 → V × Store
  | .a0 b4512 k4513 l4514 => (V.agg [vb b4512, V.hs 0 0 k4513], [Ob.cells true true 2 l4514])
def A56.ex (g : A56 → Prop) : Prop := (∃ (b4512 : Bool) (k4513 : Nat) (l4514 : List (List V)), g (.a0 b4512 k4513 l4514))
theorem A56.ok (g : A56 → Prop) : A56.ex g ↔ ∃ b, g b := ⟨fun h => match h with
  | ⟨_, _, _, h⟩ => ⟨_, h⟩, fun ⟨b, h⟩ => match b, h with
  | .a0 _ _ _, h => ⟨_, _, _, h⟩⟩
abbrev E56 : Ent (V × Store) := ⟨A56, A56.out, A56.ex, A56.ok⟩
inductive A21 where
  | a0 (b4571 : Bool)
@[reducible] def A21.out : A21 → V × Store
  | .a0 b4571 => (vb b4571, [])
def A21.ex (g : A21 → Prop) : Prop := (∃ (b4571 : Bool), g (.a0 b4571))
theorem A21.ok (g : A21 → Prop) : A21.ex g ↔ ∃ b, g b := ⟨fun h => match h with
  | ⟨_, h⟩ => ⟨_, h⟩, fun ⟨b, h⟩ => match b, h with
  | .a0 _, h => ⟨_, h⟩⟩
abbrev E21 : Ent (V × Store) := ⟨A21, A21.out, A21.ex, A21.ok⟩
inductive A89 where
  | a0 (b4823 : Bool)
@[reducible] def A89.out : A89 → V × Store
  | .a0 b4823 => (vb b4823, [])
def A89.ex (g : A89 → Prop) : Prop := (∃ (b4823 : Bool), g (.a0 b4823))
theorem A89.ok (g : A89 → Prop) : A89.ex g ↔ ∃ b, g b := ⟨fun h => match h with
  | ⟨_, h⟩ => ⟨_, h⟩, fun ⟨b, h⟩ => match b, h with
  | .a0 _, h => ⟨_, h⟩⟩
abbrev E89 : Ent (V × Store) := ⟨A89, A89.out, A89.ex, A89.ok⟩
inductive A91 where
  | a0 (b4967 : Bool)
@[reducible] def A91.out : A91 → V × Store
  | .a0 b4967 => (vb b4967, [])
def A91.ex (g : A91 → Prop) : Prop := (∃ (b4967 : Bool), g (.a0 b4967))
theorem A91.ok (g : A91 → Prop) : A91.ex g ↔ ∃ b, g b := ⟨fun h => match h with
  | ⟨_, h⟩ => ⟨_, h⟩, fun ⟨b, h⟩ => match b, h with
  | .a0 _, h => ⟨_, h⟩⟩
abbrev E91 : Ent (V × Store) := ⟨A91, A91.out, A91.ex, A91.ok⟩
inductive A92 where
  | a0 (b4987 : Bool)
@[reducible] def A92.out : A92 → V × Store
  | .a0 b4987 => (vb b4987, [])
def A92.ex (g : A92 → Prop) : Prop := (∃ (b4987 : Bool), g (.a0 b4987))
theorem A92.ok (g : A92 → Prop) : A92.ex g ↔ ∃ b, g b := ⟨fun h => match h with
  | ⟨_, h⟩ => ⟨_, h⟩, fun ⟨b, h⟩ => match b, h with
  | .a0 _, h => ⟨_, h⟩⟩
abbrev E92 : Ent (V × Store) := ⟨A92, A92.out, A92.ex, A92.ok⟩
inductive A57 where
  | a0 (b4779 : Bool)
@[reducible] def A57.out : A57 → V × Store
  | .a0 b4779 => (vb b4779, [])
def A57.ex (g : A57 → Prop) : Prop := (∃ (b4779 : Bool), g (.a0 b4779))
theorem A57.ok (g : A57 → Prop) : A57.ex g ↔ ∃ b, g b := ⟨fun h => match h with
  | ⟨_, h⟩ => ⟨_, h⟩, fun ⟨b, h⟩ => match b, h with
  | .a0 _, h => ⟨_, h⟩⟩
abbrev E57 : Ent (V × Store) := ⟨A57, A57.out, A57.ex, A57.ok⟩
inductive A117 where
  | a0 (z5134 : Int)
@[reducible] def A117.out : A117 → V × Store
  | .a0 z5134 => (i64 z5134, [])
def A117.ex (g : A117 → Prop) : Prop := (∃ (z5134 : Int), g (.a0 z5134))
theorem A117.ok (g : A117 → Prop) : A117.ex g ↔ ∃ b, g b := ⟨fun h => match h with
  | ⟨_, h⟩ => ⟨_, h⟩, fun ⟨b, h⟩ => match b, h with
  | .a0 _, h => ⟨_, h⟩⟩
abbrev E117 : Ent (V × Store) := ⟨A117, A117.out, A117.ex, A117.ok⟩
inductive A93 where
  | a0 (z5124 : Int)
@[reducible] def A93.out : A93 → V × Store
  | .a0 z5124 => (i64 z5124, [])
def A93.ex (g : A93 → Prop) : Prop := (∃ (z5124 : Int), g (.a0 z5124))
theorem A93.ok (g : A93 → Prop) : A93.ex g ↔ ∃ b, g b := ⟨fun h => match h with
  | ⟨_, h⟩ => ⟨_, h⟩, fun ⟨b, h⟩ => match b, h with
  | .a0 _, h => ⟨_, h⟩⟩
abbrev E93 : Ent (V × Store) := ⟨A93, A93.out, A93.ex, A93.ok⟩
inductive A58 where
  | a0 (b5157 : Bool) (k5158 : Nat) (l5159 : List (List V))
@[reducible] def A58.out : A58 → V × Store
  | .a0 b5157 k5158 l5159 => (V.agg [vb b5157, V.hs 0 0 k5158], [Ob.cells true true 2 l5159])
def A58.ex (g : A58 → Prop) : Prop := (∃ (b5157 : Bool) (k5158 : Nat) (l5159 : List (List V)), g (.a0 b5157 k5158 l5159))
theorem A58.ok (g : A58 → Prop) : A58.ex g ↔ ∃ b, g b := ⟨fun h => match h with
  | ⟨_, _, _, h⟩ => ⟨_, h⟩, fun ⟨b, h⟩ => match b, h with
  | .a0 _ _ _, h => ⟨_, _, _, h⟩⟩
abbrev E58 : Ent (V × Store) := ⟨A58, A58.out, A58.ex, A58.ok⟩
inductive A22 where
  | a0 (b5173 : Bool)
@[reducible] def A22.out : A22 → V × Store
  | .a0 b5173 => (vb b5173, [])
def A22.ex (g : A22 → Prop) : Prop := (∃ (b5173 : Bool), g (.a0 b5173))
theorem A22.ok (g : A22 → Prop) : A22.ex g ↔ ∃ b, g b := ⟨fun h => match h with
  | ⟨_, h⟩ => ⟨_, h⟩, fun ⟨b, h⟩ => match b, h with
  | .a0 _, h => ⟨_, h⟩⟩
abbrev E22 : Ent (V × Store) := ⟨A22, A22.out, A22.ex, A22.ok⟩
inductive A7 where
  | a0 (b5487 : Bool)
@[reducible] def A7.out : A7 → V × Store
  | .a0 b5487 => (vb b5487, [])
def A7.ex (g : A7 → Prop) : Prop := (∃ (b5487 : Bool), g (.a0 b5487))
theorem A7.ok (g : A7 → Prop) : A7.ex g ↔ ∃ b, g b := ⟨fun h => match h with
  | ⟨_, h⟩ => ⟨_, h⟩, fun ⟨b, h⟩ => match b, h with
  | .a0 _, h => ⟨_, h⟩⟩
abbrev E7 : Ent (V × Store) := ⟨A7, A7.out, A7.ex, A7.ok⟩
/-! ## F38 -/
noncomputable def D38 (z11 : Int) (z12 : Int) (z13 : Int) : PT A38 :=
  .test (z11 ≥ z12)
   (fun h0 =>
   .auto 3 <|
   .test (z11 ≤ z13)
    (fun h1 =>
    .ret (A38.a0 (z11))
    )
    (fun h1 =>
    .test (w64 (w64 (z13 - z12) + 1) = 0)
     (fun _ => .fail) -- none
     (fun h2 =>
     .test (Int.tmod z11 (w64 (w64 (z13 - z12) + 1)) < 0)
      (fun h3 =>
      .ret (A38.a0 (w64 (z12 + w64 (w64 (w64 (Int.tmod z11 (w64 (w64 (z13 - z12) + 1)) + z13) - z12) + 1))))
      )
      (fun h3 =>
      .ret (A38.a0 (w64 (z12 + Int.tmod z11 (w64 (w64 (z13 - z12) + 1)))))
      )
     )
    )
   )
   (fun h0 =>
   .auto 4 <|
   .test (w64 (w64 (z13 - z12) + 1) = 0)
    (fun _ => .fail) -- none
    (fun h1 =>
    .test (Int.tmod z11 (w64 (w64 (z13 - z12) + 1)) < 0)
     (fun h2 =>
     .ret (A38.a0 (w64 (z12 + w64 (w64 (w64 (Int.tmod z11 (w64 (w64 (z13 - z12) + 1)) + z13) - z12) + 1))))
     )
     (fun h2 =>
     .ret (A38.a0 (w64 (z12 + Int.tmod z11 (w64 (w64 (z13 - z12) + 1)))))
     )
    )
   )
noncomputable def F38 (z11 : Int) (z12 : Int) (z13 : Int) : Option A38 := (D38 z11 z12 z13).ev some
theorem F38_ok (z11 : Int) (z12 : Int) (z13 : Int) : ∀ b, F38 z11 z12 z13 = some b → UU 38 ([i64 z11, i64 z12, i64 z13]) ([]) = some (A38.out b) :=
  fn_ok (E := E38) (L := notIn []) rfl rfl (fun x => by kernel_rfl)
/-! ## F14 -/
noncomputable def D14 (z4 : Int) (l5 : List (List V)) (z6 : Int) : PT A14 :=
  .auto 2 <|
  .test (z6 ≥ (↑(List.length l5) : Int))
   (fun h0 =>
   .ret (A14.a0 (0) (l5) (z6))
   )
   (fun h0 =>
   .auto 4 <|
   .test (0 ≤ w64 (w64 (z6 + 1) - 1))
    (fun h1 =>
    .look RW3 (l5[Int.toNat (w64 (w64 (z6 + (1 : Int)) - (1 : Int)))]?) fun e10 =>
    .ask E38 (F38_ok (e10.c0) (0) (1073741824)) fun (r : A38) => match r with
    | .a0 z15 =>
     .test (z4 = 0)
      (fun _ => .fail) -- none
      (fun h2 =>
      .ret (A14.a0 (Int.tmod z15 z4) (l5) (w64 (z6 + 1)))
      )
    )
    (fun _ => .fail) -- none
   )
noncomputable def F14 (z4 : Int) (l5 : List (List V)) (z6 : Int) : Option A14 := (D14 z4 l5 z6).ev some
theorem F14_ok (z4 : Int) (l5 : List (List V)) (z6 : Int) : ∀ b, F14 z4 l5 z6 = some b → UU 14 ([V.ptr 0 0 0, i64 z4]) ([Ob.cells true false 2 [[V.list 1 l5, i64 z6]]]) = some (A14.out b) :=
  fn_ok (E := E14) (L := notIn []) rfl rfl (fun x => by kernel_rfl)
/-! ## F41 -/
noncomputable def D41 (z67 : Int) (z68 : Int) (l69 : List (List V)) (z70 : Int) : PT A41 :=
  .ask E14 (F14_ok (w64 (w64 (z68 - z67) + 1)) (l69) (z70)) fun (r : A14) => match r with
  | .a0 z71 l72 z73 =>
   .ask E14 (F14_ok (4) (l72) (z73)) fun (r : A14) => match r with
   | .a0 z74 l75 z76 =>
    .testB (z74 == 0)
     (fun h0 =>
     .ret (A41.a0 (w64 (w64 (w64 (z67 + z71) * 65536) + 32768)) (l75) (z76))
     )
     (fun h0 =>
     .testB (z74 == 1)
      (fun h1 =>
      .ask E14 (F14_ok (65536) (l75) (z76)) fun (r : A14) => match r with
      | .a0 z80 l81 z82 =>
       .ret (A41.a0 (w64 (w64 (w64 (z67 + z71) * 65536) + z80)) (l81) (z82))
      )
      (fun h1 =>
      .ret (A41.a0 (w64 (w64 (z67 + z71) * 65536)) (l75) (z76))
      )
     )
noncomputable def F41 (z67 : Int) (z68 : Int) (l69 : List (List V)) (z70 : Int) : Option A41 := (D41 z67 z68 l69 z70).ev some
theorem F41_ok (z67 : Int) (z68 : Int) (l69 : List (List V)) (z70 : Int) : ∀ b, F41 z67 z68 l69 z70 = some b → UU 41 ([V.ptr 0 0 0, i64 z67, i64 z68]) ([Ob.cells true false 2 [[V.list 1 l69, i64 z70]]]) = some (A41.out b) :=
  fn_ok (E := E41) (L := notIn []) rfl rfl (fun x => by kernel_rfl)
/-! ## F37 -/
noncomputable def D37 (z63 : Int) (z64 : Int) (l65 : List (List V)) (z66 : Int) : PT A37 :=
  .ask E41 (F41_ok (z63) (z64) (l65) (z66)) fun (r : A41) => match r with
  | .a0 z83 l84 z85 =>
   .ask E41 (F41_ok (z63) (z64) (l84) (z85)) fun (r : A41) => match r with
   | .a0 z86 l87 z88 =>
    .auto 1 <|
    .ret (A37.a0 (z83) (z86) (l87) (z88))
noncomputable def F37 (z63 : Int) (z64 : Int) (l65 : List (List V)) (z66 : Int) : Option A37 := (D37 z63 z64 l65 z66).ev some
theorem F37_ok (z63 : Int) (z64 : Int) (l65 : List (List V)) (z66 : Int) : ∀ b, F37 z63 z64 l65 z66 = some b → UU 37 ([V.ptr 0 0 0, i64 z63, i64 z64]) ([Ob.cells true false 2 [[V.list 1 l65, i64 z66]]]) = some (A37.out b) :=
  fn_ok (E := E37) (L := notIn []) rfl rfl (fun x => by kernel_rfl)
/-! ## F13 -/
noncomputable abbrev B13 : Code := (Try.f13.body).getD .skip
inductive N13_0 where
  | s0 (z110 : Int) (z111 : Int) (l112 : List (List V)) (z113 : Int) (b114 : Bool) (k115 : Nat) (l116 : List (List V))
  | e0 (l158 : List (List V)) (z159 : Int) (b160 : Bool) (k161 : Nat) (l162 : List (List V))
@[reducible] def N13_0.out : N13_0 → VX × S
  | .s0 z110 z111 l112 z113 b114 k115 l116 => (VX.normal, { T := V.ptr 0 0 0 :: i64 z110 :: un 4 (V.ptr 1 0 0 :: V.ptr 2 0 0 :: i64 z111 :: un 44 []), σ := [Ob.cells true false 2 [[V.list 1 l112, i64 z113]], Ob.cells true false 2 [[vb false, V.hs 3 0 0]], Ob.cells true false 2 [[vb b114, V.hs 4 0 k115]], Ob.cells true true 2 [], Ob.cells true true 2 l116] })
  | .e0 l158 z159 b160 k161 l162 => (VX.exit 0, { T := un 6 (V.ptr 1 0 0 :: V.ptr 2 0 0 :: un 45 []), σ := [Ob.cells true false 2 [[V.list 1 l158, i64 z159]], Ob.cells true false 2 [[vb false, V.hs 3 0 0]], Ob.cells true false 2 [[vb b160, V.hs 4 0 k161]], Ob.cells true true 2 [], Ob.cells true true 2 l162] })
def N13_0.ex (g : N13_0 → Prop) : Prop := (∃ (z110 : Int) (z111 : Int) (l112 : List (List V)) (z113 : Int) (b114 : Bool) (k115 : Nat) (l116 : List (List V)), g (.s0 z110 z111 l112 z113 b114 k115 l116)) ∨ (∃ (l158 : List (List V)) (z159 : Int) (b160 : Bool) (k161 : Nat) (l162 : List (List V)), g (.e0 l158 z159 b160 k161 l162))
theorem N13_0.ok (g : N13_0 → Prop) : N13_0.ex g ↔ ∃ b, g b := ⟨fun h => match h with
  | .inl ⟨_, _, _, _, _, _, _, h⟩ => ⟨_, h⟩
  | .inr (⟨_, _, _, _, _, h⟩) => ⟨_, h⟩, fun ⟨b, h⟩ => match b, h with
  | .s0 _ _ _ _ _ _ _, h => .inl ⟨_, _, _, _, _, _, _, h⟩
  | .e0 _ _ _ _ _, h => .inr (⟨_, _, _, _, _, h⟩)⟩
abbrev E13_0 : Ent (VX × S) := ⟨N13_0, N13_0.out, N13_0.ex, N13_0.ok⟩
noncomputable def D13_0 (z110 : Int) (z111 : Int) (l112 : List (List V)) (z113 : Int) (b114 : Bool) (k115 : Nat) (l116 : List (List V)) : PT N13_0 :=
  .test (z111 < z110)
   (fun h0 =>
   .auto 2 <|
   .test (0 ≤ w64 ((↑k115 : Int) - 1) ∧ w64 ((↑k115 : Int) - 1) < (↑k115 : Int))
    (fun h1 =>
    .look RW26 (l116[(0 : Nat) + Int.toNat (w64 ((↑k115 : Int) - (1 : Int)))]?) fun e172 =>
    .ask E37 (F37_ok (-2) (14) (l112) (z113)) fun (r : A37) => match r with
    | .a0 z173 z174 l175 z176 =>
     .auto 2 <|
     .ask E14 (F14_ok (2) (l175) (z176)) fun (r : A14) => match r with
     | .a0 z177 l178 z179 =>
      .testB (z177 == 0)
       (fun h2 =>
       .auto 5 <|
       .test (0 + k115 ≤ List.length l116 ∧ (k115 + 3) * 16 ≤ 140737488355328 ∧ k115 + 3 ≤ 140737488355328)
        (fun h3 =>
        .auto 1 <|
        .ret (N13_0.s0 (z110) (w64 (z111 + 1)) (l178) (z179) (b114) (k115 + 3) (List.take k115 l116 ++ [[i64 e172.c0, i64 e172.c1], [i64 z173, i64 z174], [i64 z173, i64 z174]]))
        )
        (fun _ => .fail) -- none
       )
       (fun h2 =>
       .auto 1 <|
       .ask E37 (F37_ok (-2) (14) (l178) (z179)) fun (r : A37) => match r with
       | .a0 z180 z181 l182 z183 =>
        .ask E37 (F37_ok (-2) (14) (l182) (z183)) fun (r : A37) => match r with
        | .a0 z184 z185 l186 z187 =>
         .auto 2 <|
         .test (0 + k115 ≤ List.length l116 ∧ (k115 + 3) * 16 ≤ 140737488355328 ∧ k115 + 3 ≤ 140737488355328)
          (fun h3 =>
          .auto 1 <|
          .ret (N13_0.s0 (z110) (w64 (z111 + 1)) (l186) (z187) (b114) (k115 + 3) (List.take k115 l116 ++ [[i64 z180, i64 z181], [i64 z184, i64 z185], [i64 z173, i64 z174]]))
          )
          (fun _ => .fail) -- none
       )
    )
    (fun _ => .fail) -- none
   )
   (fun h0 =>
   .ret (N13_0.e0 (l112) (z113) (b114) (k115) (l116))
   )
noncomputable def S13_0 : N13_0 → PT N13_0
  | .s0 z110 z111 l112 z113 b114 k115 l116 => D13_0 z110 z111 l112 z113 b114 k115 l116
  | _ => .fail
def N13_0.off : N13_0 → Bool
  | .s0 _ _ _ _ _ _ _ => false
  | _ => true
noncomputable def L13_0 (n : Nat) (b : N13_0) : Option N13_0 := PT.loop (S13_0) N13_0.off n b
theorem L13_0_ok : ∀ (n : Nat) (b : N13_0), N13_0.off b = false → ∀ c, L13_0 n b = some c → loopP Try.prog X CC 13 (1) 18446744073709551616 B13 0 n (E13_0.out b).2 = some (E13_0.out c) :=
  loop_ok (E := E13_0) (step := S13_0) (L := notIn []) (fun b hb => by cases b <;> first | (cases hb; done) | (intro x; kernel_rfl)) (fun b => by cases b <;> rfl)
noncomputable def N13_0.nx (n : Nat) (c : N13_0) : Option N13_0 := match N13_0.off c with
  | true => some c
  | false => L13_0 n c
theorem L13_0_s0 (n : Nat) (z110 : Int) (z111 : Int) (l112 : List (List V)) (z113 : Int) (b114 : Bool) (k115 : Nat) (l116 : List (List V)) : L13_0 (n + 1) (.s0 z110 z111 l112 z113 b114 k115 l116) = (D13_0 z110 z111 l112 z113 b114 k115 l116).ev (N13_0.nx n) := rfl
theorem N13_0.nx_s0 (n : Nat) (z110 : Int) (z111 : Int) (l112 : List (List V)) (z113 : Int) (b114 : Bool) (k115 : Nat) (l116 : List (List V)) : N13_0.nx n (.s0 z110 z111 l112 z113 b114 k115 l116) = L13_0 n (.s0 z110 z111 l112 z113 b114 k115 l116) := rfl
theorem N13_0.nx_e0 (n : Nat) (l158 : List (List V)) (z159 : Int) (b160 : Bool) (k161 : Nat) (l162 : List (List V)) : N13_0.nx n (.e0 l158 z159 b160 k161 l162) = some (.e0 l158 z159 b160 k161 l162) := rfl
noncomputable def D13 (z59 : Int) (b60 : Bool) (l61 : List (List V)) (z62 : Int) : PT A13 :=
  .ask E37 (F37_ok (-2) (14) (l61) (z62)) fun (r : A37) => match r with
  | .a0 z168 z169 l170 z171 =>
   .auto 1 <|
   .cut E13_0 (L13_0_ok 18446744073709551616 (.s0 (z59) (0) (l170) (z171) (b60) (1) ([[i64 z168, i64 z169]])) rfl) fun (r : N13_0) => match r with
   | .e0 l188 z189 b190 k191 l192 =>
    .auto 2 <|
    .ret (A13.a0 (b190) (k191) (l188) (z189) (l192))
   | _ => .fail
noncomputable def F13 (z59 : Int) (b60 : Bool) (l61 : List (List V)) (z62 : Int) : Option A13 := (D13 z59 b60 l61 z62).ev some
theorem F13_ok (z59 : Int) (b60 : Bool) (l61 : List (List V)) (z62 : Int) : ∀ b, F13 z59 b60 l61 z62 = some b → UU 13 ([V.ptr 0 0 0, i64 z59, vb b60]) ([Ob.cells true false 2 [[V.list 1 l61, i64 z62]]]) = some (A13.out b) :=
  fn_ok (E := E13) (L := notIn []) rfl rfl (fun x => by kernel_rfl)
/-! ## F75 -/
noncomputable def D75 (l210 : List (List V)) (z211 : Int) : PT A75 :=
  .ask E14 (F14_ok (65537) (l210) (z211)) fun (r : A14) => match r with
  | .a0 z212 l213 z214 =>
   .ask E41 (F41_ok (-1) (1) (l213) (z214)) fun (r : A41) => match r with
   | .a0 z215 l216 z217 =>
    .ask E14 (F14_ok (65537) (l216) (z217)) fun (r : A14) => match r with
    | .a0 z218 l219 z220 =>
     .ask E41 (F41_ok (0) (2) (l219) (z220)) fun (r : A41) => match r with
     | .a0 z221 l222 z223 =>
      .auto 1 <|
      .ret (A75.a0 (z212) (z215) (z218) (z221) (l222) (z223))
noncomputable def F75 (l210 : List (List V)) (z211 : Int) : Option A75 := (D75 l210 z211).ev some
theorem F75_ok (l210 : List (List V)) (z211 : Int) : ∀ b, F75 l210 z211 = some b → UU 75 ([V.ptr 0 0 0]) ([Ob.cells true false 2 [[V.list 1 l210, i64 z211]]]) = some (A75.out b) :=
  fn_ok (E := E75) (L := notIn []) rfl rfl (fun x => by kernel_rfl)
/-! ## F39 -/
noncomputable def D39 (l198 : List (List V)) (z199 : Int) : PT A39 :=
  .ask E14 (F14_ok (4) (l198) (z199)) fun (r : A14) => match r with
  | .a0 z200 l201 z202 =>
   .testB (z200 == 0)
    (fun h0 =>
    .auto 1 <|
    .ret (A39.a0 (0) (0) (0) (0) (0) (l201) (z202))
    )
    (fun h0 =>
    .testB (z200 == 1)
     (fun h1 =>
     .ask E75 (F75_ok (l201) (z202)) fun (r : A75) => match r with
     | .a0 z230 z231 z232 z233 l234 z235 =>
      .auto 1 <|
      .ret (A39.a0 (2) (z230) (z231) (z232) (z233) (l234) (z235))
     )
     (fun h1 =>
     .auto 1 <|
     .ret (A39.a0 (1) (0) (0) (0) (0) (l201) (z202))
     )
    )
noncomputable def F39 (l198 : List (List V)) (z199 : Int) : Option A39 := (D39 l198 z199).ev some
theorem F39_ok (l198 : List (List V)) (z199 : Int) : ∀ b, F39 l198 z199 = some b → UU 39 ([V.ptr 0 0 0]) ([Ob.cells true false 2 [[V.list 1 l198, i64 z199]]]) = some (A39.out b) :=
  fn_ok (E := E39) (L := notIn []) rfl rfl (fun x => by kernel_rfl)
/-! ## F40 -/
noncomputable abbrev B40 : Code := (Try.f40.body).getD .skip
inductive N40_0 where
  | s0 (z297 : Int) (z298 : Int) (k299 : Nat) (z300 : Int) (z301 : Int) (l302 : List (List V)) (z303 : Int) (l304 : List (List V))
  | e0 (k332 : Nat) (l333 : List (List V)) (z334 : Int) (l335 : List (List V))
@[reducible] def N40_0.out : N40_0 → VX × S
  | .s0 z297 z298 k299 z300 z301 l302 z303 l304 => (VX.normal, { T := V.ptr 0 0 0 :: i64 z297 :: i64 z298 :: un 4 (V.hs 1 0 k299 :: i64 z300 :: i64 z301 :: un 32 []), σ := [Ob.cells true false 2 [[V.list 1 l302, i64 z303]], Ob.cells true true 7 l304] })
  | .e0 k332 l333 z334 l335 => (VX.exit 0, { T := un 7 (V.hs 1 0 k332 :: un 34 []), σ := [Ob.cells true false 2 [[V.list 1 l333, i64 z334]], Ob.cells true true 7 l335] })
def N40_0.ex (g : N40_0 → Prop) : Prop := (∃ (z297 : Int) (z298 : Int) (k299 : Nat) (z300 : Int) (z301 : Int) (l302 : List (List V)) (z303 : Int) (l304 : List (List V)), g (.s0 z297 z298 k299 z300 z301 l302 z303 l304)) ∨ (∃ (k332 : Nat) (l333 : List (List V)) (z334 : Int) (l335 : List (List V)), g (.e0 k332 l333 z334 l335))
theorem N40_0.ok (g : N40_0 → Prop) : N40_0.ex g ↔ ∃ b, g b := ⟨fun h => match h with
  | .inl ⟨_, _, _, _, _, _, _, _, h⟩ => ⟨_, h⟩
  | .inr (⟨_, _, _, _, h⟩) => ⟨_, h⟩, fun ⟨b, h⟩ => match b, h with
  | .s0 _ _ _ _ _ _ _ _, h => .inl ⟨_, _, _, _, _, _, _, _, h⟩
  | .e0 _ _ _ _, h => .inr (⟨_, _, _, _, h⟩)⟩
abbrev E40_0 : Ent (VX × S) := ⟨N40_0, N40_0.out, N40_0.ex, N40_0.ok⟩
noncomputable def D40_0 (z297 : Int) (z298 : Int) (k299 : Nat) (z300 : Int) (z301 : Int) (l302 : List (List V)) (z303 : Int) (l304 : List (List V)) : PT N40_0 :=
  .test (z301 > 0)
   (fun h0 =>
   .ask E41 (F41_ok (z297) (z298) (l302) (z303)) fun (r : A41) => match r with
   | .a0 z346 l347 z348 =>
    .auto 1 <|
    .ask E39 (F39_ok (l347) (z348)) fun (r : A39) => match r with
    | .a0 z349 z350 z351 z352 z353 l354 z355 =>
     .auto 4 <|
     .test (0 + k299 ≤ List.length l304 ∧ (k299 + 1) * 56 ≤ 140737488355328 ∧ k299 + 1 ≤ 140737488355328)
      (fun h1 =>
      .ask E14 (F14_ok (8) (l354) (z355)) fun (r : A14) => match r with
      | .a0 z356 l357 z358 =>
       .ret (N40_0.s0 (z297) (z298) (k299 + 1) (w64 (w64 (z300 + 1) + z356)) (w64 (z301 - 1)) (l357) (z358) (List.take k299 l304 ++ [[i64 z300, i64 z346, i64 z349, i64 z350, i64 z351, i64 z352, i64 z353]]))
      )
      (fun _ => .fail) -- none
   )
   (fun h0 =>
   .ret (N40_0.e0 (k299) (l302) (z303) (l304))
   )
noncomputable def S40_0 : N40_0 → PT N40_0
  | .s0 z297 z298 k299 z300 z301 l302 z303 l304 => D40_0 z297 z298 k299 z300 z301 l302 z303 l304
  | _ => .fail
def N40_0.off : N40_0 → Bool
  | .s0 _ _ _ _ _ _ _ _ => false
  | _ => true
noncomputable def L40_0 (n : Nat) (b : N40_0) : Option N40_0 := PT.loop (S40_0) N40_0.off n b
theorem L40_0_ok : ∀ (n : Nat) (b : N40_0), N40_0.off b = false → ∀ c, L40_0 n b = some c → loopP Try.prog X CC 40 (1) 18446744073709551616 B40 0 n (E40_0.out b).2 = some (E40_0.out c) :=
  loop_ok (E := E40_0) (step := S40_0) (L := notIn []) (fun b hb => by cases b <;> first | (cases hb; done) | (intro x; kernel_rfl)) (fun b => by cases b <;> rfl)
noncomputable def N40_0.nx (n : Nat) (c : N40_0) : Option N40_0 := match N40_0.off c with
  | true => some c
  | false => L40_0 n c
theorem L40_0_s0 (n : Nat) (z297 : Int) (z298 : Int) (k299 : Nat) (z300 : Int) (z301 : Int) (l302 : List (List V)) (z303 : Int) (l304 : List (List V)) : L40_0 (n + 1) (.s0 z297 z298 k299 z300 z301 l302 z303 l304) = (D40_0 z297 z298 k299 z300 z301 l302 z303 l304).ev (N40_0.nx n) := rfl
theorem N40_0.nx_s0 (n : Nat) (z297 : Int) (z298 : Int) (k299 : Nat) (z300 : Int) (z301 : Int) (l302 : List (List V)) (z303 : Int) (l304 : List (List V)) : N40_0.nx n (.s0 z297 z298 k299 z300 z301 l302 z303 l304) = L40_0 n (.s0 z297 z298 k299 z300 z301 l302 z303 l304) := rfl
theorem N40_0.nx_e0 (n : Nat) (k332 : Nat) (l333 : List (List V)) (z334 : Int) (l335 : List (List V)) : N40_0.nx n (.e0 k332 l333 z334 l335) = some (.e0 k332 l333 z334 l335) := rfl
noncomputable def D40 (z268 : Int) (z269 : Int) (l270 : List (List V)) (z271 : Int) : PT A40 :=
  .ask E14 (F14_ok (6) (l270) (z271)) fun (r : A14) => match r with
  | .a0 z340 l341 z342 =>
   .ask E14 (F14_ok (4) (l341) (z342)) fun (r : A14) => match r with
   | .a0 z343 l344 z345 =>
    .cut E40_0 (L40_0_ok 18446744073709551616 (.s0 (z268) (z269) (0) (z340) (z343) (l344) (z345) ([])) rfl) fun (r : N40_0) => match r with
    | .e0 k359 l360 z361 l362 =>
     .ret (A40.a0 (k359) (l360) (z361) (l362))
    | _ => .fail
noncomputable def F40 (z268 : Int) (z269 : Int) (l270 : List (List V)) (z271 : Int) : Option A40 := (D40 z268 z269 l270 z271).ev some
theorem F40_ok (z268 : Int) (z269 : Int) (l270 : List (List V)) (z271 : Int) : ∀ b, F40 z268 z269 l270 z271 = some b → UU 40 ([V.ptr 0 0 0, i64 z268, i64 z269]) ([Ob.cells true false 2 [[V.list 1 l270, i64 z271]]]) = some (A40.out b) :=
  fn_ok (E := E40) (L := notIn []) rfl rfl (fun x => by kernel_rfl)
/-! ## F43 -/
noncomputable def D43 (l404 : List (List V)) (z405 : Int) : PT A43 :=
  .ask E14 (F14_ok (256) (l404) (z405)) fun (r : A14) => match r with
  | .a0 z406 l407 z408 =>
   .ask E14 (F14_ok (256) (l407) (z408)) fun (r : A14) => match r with
   | .a0 z409 l410 z411 =>
    .ask E14 (F14_ok (256) (l410) (z411)) fun (r : A14) => match r with
    | .a0 z412 l413 z414 =>
     .ask E14 (F14_ok (256) (l413) (z414)) fun (r : A14) => match r with
     | .a0 z415 l416 z417 =>
      .ask E14 (F14_ok (4) (l416) (z417)) fun (r : A14) => match r with
      | .a0 z418 l419 z420 =>
       .test (0 ≤ z418 ∧ z418 < 4)
        (fun h0 =>
        .look RW5 ([[u8 (255 : Int)], [u8 (255 : Int)], [u8 (128 : Int)], [u8 (IntKind.wrap IntKind.u8 z415)]][(0 : Nat) + Int.toNat z418]?) fun e421 =>
        .auto 1 <|
        .ret (A43.a0 (IntKind.wrap IntKind.u8 z406) (IntKind.wrap IntKind.u8 z409) (IntKind.wrap IntKind.u8 z412) (e421.c0) (l419) (z420))
        )
        (fun _ => .fail) -- none
noncomputable def F43 (l404 : List (List V)) (z405 : Int) : Option A43 := (D43 l404 z405).ev some
theorem F43_ok (l404 : List (List V)) (z405 : Int) : ∀ b, F43 l404 z405 = some b → UU 43 ([V.ptr 0 0 0]) ([Ob.cells true false 2 [[V.list 1 l404, i64 z405]]]) = some (A43.out b) :=
  fn_ok (E := E43) (L := notIn []) rfl rfl (fun x => by kernel_rfl)
/-! ## F42 -/
noncomputable def D42 (l399 : List (List V)) (z400 : Int) : PT A42 :=
  .ask E14 (F14_ok (3) (l399) (z400)) fun (r : A14) => match r with
  | .a0 z401 l402 z403 =>
   .ask E43 (F43_ok (l402) (z403)) fun (r : A43) => match r with
   | .a0 z428 z429 z430 z431 l432 z433 =>
    .ask E43 (F43_ok (l432) (z433)) fun (r : A43) => match r with
    | .a0 z434 z435 z436 z437 l438 z439 =>
     .auto 2 <|
     .testB (z401 != 0)
      (fun h0 =>
      .ask E37 (F37_ok (-4) (12) (l438) (z439)) fun (r : A37) => match r with
      | .a0 z440 z441 l442 z443 =>
       .ask E37 (F37_ok (-4) (12) (l442) (z443)) fun (r : A37) => match r with
       | .a0 z444 z445 l446 z447 =>
        .ask E41 (F41_ok (0) (12) (l446) (z447)) fun (r : A41) => match r with
        | .a0 z448 l449 z450 =>
         .auto 5 <|
         .ret (A42.a0 (z401) (z428) (z429) (z430) (z431) (z434) (z435) (z436) (z437) (z440) (z441) (z444) (z445) (z448) (l449) (z450))
      )
      (fun h0 =>
      .auto 2 <|
      .ret (A42.a0 (z401) (z428) (z429) (z430) (z431) (z434) (z435) (z436) (z437) (0) (0) (0) (0) (0) (l438) (z439))
      )
noncomputable def F42 (l399 : List (List V)) (z400 : Int) : Option A42 := (D42 l399 z400).ev some
theorem F42_ok (l399 : List (List V)) (z400 : Int) : ∀ b, F42 l399 z400 = some b → UU 42 ([V.ptr 0 0 0]) ([Ob.cells true false 2 [[V.list 1 l399, i64 z400]]]) = some (A42.out b) :=
  fn_ok (E := E42) (L := notIn []) rfl rfl (fun x => by kernel_rfl)
end Go.Proofs.Ytifalphladcdcaa.H
