/- Small lemmas for the printed walks over the machine of plain values. No condition beyond those stated. -/
import Derived.Test.YtifalphladcdcaaGreatVmAN
set_option linter.unusedVariables false
set_option linter.unusedSimpArgs false
namespace Go.VM
/-- All loops but these are one step. -/
def notIn (l : List Nat) (k : Nat) : Bool := match l with
  | [] => true
  | x :: xs => match Nat.beq k x with
    | true => false
    | false => notIn xs k
theorem ite_eq {α : Type} {p : Prop} [Decidable p] {a b r : α} (h : (if p then a else b) = r) : (p ∧ a = r) ∨ (¬p ∧ b = r) := by
  split at h
  · exact .inl ⟨‹_›, h⟩
  · exact .inr ⟨‹_›, h⟩
def bnd {α β : Type} (x : α) (f : α → β) : β := f x
theorem bnd_eq {α β : Type} {x : α} {f : α → β} {r : β} (h : bnd x f = r) : ∃ v, x = v ∧ f v = r := ⟨x, rfl, h⟩
/-- One way, or else another one. -/
def orE {α β : Type} (o : Option α) (f : α → β) (e : β) : β := match o with
  | some a => f a
  | none => e
theorem orE_eq {α β : Type} {o : Option α} {f : α → β} {e r : β} (h : orE o f e = r) : (∃ a, o = some a ∧ f a = r) ∨ (o = none ∧ e = r) := by
  cases o with
  | some a => exact .inl ⟨a, rfl, h⟩
  | none => exact .inr ⟨rfl, h⟩
abbrev U : V := .undef
abbrev E : V := .tup []
/-- So many slots with nothing in them, ahead of others. -/
def un : Nat → List V → List V
  | 0, l => l
  | n + 1, l => U :: un n l
abbrev i64 (n : Int) : V := .int .i64 n
abbrev u8 (n : Int) : V := .int .u8 n
abbrev vb (b : Bool) : V := .bool b
abbrev w64 (n : Int) : Int := IntKind.wrap .i64 n
def vI : V → Int
  | .int _ n => n
  | _ => 0
def vB : V → Bool
  | .bool b => b
  | _ => false
def vL : V → List (List V)
  | .list _ l => l
  | _ => []
def vY : V → ByteArray
  | .str s => s
  | _ => ByteArray.empty
/-! ### Short forms -/
abbrev LV := List (List V)
abbrev hS (i k : Nat) : V := .hs i 0 k
abbrev pT (i : Nat) : V := .ptr i 0 0
abbrev oT (n : Nat) (l : LV) : Ob := .cells true true n l
abbrev oF (n : Nat) (l : LV) : Ob := .cells true false n l
abbrev lS (n : Nat) (l : LV) : V := .list n l
abbrev vN : VX := .normal
abbrev vX (n : Nat) : VX := .exit n
end Go.VM
