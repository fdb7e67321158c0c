/- The machine over plain values: tables as trees; a law without arguments. No condition beyond those stated. -/
import Derived.Test.YtifalphladcdcaaGreatVmAJ
import Derived.Below
set_option linter.unusedVariables false
set_option linter.unusedSimpArgs false
namespace Go.VM
open Go.RowKit (Below)

inductive Tr (α : Type) where
  | leaf
  | node (v : Option α) (l r : Tr α)

def Tr.get {α : Type} : Tr α → Nat → Option α
  | .leaf, _ => none
  | .node v l r, n => match n with
    | 0 => v
    | n + 1 => match n % 2 with
      | 0 => l.get (n / 2)
      | _ => r.get (n / 2)

/-- A table, as far as it goes. -/
def upto {α : Type} (n : Nat) (t : Tr α) (i : Nat) : Option α := match Nat.ble n i with
  | true => none
  | false => t.get i

theorem upto_some {α : Type} {n : Nat} {t : Tr α} {f : Nat → Option α} (h : (List.range n).map f = (List.range n).map t.get) {i : Nat} {a : α} (hi : upto n t i = some a) : f i = some a := by
  unfold upto at hi
  split at hi
  · cases hi
  · rename_i hb
    have hlt : i < n := by
      refine Classical.byContradiction fun hn => ?_
      have h1 : Nat.ble n i = true := by rw [Nat.ble_eq]; omega
      rw [h1] at hb; cases hb
    have := congrArg (fun l => l[i]?) h
    simp [hlt] at this
    rw [this]; exact hi

/-- A table that may leave things out. -/
def inT {α : Type} (t : Tr α) (f : Nat → Option α) (i : Nat) : Option α := match t.get i with
  | some _ => f i
  | none => none
theorem upto_in {α : Type} {n : Nat} {t : Tr α} {f : Nat → Option α} (h : (List.range n).map (inT t f) = (List.range n).map t.get) {i : Nat} {a : α} (hi : upto n t i = some a) : f i = some a := by
  have := upto_some h hi
  unfold inT at this
  split at this
  · exact this
  · cases this
def n1 {α : Type} (a : α) : Tr α := .node (some a) .leaf .leaf
def n2 {α : Type} (a : α) (l r : Tr α) : Tr α := .node (some a) l r
def n0 {α : Type} (l r : Tr α) : Tr α := .node none l r
def lf {α : Type} : Tr α := .leaf
def fiF (f : Func) : FI := ⟨f.body.getD .skip, f.ntmps, f.results.toList.map resOf⟩
/-- Where nil slices may stand in a slot of a type. -/
def fdIn (s : Nat) : Nat → List V → List FD
  | _, [] => []
  | i, .list sz _ :: l => ⟨s, i, sz⟩ :: fdIn s (i + 1) l
  | i, _ :: l => fdIn s (i + 1) l
def fdAll (w : Nat → List V) : List (Nat × Nat) → List FD
  | [] => []
  | (s, t) :: l => fdIn s 0 (w t) ++ fdAll w l

/-- A law without arguments, by what the machine answers. -/
theorem closed_ok {P : Program} {X : Cx} (hX : X.OK P) (hm : P.follows .mixedOrders = true) {O : Oracle} (hO : OS P O) {N n f : Nat} {σ' : Store} {b : Bool} (h : call P X O N n f [] [] = some (.bool b, σ')) (w : World) :
    Calls P f #[] w fun e w' => e = .returned (.bool b) ∧ Below w.heap.size w w' := by
  have hs : SR [] (fun b => b < w.heap.size) [] w.heap := ⟨rfl, fun i => .inl ⟨by simp, by simp⟩, fun i j b base sz tot base' sz' tot' h => by simp at h, fun b hb => hb⟩
  refine (call_ok hX hm hO N n f [] [] (.bool b) σ' h [] _ w #[] hs rfl (fun k c v h => by simp at h)).mono fun e w' ⟨x, D', Γ', he, hk, hv, _, hx⟩ => ?_
  have := hv.bool
  subst this
  refine ⟨he, ⟨hk.os, hk.tape, hk.output, hx.size, fun k hk => hx.same k hk ?_⟩⟩
  rintro ⟨i, base, sz, tot, hi, _⟩
  simp at hi

theorem os_none (P : Program) : OS P (fun _ _ _ => none) := fun f args σ r σ' h => by cases h
end Go.VM
namespace Go.VM
/-- What is kept at a loop's head, by function and block. -/
def keepOf (n : Nat) (t : Tr (List (Nat × List Nat))) (f k : Nat) : List Nat := match upto n t f with
  | none => []
  | some l => match l.find? (fun p => p.1 == k) with
    | some p => p.2
    | none => []
def fdOf (n : Nat) (t : Tr (List (Nat × List FD))) (f k : Nat) : List FD := match upto n t f with
  | none => []
  | some l => match l.find? (fun p => p.1 == k) with
    | some p => p.2
    | none => []
def listOf {α : Type} (n : Nat) (t : Tr (List α)) (f : Nat) : List α := match upto n t f with
  | none => []
  | some l => l
def rwOf (n : Nat) (t : Tr (List Nat)) (f j : Nat) : Bool := match upto n t f with
  | none => false
  | some l => l.contains j
/-- Where ways meet, by function and place. -/
def jnOf (n : Nat) (t : Tr (List (Nat × JD))) (f k : Nat) : Option JD := match upto n t f with
  | none => none
  | some l => match l.find? (fun p => Nat.beq p.1 k) with
    | some p => some p.2
    | none => none
end Go.VM
