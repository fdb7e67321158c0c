/- The machine over plain values: the tables that it reads are the program's. No condition beyond those stated. -/
import Derived.Test.YtifalphladcdcaaGreatVmP
set_option linter.unusedVariables false
set_option linter.unusedSimpArgs false
namespace Go.VM

def kindOf : TypeDesc → TK
  | .slice e => .slice e
  | .array n e => .array n e
  | .struct fs => .struct (fs.toList.map fun f => (f.offset, f.type))
  | .pointer e => .ptr e
  | .int k => .int k
  | _ => .other

def leafs? : Value → Option (List V)
  | .agg cs => if cs.all (·.oneCell') then some (cs.toList.map ofLeaf) else none
  | v => if v.oneCell' then some [ofLeaf v] else none

def tiOf (P : Program) (t : Nat) : Option TI :=
  match P.info? t, P.underlying t with
  | some i, some d => match i.zero with
    | some z => match leafs? z with
      | some l => some ⟨i.size, i.bytes, i.hasPointers, l, kindOf d⟩
      | none => none
    | none => none
  | _, _ => none

def resOf : ResultVar → Nat × Option Nat
  | .tmp t => (t, none)
  | .cell t ty => (t, some ty)

def fiOf (P : Program) (f : Nat) : Option FI :=
  match P.funcs[f]? with
  | some fn => if fn.name == "runtime.NumGoroutine" then none else match fn.body with
    | some c => some ⟨c, fn.ntmps, fn.results.toList.map resOf⟩
    | none => none
  | none => none

structure Cx.OK (P : Program) (X : Cx) : Prop where
  ty : ∀ t ti, X.ty t = some ti → tiOf P t = some ti
  fn : ∀ f fi, X.fn f = some fi → fiOf P f = some fi
end Go.VM
