/- A machine over plain values beside the model's own: rows as lists, variables as rows of one element, no addresses. Definitions alone; no condition. -/
import Derived.Calls
import Derived.Laws.Sem
import Derived.Orders
set_option linter.unusedVariables false
set_option linter.unusedSimpArgs false
namespace Go.VM

/-- A value, told without memory: a row that nobody writes any more is its list; what the call itself owns is named by its number. -/
inductive V where
  | undef
  | bool (b : Bool)
  | int (k : IntKind) (n : Int)
  | str (s : ByteArray)
  | nilS
  | emp
  | ne
  | list (sz : Nat) (xs : List (List V))
  | hs (id off len : Nat)
  | nilP
  | ptr (id i off : Nat)
  | pp (cs : List V)
  | fn (f : Nat) (caps : List V)
  | nilF
  | agg (cs : List V)
  | tup (vs : List V)
  deriving Inhabited

inductive Ob where
  | vir
  | dead
  | cells (own pure : Bool) (sz : Nat) (xs : List (List V))
  deriving Inhabited

/-- What an operation does to the store: it looks, then answers, and lays new contents. -/
inductive M where
  | fail
  | done (v : V) (ws : List (Nat × Ob))
  | get (id : Nat) (k : Ob → M)

abbrev Store := List Ob

def M.run : M → Store → Option (V × List (Nat × Ob))
  | .fail, _ => none
  | .done v ws, _ => some (v, ws)
  | .get id k, σ => match σ[id]? with
    | some o => (k o).run σ
    | none => none

def M.reads : M → Store → List Nat
  | .get id k, σ => id :: (match σ[id]? with
    | some o => (k o).reads σ
    | none => [])
  | _, _ => []

def lay (σ : Store) (ws : List (Nat × Ob)) : Store := ws.foldl (fun s p => s.set p.1 p.2) σ

inductive TK where
  | slice (e : Nat)
  | array (n e : Nat)
  | struct (fs : List (Nat × Nat))
  | ptr (e : Nat)
  | int (k : IntKind)
  | other
  deriving Inhabited

structure TI where
  size : Nat
  bytes : Nat
  ptrs : Bool
  zero : List V
  kind : TK
  deriving Inhabited

def TI.agg (ti : TI) : Bool := match ti.kind with
  | .array .. | .struct _ => true
  | _ => false

structure FI where
  body : Code
  ntmps : Nat
  results : List (Nat × Option Nat)
  deriving Inhabited

abbrev Oracle := Nat → List V → Store → Option (V × Store)

/-- Where a slice that is nil may stand: a slot, a cell of what it holds or points to, the size of the elements. -/
structure FD where
  slot : Nat
  leaf : Nat
  sz : Nat
  deriving Inhabited

/-- Where ways meet: what is kept ahead of a branch, and behind it. -/
structure JD where
  kin : List Nat
  fin : List FD
  kout : List Nat
  fout : List FD
  deriving Inhabited

structure Cx where
  ty : Nat → Option TI
  fn : Nat → Option FI
  rw : Nat → Nat → Bool
  keep : Nat → Nat → List Nat
  wz : Nat → List V
  wl : Nat → Nat → List FD
  wr : Nat → List FD
  wa : Nat → List (List V)
  jn : Nat → Nat → Option JD

def ofLeaf : Value → V
  | .bool b => .bool b
  | .int k n => .int k n
  | .string s => .str s
  | .slice none 0 0 => .nilS
  | .pointer none => .nilP
  | .nilFunc => .nilF
  | _ => .undef

def ofConst : Value → V
  | .agg cs => if cs.all (·.oneCell') then .agg (cs.toList.map ofLeaf) else .undef
  | v => ofLeaf v

def ev (T : List V) : Operand → V
  | .tmp t => T.getD t .undef
  | .const v => ofConst v
  | .global _ => .undef
  | .func f => .fn f []

def cellsOf : V → Option (List V)
  | .agg cs => some cs
  | .tup _ => none
  | .undef => none
  | v => some [v]

def splice (cs : List V) (off : Nat) (vs : List V) : List V := cs.take off ++ vs ++ cs.drop (off + vs.length)

def partV (ti : TI) (cs : List V) (off : Nat) : Option V :=
  if ti.agg then (if off + ti.size ≤ cs.length then some (.agg ((cs.drop off).take ti.size)) else none) else cs[off]?

def fillV (place : Nat → Option (Nat × Nat)) (cs : List V) : List (Nat × V) → Option (List V)
  | [] => some cs
  | (i, v) :: rest => match place i, cellsOf v with
    | some (off, size), some vc => if vc.length = size ∧ off + size ≤ cs.length then fillV place (splice cs off vc) rest else none
    | _, _ => none

/-- What goes into a row that may be read as a list: what is named becomes its list, and is written no more. -/
def purLeaf (c : V) (k : V → List (Nat × Ob) → M) : M :=
  match c with
  | .hs id off len => .get id fun
    | .cells own true sz xs => if off + len ≤ xs.length then k (.list sz ((xs.drop off).take len)) (if own then [(id, .cells false true sz xs)] else []) else .fail
    | _ => .fail
  | .ptr .. | .agg _ | .tup _ => .fail
  | .fn _ (_ :: _) => .fail
  | c => k c []

def pur : List V → (List V → List (Nat × Ob) → M) → M
  | [], k => k [] []
  | c :: cs, k => purLeaf c fun c' ws => pur cs fun cs' ws' => k (c' :: cs') (ws ++ ws')

/-- A nil slice told as a list of which no more is known than that it is empty. -/
def wid1 (w c : V) : V := match c with
  | .nilS => (match w with
    | .list sz [] => .list sz []
    | _ => .nilS)
  | c => c

def wid : List V → List V → List V
  | w :: ws, c :: cs => wid1 w c :: wid ws cs
  | _, cs => cs

def widA (ws : List V) (v : V) : V := match v with
  | .agg cs => .agg (wid ws cs)
  | v => (match ws with
    | w :: _ => wid1 w v
    | [] => v)

def widArgs : List (List V) → List V → List V
  | ws :: wss, v :: vs => widA ws v :: widArgs wss vs
  | _, vs => vs

/-- A byte of a text. -/
def byteAt (s : ByteArray) (i : Nat) : Int := match s[i]? with
  | some b => (b.toNat : Int)
  | none => 0

def bin (op : BinOp) (x y : V) : Option V :=
  match op, x, y with
  | .shl, .int k a, .int _ b => if b < 0 then none else some (.int k (k.wrap (a * 2 ^ (min b.toNat k.bits))))
  | .shr, .int k a, .int _ b => if b < 0 then none else some (.int k (a.fdiv (2 ^ (min b.toNat k.bits))))
  | op, .int k a, .int k' b => if k = k' then
      match op with
      | .add => some (.int k (k.wrap (a + b)))
      | .sub => some (.int k (k.wrap (a - b)))
      | .mul => some (.int k (k.wrap (a * b)))
      | .quo => if b = 0 then none else some (.int k (k.wrap (a.tdiv b)))
      | .rem => if b = 0 then none else some (.int k (a.tmod b))
      | .and => some (.int k (k.wrap (BitVec.ofInt k.bits a &&& BitVec.ofInt k.bits b).toNat))
      | .or => some (.int k (k.wrap (BitVec.ofInt k.bits a ||| BitVec.ofInt k.bits b).toNat))
      | .xor => some (.int k (k.wrap (BitVec.ofInt k.bits a ^^^ BitVec.ofInt k.bits b).toNat))
      | .andNot => some (.int k (k.wrap (BitVec.ofInt k.bits a &&& ~~~ BitVec.ofInt k.bits b).toNat))
      | .eql => some (.bool (a == b))
      | .neq => some (.bool (a != b))
      | .lss => some (.bool (decide (a < b)))
      | .leq => some (.bool (decide (a ≤ b)))
      | .gtr => some (.bool (decide (a > b)))
      | .geq => some (.bool (decide (a ≥ b)))
      | _ => none
    else none
  | _, _, _ => none
end Go.VM
