/- The machine over plain values: regions, bodies, calls. Definitions alone; no condition. -/
import Derived.Test.YtifalphladcdcaaGreatVmB
set_option linter.unusedVariables false
set_option linter.unusedSimpArgs false
namespace Go.VM

structure S where
  T : List V
  σ : Store

def putV (T : List V) (dst : Option Tmp) (v : V) : List V := match dst with
  | some d => T.set d v
  | none => T

/-- Whether an operation of a region is wanted: none where that cannot be told. -/
def wantV (ops : List Oper) (T : List V) (o : Oper) : Option Bool :=
  match o.guard with
  | none => some true
  | some (j, want) => match ops[j]? with
    | none => none
    | some p => match p.dst with
      | none => none
      | some d => match T[d]? with
        | some (.bool b) => some (b == want)
        | some (.tup []) => some false
        | _ => none

structure Foot where
  at_ : Nat
  rd : List Nat
  wr : List Nat

def runOp (P : Program) (X : Cx) (C : Oracle) (ops : List Oper) (i nid : Nat) (o : Oper) (s : S) : Option (S × Foot) :=
  match wantV ops s.T o with
  | none => none
  | some false => some (⟨putV s.T o.dst (.tup []), s.σ⟩, ⟨i, [], []⟩)
  | some true =>
    match (opM P X C s.T nid o).run s.σ with
    | none => none
    | some (v, ws) => some (⟨putV s.T o.dst v, lay s.σ ws⟩, ⟨i, (opM P X C s.T nid o).reads s.σ, ws.map (·.1)⟩)

def bases (X : Cx) (b : Nat) : List Oper → List Nat
  | [] => []
  | o :: os => b :: bases X (b + cnt X o) os

def total (X : Cx) : List Oper → Nat
  | [] => 0
  | o :: os => cnt X o + total X os

/-- The operations in the text's order. -/
def runSeq (P : Program) (X : Cx) (C : Oracle) (ops : List Oper) : List (Nat × Nat × Oper) → S → Option (S × List Foot)
  | [], s => some (s, [])
  | (i, nid, o) :: rest, s => match runOp P X C ops i nid o s with
    | none => none
    | some (s', f) => match runSeq P X C ops rest s' with
      | none => none
      | some (s'', fs) => some (s'', f :: fs)

def plan (X : Cx) (b : Nat) (ops : List Oper) : List (Nat × Nat × Oper) := (List.range ops.length).zip ((bases X b ops).zip ops)

def meets (a b : List Nat) : Bool := a.any b.contains

/-- Two operations that may come in either order: what one writes the other neither reads nor writes. -/
def free (f g : Foot) : Bool := !meets f.wr g.rd && !meets f.wr g.wr && !meets f.rd g.wr

/-- Which operations surely come ahead of each one. -/
def befores : List Oper → List (List Nat) → List (List Nat)
  | [], acc => acc
  | o :: os, acc => befores os (acc ++ [o.after.toList.flatMap fun e => if Region.binds .any e then e.on :: acc.getD e.on [] else []])

def loose (ops : List Oper) (bf : List (List Nat)) (i j : Nat) : Bool :=
  !(bf.getD j []).contains i && !(bf.getD i []).contains j

def allPairs {α : Type} (p : α → α → Bool) : List α → Bool
  | [] => true
  | x :: xs => xs.all (p x) && allPairs p xs

def okOrders (ops : Array Oper) (fs : List Foot) : Bool :=
  let l := ops.toList
  let bf := befores l []
  allPairs (fun f g => !loose l bf f.at_ g.at_ ||
    (free f g && ((ops[f.at_]?).any fun x => (ops[g.at_]?).any fun y => x.apart ops y))) fs &&
  l.zipIdx.all fun p => p.1.after.toList.all fun e => !Region.binds .any e || decide (e.on < p.2)

/-- Rows that are written no more behind a region. -/
def fzList : Nat → Store → Store → List (Nat × Ob)
  | i, .cells true true sz xs :: σ, .cells false true _ _ :: τ => (i, .cells false true sz xs) :: fzList (i + 1) σ τ
  | i, _ :: σ, _ :: τ => fzList (i + 1) σ τ
  | _, _, _ => []

def fz (σ τ : Store) : Store := lay σ (fzList 0 σ τ)

def runRegion (P : Program) (X : Cx) (C : Oracle) (ops : Array Oper) (draw : Bool) (s : S) : Option S :=
  let l := ops.toList
  match runSeq P X C l (plan X s.σ.length l) ⟨s.T, s.σ ++ List.replicate (total X l) .vir⟩ with
  | none => none
  | some (s', fs) => if draw && !okOrders ops fs then
      match runSeq P X C l (plan X s.σ.length l) ⟨s.T, fz s.σ s'.σ ++ List.replicate (total X l) .vir⟩ with
      | none => none
      | some (s'', fs') => if okOrders ops fs' then some s'' else none
    else some s'

inductive VX where
  | normal
  | exit (id : Nat)
  | ret

/-- What stands at a loop's head: the slots that are kept, the rows and variables that they reach. -/
def prep (m : Nat) (keep : List Nat) (s : S) : S :=
  let T := s.T.zipIdx.map fun p => if keep.contains p.2 then p.1 else .undef
  let l := tidy m s.σ T
  ⟨T.map (renV (atOf l)), tidyStore l s.σ⟩

/-- A nil slice told as a row of the call's own without elements. -/
def fresh1 (s : S) (d : FD) : S :=
  match s.T[d.slot]? with
  | some .nilS => ⟨s.T.set d.slot (.hs s.σ.length 0 0), s.σ ++ [.cells true true d.sz []]⟩
  | some (.agg cs) => (match cs[d.leaf]? with
    | some .nilS => ⟨s.T.set d.slot (.agg (cs.set d.leaf (.hs s.σ.length 0 0))), s.σ ++ [.cells true true d.sz []]⟩
    | _ => s)
  | some (.ptr id i off) => (match s.σ[id]? with
    | some (.cells own false sz xs) => (match xs[i]? with
      | some x => (match x[off + d.leaf]? with
        | some .nilS => ⟨s.T, s.σ.set id (.cells own false sz (xs.set i (x.set (off + d.leaf) (.hs s.σ.length 0 0)))) ++ [.cells true true d.sz []]⟩
        | _ => s)
      | none => s)
    | _ => s)
  | _ => s

def fresh (l : List FD) (s : S) : S := l.foldl fresh1 s

def pre (X : Cx) (f m k : Nat) (s : S) : S := prep m (X.keep f k) (fresh (X.wl f k) s)

/-- What stands ahead of a branch, and behind it, where the ways meet. -/
def join (X : Cx) (f m : Nat) (c : Operand) : Option ((S → S) × (S → S)) := match c with
  | .tmp t => (match X.jn f t with
    | some d => some (fun s => prep m d.kin (fresh d.fin s), fun s => prep m d.kout (fresh d.fout s))
    | none => none)
  | _ => none

def joinI (j : Option ((S → S) × (S → S))) (s : S) : S := match j with
  | some g => g.1 s
  | none => s

def joinX (j : Option ((S → S) × (S → S))) : VX × S → VX × S
  | (.normal, s) => (match j with
    | some g => (.normal, g.2 s)
    | none => (.normal, s))
  | r => r

/-- What stands behind a block that is left. -/
def exitX (X : Cx) (f m id : Nat) (s : S) : S := match X.jn f (1000000 + id) with
  | some d => prep m d.kout (fresh d.fout s)
  | none => s

/-- What stands ahead of a block, and behind it. -/
def blockI (X : Cx) (f m id : Nat) (s : S) : S := match X.jn f (2000000 + id) with
  | some d => prep m d.kin (fresh d.fin s)
  | none => s
def blockO (X : Cx) (f m id : Nat) (s : S) : S := match X.jn f (2000000 + id) with
  | some d => prep m d.kout (fresh d.fout s)
  | none => s
def blockR (X : Cx) (f m id : Nat) : VX × S → VX × S
  | (.exit j, s) => (match Nat.beq j id with
    | true => (.normal, s)
    | false => (.exit j, s))
  | (.normal, s) => (.normal, blockO X f m id s)
  | r => r

/-- What stands ahead of a region, and behind it. -/
def regI (X : Cx) (f m id : Nat) (s : S) : S := match X.jn f (4000000 + id) with
  | some d => prep m d.kin (fresh d.fin s)
  | none => s
def regO (X : Cx) (f m id : Nat) (s : S) : S := match X.jn f (4000000 + id) with
  | some d => prep m d.kout (fresh d.fout s)
  | none => s

abbrev genO (X : Cx) (C : Oracle) : Oracle := fun f args σ => C f (widArgs (X.wa f) args) σ

def vloop (body : S → Option (VX × S)) (pre : S → S) : Nat → S → Option (VX × S)
  | 0, _ => none
  | n + 1, s => match body (pre s) with
    | some (.normal, s') => vloop body pre n s'
    | r => r

def exec (P : Program) (X : Cx) (C : Oracle) (f m n : Nat) : Code → Nat → S → Option (VX × S)
  | .skip, _, s => some (.normal, s)
  | .region id ops draw, _, s => (runRegion P X C ops draw (regI X f m id s)).map fun s' => (.normal, regO X f m id s')
  | .seq a b, k, s => match exec P X C f m n a k s with
    | some (.normal, s') => exec P X C f m n b k s'
    | r => r
  | .cond c a b, k, s => match ev (joinI (join X f m c) s).T c with
    | .bool true => (exec P X C f m n a k (joinI (join X f m c) s)).map (joinX (join X f m c))
    | .bool false => (exec P X C f m n b k (joinI (join X f m c) s)).map (joinX (join X f m c))
    | _ => none
  | .block id c, _, s => (exec P X C f m n c id (blockI X f m id s)).map (blockR X f m id)
  | .loop c, k, s => vloop (fun s => exec P X C f m n c k s) (pre X f m k) n s
  | .exit id, _, s => some (.exit id, exitX X f m id s)
  | .ret, _, s => some (.ret, exitX X f m 2000000 s)
  | _, _, _ => none

def result (X : Cx) (s : S) : Nat × Option Nat → Option V
  | (t, none) => some (s.T.getD t .undef)
  | (t, some ty) => match X.ty ty, s.T.getD t .undef with
    | some ti, .ptr id i off => match s.σ[id]? with
      | some (.cells _ _ _ xs) => match xs[i]? with
        | some x => partV ti x off
        | none => none
      | _ => none
    | _, _ => none

def results (X : Cx) (s : S) : List (Nat × Option Nat) → Option (List V)
  | [] => some []
  | r :: rs => match result X s r, results X s rs with
    | some v, some vs => some (v :: vs)
    | _, _ => none

def oneOr : List V → V
  | [v] => v
  | vs => .tup vs

def leave (X : Cx) (m : Nat) (fi : FI) (s : S) : Option (V × Store) :=
  match results X s fi.results with
  | none => none
  | some vs =>
    if !(vs.length == 1) && vs.any (fun | .tup _ => true | _ => false) then none else
    let r := oneOr vs
    let l := tidy m s.σ [r]
    some (renV (atOf l) r, tidyStore l s.σ)

def call (P : Program) (X : Cx) (O : Oracle) (N : Nat) : Nat → Oracle
  | 0, _, _, _ => none
  | n + 1, f, args, σ => match O f args σ with
    | some r => some r
    | none => match X.fn f with
      | none => none
      | some fi => match exec P X (genO X (call P X O N n)) f σ.length N fi.body 0 ⟨args ++ List.replicate (fi.ntmps - args.length) .undef, σ⟩ with
        | some (.normal, s) => leave X σ.length fi (fresh (X.wr f) s)
        | some (.ret, s) => leave X σ.length fi (fresh (X.wr f) s)
        | _ => none
end Go.VM
