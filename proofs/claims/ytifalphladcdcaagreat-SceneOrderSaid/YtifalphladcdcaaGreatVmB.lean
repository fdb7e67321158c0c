/- The machine over plain values: what an operation does, a region, a function's body. Definitions alone; no condition. -/
import Derived.Test.YtifalphladcdcaaGreatVmA
set_option linter.unusedVariables false
set_option linter.unusedSimpArgs false
namespace Go.VM

/-- A piece of the model's own code that looks at nothing but the program. -/
def pureRun {α : Type} (P : Program) : Sem α → Option α
  | .pure a => some a
  | .program k => pureRun P (k P)
  | _ => none

def reLeaf : V → Option Value
  | .bool b => some (.bool b)
  | .int k n => some (.int k n)
  | .str s => some (.string s)
  | _ => none

def reLeafs : List V → Option (List Value)
  | [] => some []
  | c :: cs => match reLeaf c, reLeafs cs with
    | some v, some vs => some (v :: vs)
    | _, _ => none

def reify : V → Option Value
  | .agg cs => (reLeafs cs).map fun vs => .agg vs.toArray
  | v => reLeaf v

def isLeaf : V → Bool
  | .agg _ | .tup _ | .undef => false
  | _ => true

def mDone (v : Option V) : M := match v with
  | some v => .done v []
  | none => .fail

/-- A name is good only while what it names is there. -/
def live (id : Nat) (k : M) : M := .get id fun
  | .cells .. => k
  | _ => .fail

def isNilS : V → Option Bool
  | .nilS => some true
  | .list _ (_ :: _) | .ne => some false
  | _ => none

def nilAns (op : BinOp) (b : Bool) : M := match op with
  | .eql => .done (.bool b) []
  | .neq => .done (.bool !b) []
  | _ => .fail

/-! ### Whether two of a kind are the same, cell by cell -/
def eqFs (X : Cx) (eq : Nat → V → V → Option Bool) (xs ys : List V) : List Field → Option Bool
  | [] => some true
  | f :: fs => if f.name = "_" then none else match X.ty f.type with
    | none => none
    | some ti => match partV ti xs f.offset, partV ti ys f.offset with
      | some a, some b => match eq f.type a b, eqFs X eq xs ys fs with
        | some r, some s => some (r && s)
        | _, _ => none
      | _, _ => none

def eqIs (te : TI) (eq : V → V → Option Bool) (xs ys : List V) : List Nat → Option Bool
  | [] => some true
  | i :: is => match partV te xs (i * te.size), partV te ys (i * te.size) with
    | some a, some b => match eq a b, eqIs te eq xs ys is with
      | some r, some s => some (r && s)
      | _, _ => none
    | _, _ => none

def eqV (P : Program) (X : Cx) : Nat → Nat → V → V → Option Bool
  | 0, _, _, _ => none
  | d + 1, t, x, y => match P.underlying t, x, y with
    | some (.int _), .int k a, .int k' b => if k = k' then some (a == b) else none
    | some .bool, .bool a, .bool b => some (a == b)
    | some (.struct fs), .agg xs, .agg ys => match P.stoodInHeld t with
      | true => none
      | false => eqFs X (eqV P X d) xs ys fs.toList
    | some (.array n e), .agg xs, .agg ys => match X.ty e with
      | some te => eqIs te (eqV P X d e) xs ys (List.range n)
      | none => none
    | _, _, _ => none

def aggEq (P : Program) (X : Cx) (t : Nat) (x y : V) : Option Bool := match x, y with
  | .agg _, .agg _ => match P.eqGuardType P.depth t with
    | true => none
    | false => eqV P X 8 t x y
  | _, _ => none

def boEq (P : Program) (X : Cx) (op : BinOp) (t : Nat) (x y : V) : M :=
  match aggEq P X t x y with
  | some b => nilAns op b
  | none =>
  match reify x, reify y with
  | some a, some b => mDone ((pureRun P (do eqGuard op t (.const a) (.const b) a b; binOp op t a b)).map ofConst)
  | _, _ => match X.ty t, y with
    | some { kind := .slice _, .. }, .nilS => match isNilS x with
      | some b => nilAns op b
      | none => .fail
    | some { kind := .ptr _, .. }, .nilP => match x with
      | .nilP => nilAns op true
      | .pp _ => nilAns op false
      | .ptr id _ _ => live id (nilAns op false)
      | _ => .fail
    | _, _ => .fail

def lenM (v : V) (k : Nat → M) : M := match v with
  | .hs id _ n => live id (k n)
  | .list _ xs => k xs.length
  | .nilS | .emp | .ne => k 0
  | _ => .fail

/-- The elements of a slice, and what is to be laid when they are read as a list: nothing. -/
def elems (sz : Nat) (v : V) (k : List (List V) → M) : M :=
  match v with
  | .hs id off len => .get id fun
    | .cells _ true sz' xs => if sz' = sz ∧ off + len ≤ xs.length then k ((xs.drop off).take len) else .fail
    | _ => .fail
  | .list sz' xs => if sz' = sz then k xs else .fail
  | .nilS | .emp | .ne => k []
  | _ => .fail

def appendM (ti : TI) (nid : Nat) (s x : V) : M :=
  elems ti.size x fun new =>
  .get nid fun
  | .vir =>
    match s with
    | .nilS | .emp =>
      if 0 < ti.size ∧ ti.zero.length = ti.size ∧ new.length * ti.bytes ≤ 2 ^ 47 ∧ new.length ≤ 2 ^ 47 then .done (.hs nid 0 new.length) [(nid, .cells true true ti.size new)] else .fail
    | .hs id off len => .get id fun
      | .cells true true sz xs =>
        if 0 < ti.size ∧ ti.zero.length = ti.size ∧ sz = ti.size ∧ off + len ≤ xs.length ∧ (len + new.length) * ti.bytes ≤ 2 ^ 47 ∧ len + new.length ≤ 2 ^ 47 ∧ id ≠ nid then
          .done (.hs nid 0 (len + new.length)) [(id, .dead), (nid, .cells true true sz ((xs.drop off).take len ++ new))]
        else .fail
      | _ => .fail
    | _ => .fail
  | _ => .fail

def intOf? : V → Option Int
  | .int _ n => some n
  | _ => none

def bounds? (len : Nat) (lo hi : Option V) : Option (Nat × Nat) :=
  match (match hi with | some v => intOf? v | none => some (len : Int)), (match lo with | some v => intOf? v | none => some 0) with
  | some h, some l => if 0 ≤ l ∧ l ≤ h ∧ h ≤ len then some (l.toNat, h.toNat) else none
  | _, _ => none

def sliceM (X : Cx) (t : Nat) (x : V) (lo hi : Option V) : M :=
  match X.ty t with
  | some { kind := .slice e, .. } => match X.ty e, x with
    | some te, .hs id off len => match bounds? len lo hi with
      | some (l, h) => .get id fun
        | .cells _ _ sz _ => if sz = te.size then .done (.hs id (off + l) (h - l)) [] else .fail
        | _ => .fail
      | none => .fail
    | some te, .list sz xs => match bounds? xs.length lo hi with
      | some (l, h) => if sz = te.size then .done (.list sz ((xs.drop l).take (h - l))) [] else .fail
      | none => .fail
    | some _, .nilS => match bounds? 0 lo hi with
      | some _ => .done .nilS []
      | none => .fail
    | _, _ => .fail
  | _ => .fail

def parts? (T : List V) (ps : Array (Nat × Operand)) : List (Nat × V) := ps.toList.map fun p => (p.1, ev T p.2)

def places (X : Cx) : TK → Nat → Option (Nat × Nat)
  | .struct fs, i => match fs[i]? with
    | some (off, t) => (X.ty t).map fun ti => (off, ti.size)
    | none => none
  | .array _ e, i => (X.ty e).map fun ti => (i * ti.size, ti.size)
  | _, _ => none

def placesOK (X : Cx) : TK → Bool
  | .struct fs => fs.all fun f => (X.ty f.2).isSome
  | .array _ e => (X.ty e).isSome
  | _ => false

def setElems (wz : List V) (sz : Nat) (xs : List (List V)) : List (Nat × V) → (List (List V) → List (Nat × Ob) → M) → M
  | [], k => k xs []
  | (i, v) :: rest, k => match cellsOf v with
    | some vc => if vc.length = sz ∧ i < xs.length then pur vc fun vc' ws => setElems wz sz (xs.set i (wid wz vc')) rest fun xs' ws' => k xs' (ws ++ ws') else .fail
    | none => .fail

def alloc1 (nid : Nat) (v : V) (o : Ob) (ws : List (Nat × Ob)) : M :=
  .get nid fun
  | .vir => .done v (ws ++ [(nid, o)])
  | _ => .fail

/-- One operation, but calls. -/
def op1 (P : Program) (X : Cx) (T : List V) (nid : Nat) (o : Oper) : M :=
  match o.op with
  | .move x | .assign x => .done (ev T x) []
  | .pick c a b => match ev T c with
    | .bool t => .done (if t then ev T a else ev T b) []
    | _ => .fail
  | .alloc t => match X.ty t with
    | some ti => if ti.zero.length = ti.size ∧ 0 < ti.size then alloc1 nid (.ptr nid 0 0) (.cells true false ti.size [ti.zero]) [] else .fail
    | none => .fail
  | .box _ v => match cellsOf (ev T v) with
    | some cs => if 0 < cs.length then alloc1 nid (.ptr nid 0 0) (.cells true false cs.length [cs]) [] else .fail
    | none => .fail
  | .build t ps => match X.ty t with
    | some ti => if placesOK X ti.kind then match fillV (places X ti.kind) ti.zero (parts? T ps) with
      | some cs => .done (.agg cs) []
      | none => .fail else .fail
    | none => .fail
  | .buildSlice t len ps => match X.ty t with
    | some { kind := .slice e, .. } => match X.ty e with
      | some te => if len * te.size ≤ 2 ^ 24 ∧ te.zero.length = te.size ∧ 0 < te.size then
          setElems (X.wz e) te.size (List.replicate len (wid (X.wz e) te.zero)) (parts? T ps) fun xs ws => alloc1 nid (.hs nid 0 len) (.cells true true te.size xs) ws else .fail
      | none => .fail
    | _ => .fail
  | .load t a => match X.ty t, ev T a with
    | some ti, .ptr id i off => .get id fun
      | .cells _ _ _ xs => match xs[i]? with
        | some x => mDone (partV ti x off)
        | none => .fail
      | _ => .fail
    | some ti, .pp cs => mDone (partV ti cs 0)
    | _, _ => .fail
  | .store t a v => match X.ty t, ev T a, cellsOf (ev T v) with
    | some ti, .ptr id i off, some vc => .get id fun
      | .cells true pure sz xs => match xs[i]? with
        | some x => if vc.length = ti.size ∧ off + ti.size ≤ x.length then
            if pure then pur vc fun vc' ws => if ws.any (·.1 == id) then .fail else .done .undef (ws ++ [(id, .cells true pure sz (xs.set i (splice x off (wid (X.wz t) vc'))))])
            else .done .undef [(id, .cells true pure sz (xs.set i (splice x off vc)))]
          else .fail
        | none => .fail
      | _ => .fail
    | _, _, _ => .fail
  | .nilCheck x => match ev T x with
    | .ptr id i off => live id <| .done (.ptr id i off) []
    | .pp cs => .done (.pp cs) []
    | .fn f cs => .done (.fn f cs) []
    | _ => .fail
  | .binOp op t x y _ => match bin op (ev T x) (ev T y) with
    | some v => .done v []
    | none => boEq P X op t (ev T x) (ev T y)
  | .unOp op _ x => match op, ev T x with
    | .neg, .int k n => .done (.int k (k.wrap (0 - n))) []
    | .not, .bool b => .done (.bool !b) []
    | _, _ => .fail
  | .convert src dst x => match X.ty dst, ev T x with
    | some { kind := .int k, .. }, .int _ n => if (X.ty src).isSome then .done (.int k (k.wrap n)) [] else .fail
    | _, _ => .fail
  | .makeFunc (.func f) first captured => if first.size = 0 ∧ captured.toList.all (fun x => isLeaf (ev T x)) then .done (.fn f (captured.toList.map (ev T))) [] else .fail
  | .makeSlice t l c => match X.ty t, ev T l, ev T c with
    | some { kind := .slice e, .. }, .int .i64 n, .int .i64 m => match X.ty e with
      | some te => if 0 ≤ n ∧ n ≤ m ∧ m ≤ 2 ^ 47 ∧ m * te.bytes ≤ 2 ^ 47 ∧ te.zero.length = te.size ∧ 0 < te.size then
          alloc1 nid (.hs nid 0 n.toNat) (.cells true true te.size (List.replicate n.toNat (wid (X.wz e) te.zero))) [] else .fail
      | none => .fail
    | _, _, _ => .fail
  | .slice t x lo hi none => sliceM X t (ev T x) (lo.map (ev T)) (hi.map (ev T))
  | .fieldAddr s x f => match X.ty s, ev T x with
    | some { kind := .struct fs, .. }, v => match fs[f]?, v with
      | some (off, t), .ptr id i o => if (X.ty t).any (0 < ·.size) then live id <| .done (.ptr id i (o + off)) [] else .fail
      | some (off, t), .pp cs => if (X.ty t).any (0 < ·.size) then .done (.pp (cs.drop off)) [] else .fail
      | _, _ => .fail
    | _, _ => .fail
  | .field s x f => match X.ty s, ev T x with
    | some { kind := .struct fs, .. }, .agg cs => match fs[f]? with
      | some (off, t) => match X.ty t with
        | some ti => mDone (partV ti cs off)
        | none => .fail
      | none => .fail
    | _, _ => .fail
  | .indexAddr t x ix => match X.ty t, ev T x, ev T ix with
    | some { kind := .slice e, .. }, v, .int _ i => match X.ty e, v with
      | some te, .hs id off len => if 0 ≤ i ∧ i < len ∧ 0 < te.size then .get id fun
          | .cells _ _ sz _ => if sz = te.size then .done (.ptr id (off + i.toNat) 0) [] else .fail
          | _ => .fail else .fail
      | some te, .list sz xs => if 0 ≤ i ∧ sz = te.size ∧ 0 < te.size then (match xs[i.toNat]? with
          | some x => .done (.pp x) []
          | none => .fail) else .fail
      | _, _ => .fail
    | some { kind := .array n e, .. }, v, .int _ i => match X.ty e, v with
      | some te, .ptr id j off => if 0 ≤ i ∧ i < n ∧ 0 < te.size then live id <| .done (.ptr id j (off + i.toNat * te.size)) [] else .fail
      | some te, .pp cs => if 0 ≤ i ∧ i < n ∧ 0 < te.size then .done (.pp (cs.drop (i.toNat * te.size))) [] else .fail
      | _, _ => .fail
    | _, _, _ => .fail
  | .index t x ix => match X.ty t, ev T x, ev T ix with
    | some { kind := .array n e, .. }, .agg cs, .int _ i => match X.ty e with
      | some te => if 0 ≤ i ∧ i < n then mDone (partV te cs (i.toNat * te.size)) else .fail
      | none => .fail
    | _, .str s, .int _ i => (match P.underlying t with
      | some .string => if 0 ≤ i ∧ i.toNat < s.size then .done (.int .u8 (byteAt s i.toNat)) [] else .fail
      | _ => .fail)
    | _, _, _ => .fail
  | .extract x i => match ev T x with
    | .tup vs => mDone vs[i]?
    | _ => .fail
  | .call { callee := .builtin .len, args, argTypes } => match args.toList, argTypes.toList with
    | [x], [t] => if (X.ty t).any (fun ti => ti.kind matches .slice _) then lenM (ev T x) (fun n => .done (.int .i64 n) []) else .fail
    | _, _ => .fail
  | .call { callee := .builtin .append, args, argTypes } => match args.toList, argTypes.toList with
    | [s, x], [t, t'] => match X.ty t, X.ty t' with
      | some { kind := .slice e, .. }, some { kind := .slice _, .. } => match X.ty e with
        | some te => appendM te nid (ev T s) (ev T x)
        | none => .fail
      | _, _ => .fail
    | _, _ => .fail
  | .call { callee := .builtin .min, args, .. } => match args.toList.map (ev T) with
    | [.int k x, .int k' y] => if k = k' then .done (.int k (if y < x then y else x)) [] else .fail
    | _ => .fail
  | .call { callee := .builtin .max, args, .. } => match args.toList.map (ev T) with
    | [.int k x, .int k' y] => if k = k' then .done (.int k (if y > x then y else x)) [] else .fail
    | _ => .fail
  | _ => .fail

/-! ### Names of one store told in another one -/
def renLeaf (ρ : Nat → Option Nat) : V → V
  | .hs id off len => match ρ id with
    | some j => .hs j off len
    | none => .undef
  | .ptr id i off => match ρ id with
    | some j => .ptr j i off
    | none => .undef
  | .agg _ => .undef
  | .tup _ => .undef
  | .fn _ (_ :: _) => .undef
  | v => v

def renFn (ρ : Nat → Option Nat) : V → V
  | .fn f cs => .fn f (cs.map (renLeaf ρ))
  | v => renLeaf ρ v

def renA (ρ : Nat → Option Nat) : V → V
  | .agg cs => .agg (cs.map (renFn ρ))
  | v => renFn ρ v

def renV (ρ : Nat → Option Nat) : V → V
  | .tup vs => .tup (vs.map (renA ρ))
  | v => renA ρ v

def renOb (ρ : Nat → Option Nat) : Ob → Ob
  | .cells own false sz xs => .cells own false sz (xs.map (·.map (renFn ρ)))
  | o => o

def idsLeaf : V → List Nat
  | .hs id _ _ => [id]
  | .ptr id _ _ => [id]
  | _ => []

def idsFn : V → List Nat
  | .fn _ cs => cs.flatMap idsLeaf
  | v => idsLeaf v

def idsV : V → List Nat
  | .tup vs => vs.flatMap fun | .agg cs => cs.flatMap idsFn | v => idsFn v
  | .agg cs => cs.flatMap idsFn
  | v => idsFn v

def idsOb : Option Ob → List Nat
  | some (.cells _ false _ xs) => xs.flatMap (·.flatMap idsFn)
  | _ => []

def addNew (l : List Nat) : List Nat → List Nat
  | [] => l
  | x :: xs => addNew (if l.contains x then l else l ++ [x]) xs

/-- What is reached from the first names of a list: the list grows behind while it is read. -/
def reach (σ : Store) : Nat → Nat → List Nat → List Nat
  | 0, _, l => l
  | k + 1, i, l => match l[i]? with
    | none => l
    | some id => reach σ k (i + 1) (addNew l (idsOb σ[id]?))

def atOf (l : List Nat) (id : Nat) : Option Nat := l.idxOf? id

/-- The store without what nothing names: the first m stay where they are. -/
def tidy (m : Nat) (σ : Store) (vs : List V) : List Nat :=
  reach σ (σ.length + 1) 0 (addNew (List.range m) (vs.flatMap idsV))

def tidyStore (l : List Nat) (σ : Store) : Store := l.map fun id => renOb (atOf l) (σ.getD id .vir)

/-! ### Calls -/
structure Imp where
  ids : List Nat
  sn : List (Nat × Ob)

def impId (s : Imp) (id : Nat) : Imp × Nat := match s.ids.idxOf? id with
  | some j => (s, j)
  | none => ({ s with ids := s.ids ++ [id] }, s.ids.length)

def impLeaf (rw : Bool) (s : Imp) (c : V) (k : Imp → V → M) : M :=
  match c with
  | .hs id off len => if rw then k (impId s id).1 (.hs (impId s id).2 off len) else .get id fun
    | .cells own true sz xs => if off + len ≤ xs.length then k (if own then { s with sn := (id, .cells false true sz xs) :: s.sn } else s) (.list sz ((xs.drop off).take len)) else .fail
    | _ => .fail
  | .ptr id i off => k (impId s id).1 (.ptr (impId s id).2 i off)
  | .agg _ | .tup _ => .fail
  | .fn _ (_ :: _) => .fail
  | c => k s c

def impLeafs (rw : Bool) : Imp → List V → (Imp → List V → M) → M
  | s, [], k => k s []
  | s, c :: cs, k => impLeaf rw s c fun s' c' => impLeafs rw s' cs fun s'' cs' => k s'' (c' :: cs')

def impA (rw : Bool) (s : Imp) (v : V) (k : Imp → V → M) : M :=
  match v with
  | .agg cs => impLeafs rw s cs fun s' cs' => k s' (.agg cs')
  | .fn f (c :: cs) => impLeafs true s (c :: cs) fun s' cs' => k s' (.fn f cs')
  | v => impLeaf rw s v k

def impArgs (rw : Nat → Bool) : Nat → Imp → List V → (Imp → List V → M) → M
  | _, s, [], k => k s []
  | j, s, v :: vs, k => impA (rw j) s v fun s' v' => impArgs rw (j + 1) s' vs fun s'' vs' => k s'' (v' :: vs')

def impRows : Imp → List (List V) → (Imp → List (List V) → M) → M
  | s, [], k => k s []
  | s, x :: xs, k => impLeafs true s x fun s' x' => impRows s' xs fun s'' xs' => k s'' (x' :: xs')

def impObs : Nat → Nat → Imp → (Imp → List Ob → M) → M
  | 0, _, _, _ => .fail
  | n + 1, i, s, k => match s.ids[i]? with
    | none => k s []
    | some id => .get id fun
      | .cells own false sz xs => impRows s xs fun s' xs' => impObs n (i + 1) s' fun s'' os => k s'' (.cells own false sz xs' :: os)
      | .cells own true sz xs => impObs n (i + 1) s fun s'' os => k s'' (.cells own true sz xs :: os)
      | .dead => impObs n (i + 1) s fun s'' os => k s'' (.dead :: os)
      | .vir => .fail

def plainV : V → Bool
  | .bool _ | .int _ _ | .str _ | .nilS | .nilP | .nilF | .emp => true
  | _ => false

def plainA : V → Bool
  | .agg cs => cs.all plainV
  | v => plainV v

def scalar : V → Bool
  | .tup vs => vs.all plainA
  | v => plainA v

/-- Reserved names behind nid: cnt of them. -/
def virs : Nat → Nat → (Bool → M) → M
  | _, 0, k => k true
  | nid, n + 1, k => .get nid fun
    | .vir => virs (nid + 1) n k
    | _ => k false

def callM (C : Oracle) (rw : Nat → Bool) (f : Nat) (args : List V) (nid cnt : Nat) : M :=
  impArgs rw 0 ⟨[], []⟩ args fun s args' =>
  impObs 40 0 s fun s obs =>
  match C f args' obs with
  | none => .fail
  | some (r, σ') =>
    if obs.length ≤ σ'.length ∧ σ'.length ≤ obs.length + cnt ∧ s.ids.length = obs.length ∧ s.ids.all (fun id => s.sn.all (·.1 != id)) then
      let ids := s.ids ++ (List.range (σ'.length - obs.length)).map (nid + ·)
      virs nid (σ'.length - obs.length) fun ok =>
      if ok then .done (renV (fun k => ids[k]?) r)
        (if s.ids.isEmpty && scalar r && σ'.isEmpty then [] else s.sn ++ ids.zip (σ'.map (renOb fun k => ids[k]?)))
      else .fail
    else .fail

/-- How many rows and variables an operation may make. -/
def cnt (X : Cx) (o : Oper) : Nat :=
  match o.op with
  | .alloc _ | .box .. | .buildSlice .. | .makeSlice .. => 1
  | .call { callee := .builtin .append, .. } => 1
  | .call { callee := .builtin _, .. } => 0
  | .call _ => match X.ty o.type with
    | some ti => if ti.ptrs then (match ti.kind with | .ptr _ => 5 | _ => ti.zero.countP (fun | .nilS | .nilP => true | _ => false)) else 0
    | none => 3
  | _ => 0

def opM (P : Program) (X : Cx) (C : Oracle) (T : List V) (nid : Nat) (o : Oper) : M :=
  match o.op with
  | .call { callee := .value f, args, .. } => match ev T f with
    | .fn g caps => if (X.fn g).isSome then callM C (X.rw g) g (args.toList.map (ev T) ++ caps) nid (cnt X o) else .fail
    | _ => .fail
  | _ => op1 P X T nid o
end Go.VM
