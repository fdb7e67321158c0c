/- The machine over plain values as a tree of its decisions: a path through it is computed without deciding anything, and says what it leant on. No condition beyond those stated. -/
import Derived.Test.YtifalphladcdcaaGreatVmAL
set_option linter.unusedVariables false
set_option linter.unusedSimpArgs false
namespace Go.VM

inductive DT (α : Type) where
  | none
  | ret (a : α)
  | test (c : Bool) (t e : DT α)
  | look (e : Nat) (o : Option (List V)) (k : List V → DT α)
  | ask (o : Option (V × Store)) (k : V × Store → DT α)
  | cut (w : Nat) (s : S) (o : Option (VX × S)) (k : VX × S → DT α)
  | mark (s : S) (k : S → DT α)
  | feet (fs : List Foot) (k : List Foot → DT α)

namespace DT
variable {α β : Type}
def run : DT α → Option α
  | .none => Option.none
  | .ret a => some a
  | .test c t e => match c with
    | true => t.run
    | false => e.run
  | .look _ o k => match o with
    | some x => (k x).run
    | Option.none => Option.none
  | .ask o k => match o with
    | some x => (k x).run
    | Option.none => Option.none
  | .cut _ _ o k => match o with
    | some x => (k x).run
    | Option.none => Option.none
  | .mark s k => (k s).run
  | .feet fs k => (k fs).run
def bind : DT α → (α → DT β) → DT β
  | .none, _ => .none
  | .ret a, k => k a
  | .test c t e, k => .test c (t.bind k) (e.bind k)
  | .look e o f, k => .look e o fun x => (f x).bind k
  | .ask o f, k => .ask o fun x => (f x).bind k
  | .cut w s o f, k => .cut w s o fun x => (f x).bind k
  | .mark s f, k => .mark s fun x => (f x).bind k
  | .feet s f, k => .feet s fun x => (f x).bind k
theorem run_bind (d : DT α) (k : α → DT β) : (d.bind k).run = d.run.bind fun a => (k a).run := by
  induction d with
  | none => rfl
  | ret a => rfl
  | test c t e h1 h2 => cases c <;> simp only [bind, run, h1, h2]
  | look e o f h => cases o <;> simp only [bind, run, h, Option.bind_none]
  | ask o f h => cases o <;> simp only [bind, run, h, Option.bind_none]
  | cut w s o f h => cases o <;> simp only [bind, run, h, Option.bind_none]
  | mark s f h => simp only [bind, run, h]
  | feet s f h => simp only [bind, run, h]
end DT

/-- What is guessed at a decision: a truth value, an element, a call's answer; or nothing, where it can be computed. -/
inductive G where
  | t
  | f
  | a
  | el (x : List V)
  | an (r : V) (σ : Store)
  | lp (x : VX) (s : S)
  | ft (fs : List Foot)

def andP {α : Type} (p : Prop) : Option (α × Prop) → Option (α × Prop)
  | some (a, q) => some (a, p ∧ q)
  | none => none

/-- The guess at a decision, and those behind it; where none is left, it can be computed. -/
def headG : List G → G
  | [] => .a
  | g :: _ => g
def tailG : List G → List G
  | [] => []
  | _ :: gs => gs

def path {α : Type} : List G → DT α → Option (α × Prop)
  | _, .none => none
  | _, .ret a => some (a, True)
  | gs, .test c t e => match headG gs with
    | .t => andP (c = true) (path (tailG gs) t)
    | .f => andP (c = false) (path (tailG gs) e)
    | .a => match c with
      | true => path (tailG gs) t
      | false => path (tailG gs) e
    | _ => none
  | gs, .look _ o k => match headG gs with
    | .el x => andP (o = some x) (path (tailG gs) (k x))
    | .a => match o with
      | some x => path (tailG gs) (k x)
      | none => none
    | _ => none
  | gs, .ask o k => match headG gs with
    | .an r σ => andP (o = some (r, σ)) (path (tailG gs) (k (r, σ)))
    | .a => match o with
      | some x => path (tailG gs) (k x)
      | none => none
    | _ => none
  | gs, .cut _ _ o k => match headG gs with
    | .lp x s => andP (o = some (x, s)) (path (tailG gs) (k (x, s)))
    | .a => match o with
      | some x => path (tailG gs) (k x)
      | none => none
    | _ => none
  | gs, .mark s k => path gs (k s)
  | gs, .feet fs k => match headG gs with
    | .ft fs' => andP (fs = fs') (path (tailG gs) (k fs'))
    | _ => path (tailG gs) (k fs)

theorem andP_some {α : Type} {p : Prop} {o : Option (α × Prop)} {a : α} {q : Prop} (h : andP p o = some (a, q)) : ∃ q', o = some (a, q') ∧ q = (p ∧ q') := by
  unfold andP at h
  split at h
  · cases h; exact ⟨_, rfl, rfl⟩
  · cases h

theorem path_run {α : Type} (d : DT α) : ∀ {gs : List G} {a : α} {q : Prop}, path gs d = some (a, q) → q → d.run = some a := by
  induction d with
  | none => intro gs a q h; simp [path] at h
  | ret a => intro gs b q h _; simp [path] at h; simp [DT.run, h.1]
  | test c t e h1 h2 =>
    intro gs a q h hq
    unfold path at h
    split at h
    · obtain ⟨q', h', rfl⟩ := andP_some h; obtain ⟨rfl, hq'⟩ := hq; exact h1 h' hq'
    · obtain ⟨q', h', rfl⟩ := andP_some h; obtain ⟨rfl, hq'⟩ := hq; exact h2 h' hq'
    · cases c with
      | true => exact h1 h hq
      | false => exact h2 h hq
    · cases h
  | look e o k ih =>
    intro gs a q h hq
    unfold path at h
    split at h
    · obtain ⟨q', h', rfl⟩ := andP_some h; obtain ⟨rfl, hq'⟩ := hq; exact ih _ h' hq'
    · cases o with
      | some x => exact ih x h hq
      | none => simp at h
    · cases h
  | ask o k ih =>
    intro gs a q h hq
    unfold path at h
    split at h
    · obtain ⟨q', h', rfl⟩ := andP_some h; obtain ⟨rfl, hq'⟩ := hq; exact ih _ h' hq'
    · cases o with
      | some x => exact ih x h hq
      | none => simp at h
    · cases h
  | cut w s o k ih =>
    intro gs a q h hq
    unfold path at h
    split at h
    · obtain ⟨q', h', rfl⟩ := andP_some h; obtain ⟨rfl, hq'⟩ := hq; exact ih _ h' hq'
    · cases o with
      | some x => exact ih x h hq
      | none => simp at h
    · cases h
  | mark s k ih =>
    intro gs a q h hq
    exact ih s h hq
  | feet fs k ih =>
    intro gs a q h hq
    unfold path at h
    split at h
    · obtain ⟨q', h', rfl⟩ := andP_some h; obtain ⟨rfl, hq'⟩ := hq; exact ih _ h' hq'
    · exact ih fs h hq

abbrev Ans := V × List (Nat × Ob) × List Nat

def ofM (m : M) (σ : Store) : DT Ans := match m.run σ with
  | some (v, ws) => .ret (v, ws, m.reads σ)
  | none => .none

def full (m : M) (σ : Store) : Option Ans := match m.run σ with
  | some (v, ws) => some (v, ws, m.reads σ)
  | none => none

theorem ofM_run (m : M) (σ : Store) : (ofM m σ).run = full m σ := by
  unfold ofM full; split <;> rfl

/-! ### Calls: what is handed over -/
def probe (rw : Nat → Bool) (args : List V) : M :=
  impArgs rw 0 ⟨[], []⟩ args fun s a => impObs 40 0 s fun _ obs => .done (.tup a) (obs.map fun o => (0, o))

/-- A step that looks, and goes on with one thing. -/
def Thr {β : Type} (σ : Store) (F : (Imp → β → M) → M) : Prop :=
  (∀ k, (F k).run σ = none) ∨ ∃ (s : Imp) (b : β) (pre : List Nat), ∀ k, (F k).run σ = (k s b).run σ ∧ (F k).reads σ = pre ++ (k s b).reads σ

theorem Thr.bind {β γ : Type} {σ : Store} {F : (Imp → β → M) → M} {J : Imp → β → (Imp → γ → M) → M} (h : Thr σ F) (hj : ∀ s b, Thr σ (J s b)) : Thr σ fun k => F fun s b => J s b k := by
  rcases h with h | ⟨s, b, pre, h⟩
  · exact .inl fun k => h _
  · rcases hj s b with h' | ⟨s', b', pre', h'⟩
    · exact .inl fun k => by rw [(h _).1, h' k]
    · exact .inr ⟨s', b', pre ++ pre', fun k => ⟨by rw [(h _).1, (h' k).1], by rw [(h _).2, (h' k).2, List.append_assoc]⟩⟩
theorem Thr.pure {β : Type} {σ : Store} (s : Imp) (b : β) : Thr σ fun k => k s b := .inr ⟨s, b, [], fun _ => ⟨rfl, rfl⟩⟩
theorem Thr.fail {β : Type} {σ : Store} : Thr (β := β) σ fun _ => M.fail := .inl fun _ => rfl
theorem Thr.get {β : Type} {σ : Store} (id : Nat) {J : Ob → (Imp → β → M) → M} (hj : ∀ o, σ[id]? = some o → Thr σ (J o)) : Thr σ fun k => M.get id fun o => J o k := by
  cases ho : σ[id]? with
  | none => exact .inl fun k => by simp [M.run, ho]
  | some o => rcases hj o ho with h | ⟨s, b, pre, h⟩
              · exact .inl fun k => by simp [M.run, ho, h k]
              · exact .inr ⟨s, b, id :: pre, fun k => by simp [M.run, M.reads, ho, (h k).1, (h k).2]⟩

theorem thr_impLeaf (σ : Store) (rw' : Bool) (s : Imp) (c : V) : Thr σ (impLeaf rw' s c) := by
  cases c with
  | hs id off len =>
    show Thr σ fun k => impLeaf rw' s (.hs id off len) k
    simp only [impLeaf]
    cases rw' with
    | true => exact .pure _ _
    | false =>
      refine Thr.get id (J := fun o k => _) fun o _ => ?_
      cases o with
      | cells own pure sz xs =>
        cases pure with
        | true =>
          show Thr σ fun k => if off + len ≤ xs.length then _ else M.fail
          by_cases hl : off + len ≤ xs.length
          · simp only [hl, if_true]; exact .pure _ _
          · simp only [hl, if_false]; exact .fail
        | false => exact .fail
      | vir => exact .fail
      | dead => exact .fail
  | ptr id i off => exact .pure _ _
  | agg cs => exact .fail
  | tup vs => exact .fail
  | fn f cs => cases cs with
    | nil => exact .pure _ _
    | cons c cs => exact .fail
  | _ => exact .pure _ _

theorem thr_impLeafs (σ : Store) (rw' : Bool) : ∀ (cs : List V) (s : Imp), Thr σ (impLeafs rw' s cs)
  | [], s => .pure s []
  | c :: cs, s => by
    show Thr σ fun k => impLeaf rw' s c fun s' c' => impLeafs rw' s' cs fun s'' cs' => k s'' (c' :: cs')
    exact (thr_impLeaf σ rw' s c).bind (J := fun s' c' k => impLeafs rw' s' cs fun s'' cs' => k s'' (c' :: cs')) fun s' c' =>
      (thr_impLeafs σ rw' cs s').bind (J := fun s'' cs' k => k s'' (c' :: cs')) fun s'' cs' => .pure _ _

theorem thr_impA (σ : Store) (rw' : Bool) (s : Imp) (v : V) : Thr σ (impA rw' s v) := by
  cases v with
  | agg cs => exact (thr_impLeafs σ rw' cs s).bind (J := fun s' cs' k => k s' (V.agg cs')) fun s' cs' => .pure _ _
  | fn f cs => cases cs with
    | nil => exact thr_impLeaf σ rw' s (.fn f [])
    | cons c cs => exact (thr_impLeafs σ true (c :: cs) s).bind (J := fun s' cs' k => k s' (V.fn f cs')) fun s' cs' => .pure _ _
  | undef => exact thr_impLeaf σ rw' s .undef
  | bool b => exact thr_impLeaf σ rw' s (.bool b)
  | int k n => exact thr_impLeaf σ rw' s (.int k n)
  | str b => exact thr_impLeaf σ rw' s (.str b)
  | nilS => exact thr_impLeaf σ rw' s .nilS
  | emp => exact thr_impLeaf σ rw' s .emp
  | ne => exact thr_impLeaf σ rw' s .ne
  | list sz xs => exact thr_impLeaf σ rw' s (.list sz xs)
  | hs a b c => exact thr_impLeaf σ rw' s (.hs a b c)
  | nilP => exact thr_impLeaf σ rw' s .nilP
  | ptr a b c => exact thr_impLeaf σ rw' s (.ptr a b c)
  | pp cs => exact thr_impLeaf σ rw' s (.pp cs)
  | nilF => exact thr_impLeaf σ rw' s .nilF
  | tup vs => exact thr_impLeaf σ rw' s (.tup vs)

theorem thr_impArgs (σ : Store) (rw' : Nat → Bool) : ∀ (vs : List V) (j : Nat) (s : Imp), Thr σ (impArgs rw' j s vs)
  | [], _, s => .pure s []
  | v :: vs, j, s => (thr_impA σ (rw' j) s v).bind (J := fun s' v' k => impArgs rw' (j + 1) s' vs fun s'' vs' => k s'' (v' :: vs')) fun s' v' =>
      (thr_impArgs σ rw' vs (j + 1) s').bind (J := fun s'' vs' k => k s'' (v' :: vs')) fun s'' vs' => .pure _ _

theorem thr_impRows (σ : Store) : ∀ (xs : List (List V)) (s : Imp), Thr σ (impRows s xs)
  | [], s => .pure s []
  | x :: xs, s => (thr_impLeafs σ true x s).bind (J := fun s' x' k => impRows s' xs fun s'' xs' => k s'' (x' :: xs')) fun s' x' =>
      (thr_impRows σ xs s').bind (J := fun s'' xs' k => k s'' (x' :: xs')) fun s'' xs' => .pure _ _

theorem thr_impObs (σ : Store) : ∀ (n i : Nat) (s : Imp), Thr σ (impObs n i s)
  | 0, _, _ => .fail
  | n + 1, i, s => by
    show Thr σ fun k => impObs (n + 1) i s k
    simp only [impObs]
    cases hi : s.ids[i]? with
    | none => exact .pure _ _
    | some id =>
      refine Thr.get id (J := fun o k => _) fun o _ => ?_
      cases o with
      | vir => exact .fail
      | dead => exact (thr_impObs σ n (i + 1) s).bind (J := fun s'' os k => k s'' (.dead :: os)) fun s'' os => .pure _ _
      | cells own pure sz xs => cases pure with
        | true => exact (thr_impObs σ n (i + 1) s).bind (J := fun s'' os k => k s'' (.cells own true sz xs :: os)) fun s'' os => .pure _ _
        | false => exact (thr_impRows σ xs s).bind (J := fun s' xs' k => impObs n (i + 1) s' fun s'' os => k s'' (.cells own false sz xs' :: os)) fun s' xs' =>
            (thr_impObs σ n (i + 1) s').bind (J := fun s'' os k => k s'' (.cells own false sz xs' :: os)) fun s'' os => .pure _ _

/-! ### The same as a tree: whether a cut fits its row is a decision -/
/-- What a tree says of a step that looks and goes on. -/
def Says {β : Type} (σ : Store) (d : DT (Imp × β × List Nat)) (F : (Imp → β → M) → M) : Prop :=
  ∀ s b pre, d.run = some (s, b, pre) → ∀ k, (F k).run σ = (k s b).run σ ∧ (F k).reads σ = pre ++ (k s b).reads σ

def DT.thenT {β γ : Type} (d : DT (Imp × β × List Nat)) (j : Imp → β → DT (Imp × γ × List Nat)) : DT (Imp × γ × List Nat) :=
  d.bind fun x => (j x.1 x.2.1).bind fun y => .ret (y.1, y.2.1, x.2.2 ++ y.2.2)

theorem Says.bind {β γ : Type} {σ : Store} {d : DT (Imp × β × List Nat)} {F : (Imp → β → M) → M} {j : Imp → β → DT (Imp × γ × List Nat)} {J : Imp → β → (Imp → γ → M) → M}
    (h : Says σ d F) (hj : ∀ s b, Says σ (j s b) (J s b)) : Says σ (d.thenT j) fun k => F fun s b => J s b k := by
  intro s b pre hr k
  unfold DT.thenT at hr
  rw [DT.run_bind] at hr
  cases hd : d.run with
  | none => rw [hd] at hr; cases hr
  | some x =>
    obtain ⟨s1, b1, p1⟩ := x
    rw [hd] at hr
    simp only [Option.bind_some, DT.run_bind] at hr
    cases hd2 : (j s1 b1).run with
    | none => rw [hd2] at hr; cases hr
    | some y =>
      obtain ⟨s2, b2, p2⟩ := y
      rw [hd2] at hr
      simp only [Option.bind_some, DT.run, Option.some.injEq, Prod.mk.injEq] at hr
      obtain ⟨rfl, rfl, rfl⟩ := hr
      have e1 := h _ _ _ hd fun s b => J s b k
      have e2 := hj s1 b1 _ _ _ hd2 k
      exact ⟨by rw [e1.1, e2.1], by rw [e1.2, e2.2, List.append_assoc]⟩
theorem Says.pure {β : Type} {σ : Store} (s : Imp) (b : β) : Says σ (.ret (s, b, [])) fun k => k s b := by
  intro s' b' pre h k
  simp only [DT.run, Option.some.injEq, Prod.mk.injEq] at h
  obtain ⟨rfl, rfl, rfl⟩ := h
  exact ⟨rfl, rfl⟩
theorem Says.none {β : Type} {σ : Store} (F : (Imp → β → M) → M) : Says σ .none F := fun s b pre h => by simp [DT.run] at h
theorem Says.get {β : Type} {σ : Store} {id : Nat} {o : Ob} (ho : σ[id]? = some o) {d : DT (Imp × β × List Nat)} {J : Ob → (Imp → β → M) → M} (h : Says σ d (J o)) :
    Says σ (d.bind fun x => .ret (x.1, x.2.1, id :: x.2.2)) fun k => M.get id fun o => J o k := by
  intro s b pre hr k
  rw [DT.run_bind] at hr
  cases hd : d.run with
  | none => rw [hd] at hr; cases hr
  | some x =>
    obtain ⟨s1, b1, p1⟩ := x
    rw [hd] at hr
    simp only [Option.bind_some, DT.run, Option.some.injEq, Prod.mk.injEq] at hr
    obtain ⟨rfl, rfl, rfl⟩ := hr
    have e := h _ _ _ hd k
    exact ⟨by simp only [M.run, ho]; exact e.1, by simp only [M.reads, ho]; rw [e.2]; rfl⟩

def impLeafT (σ : Store) (rw : Bool) (s : Imp) (c : V) : DT (Imp × V × List Nat) :=
  match c with
  | .hs id off len => match rw with
    | true => .ret ((impId s id).1, .hs (impId s id).2 off len, [])
    | false => match σ[id]? with
      | some (.cells own true sz xs) => (DT.test (decide (off + len ≤ xs.length)) (.ret ((if own then { s with sn := (id, .cells false true sz xs) :: s.sn } else s), .list sz ((xs.drop off).take len), [])) .none).bind fun x => .ret (x.1, x.2.1, id :: x.2.2)
      | _ => .none
  | .ptr id i off => .ret ((impId s id).1, .ptr (impId s id).2 i off, [])
  | .agg _ | .tup _ => .none
  | .fn _ (_ :: _) => .none
  | c => .ret (s, c, [])

theorem says_impLeaf (σ : Store) (rw' : Bool) (s : Imp) (c : V) : Says σ (impLeafT σ rw' s c) (impLeaf rw' s c) := by
  cases c with
  | hs id off len =>
    cases rw' with
    | true => exact .pure _ _
    | false =>
      show Says σ (match σ[id]? with
        | some (.cells own true sz xs) => (DT.test (decide (off + len ≤ xs.length)) (.ret ((if own then { s with sn := (id, .cells false true sz xs) :: s.sn } else s), V.list sz ((xs.drop off).take len), [])) .none).bind fun x => .ret (x.1, x.2.1, id :: x.2.2)
        | _ => .none) fun k => impLeaf false s (.hs id off len) k
      split
      · rename_i own sz xs ho
        simp only [impLeaf, Bool.false_eq_true, if_false]
        refine Says.get ho (J := fun o k => match o with
          | .cells own true sz xs => if off + len ≤ xs.length then k (if own then { s with sn := (id, .cells false true sz xs) :: s.sn } else s) (V.list sz ((xs.drop off).take len)) else M.fail
          | _ => M.fail) ?_
        intro s' b pre h k
        simp only [DT.run] at h
        split at h
        · rename_i hb
          simp only [of_decide_eq_true hb, if_true]
          simp only [Option.some.injEq, Prod.mk.injEq] at h
          obtain ⟨rfl, rfl, rfl⟩ := h
          exact ⟨rfl, rfl⟩
        · cases h
      · exact .none _
  | ptr id i off => exact .pure _ _
  | agg cs => exact .none _
  | tup vs => exact .none _
  | fn f cs => cases cs with
    | nil => exact .pure _ _
    | cons c cs => exact .none _
  | _ => exact .pure _ _

def impLeafsT (σ : Store) (rw : Bool) : Imp → List V → DT (Imp × List V × List Nat)
  | s, [] => .ret (s, [], [])
  | s, c :: cs => (impLeafT σ rw s c).thenT fun s' c' => (impLeafsT σ rw s' cs).thenT fun s'' cs' => .ret (s'', c' :: cs', [])

theorem says_impLeafs (σ : Store) (rw' : Bool) : ∀ (cs : List V) (s : Imp), Says σ (impLeafsT σ rw' s cs) (impLeafs rw' s cs)
  | [], s => .pure s []
  | c :: cs, s => (says_impLeaf σ rw' s c).bind (J := fun s' c' k => impLeafs rw' s' cs fun s'' cs' => k s'' (c' :: cs')) fun s' c' =>
      (says_impLeafs σ rw' cs s').bind (J := fun s'' cs' k => k s'' (c' :: cs')) fun s'' cs' => .pure _ _

def impAT (σ : Store) (rw : Bool) (s : Imp) (v : V) : DT (Imp × V × List Nat) :=
  match v with
  | .agg cs => (impLeafsT σ rw s cs).thenT fun s' cs' => .ret (s', .agg cs', [])
  | .fn f (c :: cs) => (impLeafsT σ true s (c :: cs)).thenT fun s' cs' => .ret (s', .fn f cs', [])
  | v => impLeafT σ rw s v

theorem says_impA (σ : Store) (rw' : Bool) (s : Imp) (v : V) : Says σ (impAT σ rw' s v) (impA rw' s v) := by
  cases v with
  | agg cs => exact (says_impLeafs σ rw' cs s).bind (J := fun s' cs' k => k s' (V.agg cs')) fun s' cs' => .pure _ _
  | fn f cs => cases cs with
    | nil => exact says_impLeaf σ rw' s (.fn f [])
    | cons c cs => exact (says_impLeafs σ true (c :: cs) s).bind (J := fun s' cs' k => k s' (V.fn f cs')) fun s' cs' => .pure _ _
  | undef => exact says_impLeaf σ rw' s .undef
  | bool b => exact says_impLeaf σ rw' s (.bool b)
  | int k n => exact says_impLeaf σ rw' s (.int k n)
  | str b => exact says_impLeaf σ rw' s (.str b)
  | nilS => exact says_impLeaf σ rw' s .nilS
  | emp => exact says_impLeaf σ rw' s .emp
  | ne => exact says_impLeaf σ rw' s .ne
  | list sz xs => exact says_impLeaf σ rw' s (.list sz xs)
  | hs a b c => exact says_impLeaf σ rw' s (.hs a b c)
  | nilP => exact says_impLeaf σ rw' s .nilP
  | ptr a b c => exact says_impLeaf σ rw' s (.ptr a b c)
  | pp cs => exact says_impLeaf σ rw' s (.pp cs)
  | nilF => exact says_impLeaf σ rw' s .nilF
  | tup vs => exact says_impLeaf σ rw' s (.tup vs)

def impArgsT (σ : Store) (rw : Nat → Bool) : Nat → Imp → List V → DT (Imp × List V × List Nat)
  | _, s, [] => .ret (s, [], [])
  | j, s, v :: vs => (impAT σ (rw j) s v).thenT fun s' v' => (impArgsT σ rw (j + 1) s' vs).thenT fun s'' vs' => .ret (s'', v' :: vs', [])

theorem says_impArgs (σ : Store) (rw' : Nat → Bool) : ∀ (vs : List V) (j : Nat) (s : Imp), Says σ (impArgsT σ rw' j s vs) (impArgs rw' j s vs)
  | [], _, s => .pure s []
  | v :: vs, j, s => (says_impA σ (rw' j) s v).bind (J := fun s' v' k => impArgs rw' (j + 1) s' vs fun s'' vs' => k s'' (v' :: vs')) fun s' v' =>
      (says_impArgs σ rw' vs (j + 1) s').bind (J := fun s'' vs' k => k s'' (v' :: vs')) fun s'' vs' => .pure _ _

/-- .. and then the rows and variables behind the names. -/
def obsM (s : Imp) (a : List V) : M := impObs 40 0 s fun _ obs => .done (.tup a) (obs.map fun o => (0, o))
end Go.VM
