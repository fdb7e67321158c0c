/- The machine over plain values: what it has to do with the model's memory. No condition beyond those stated. -/
import Derived.Test.YtifalphladcdcaaGreatVmC
set_option linter.unusedVariables false
set_option linter.unusedSimpArgs false
namespace Go.VM

/-- A value that is read by its list: its cells lie in blocks that nobody writes any more. -/
inductive PR (Γ : Nat → Prop) (H : Array Obj) : V → Value → Prop where
  | undef (v) (h : v.oneCell' = true) : PR Γ H .undef v
  | bool (b) : PR Γ H (.bool b) (.bool b)
  | int (k n) : PR Γ H (.int k n) (.int k n)
  | str (s) : PR Γ H (.str s) (.string s)
  | nilS : PR Γ H .nilS (.slice none 0 0)
  | emp (a) : PR Γ H .emp (.slice a 0 0)
  | ne (a cap) : PR Γ H .ne (.slice (some a) 0 cap)
  | nilP : PR Γ H .nilP (.pointer none)
  | nilF : PR Γ H .nilF .nilFunc
  | fn (f) : PR Γ H (.fn f []) (.func (.func f) #[] #[])
  | list0 (sz a cap) (h : a = none → cap = 0) : PR Γ H (.list sz []) (.slice a 0 cap)
  | list (sz xs blk off cap) (cells : Array Value) (T fz) (vals : List Value) (hx : ∀ x ∈ xs, x.length = sz) (hcap : xs.length ≤ cap)
      (hO : Γ blk) (hb : H[blk]? = some (.cells cells T fz)) (hlen : vals.length = xs.length * sz)
      (hcell : ∀ k, k < vals.length → cells[off + k]? = vals[k]?)
      (hp : ∀ (k : Nat) (c : V) (v : Value), xs.flatten[k]? = some c → vals[k]? = some v → PR Γ H c v) :
      PR Γ H (.list sz xs) (.slice (some ⟨blk, off, none⟩) xs.length cap)
  | pp (cs blk off) (cells : Array Value) (T fz) (vals : List Value) (hO : Γ blk) (hb : H[blk]? = some (.cells cells T fz)) (hlen : vals.length = cs.length)
      (hcell : ∀ k, k < vals.length → cells[off + k]? = vals[k]?)
      (hp : ∀ (k : Nat) (c : V) (v : Value), cs[k]? = some c → vals[k]? = some v → PR Γ H c v) :
      PR Γ H (.pp cs) (.pointer (some ⟨blk, off, none⟩))

theorem PR.mono {Γ Γ' : Nat → Prop} {H H' : Array Obj} (h : ∀ b, Γ b → Γ' b ∧ H'[b]? = H[b]?) {c : V} {v : Value} (hp : PR Γ H c v) : PR Γ' H' c v := by
  induction hp with
  | undef v h => exact .undef v h
  | bool b => exact .bool b
  | int k n => exact .int k n
  | str s => exact .str s
  | nilS => exact .nilS
  | emp a => exact .emp a
  | ne a cap => exact .ne a cap
  | nilP => exact .nilP
  | nilF => exact .nilF
  | fn f => exact .fn f
  | list0 sz a cap h => exact .list0 sz a cap h
  | list sz xs blk off cap cells T fz vals hx hcap hO hb hlen hcell hp ih =>
    exact .list sz xs blk off cap cells T fz vals hx hcap (h _ hO).1 (by rw [(h _ hO).2]; exact hb) hlen hcell ih
  | pp cs blk off cells T fz vals hO hb hlen hcell hp ih =>
    exact .pp cs blk off cells T fz vals (h _ hO).1 (by rw [(h _ hO).2]; exact hb) hlen hcell ih

/-- What no operation of these turns. -/
structure Kept (w w' : World) : Prop where
  os : w'.os = w.os
  tape : w'.tape = w.tape
  output : w'.output = w.output
theorem Kept.refl (w : World) : Kept w w := ⟨rfl, rfl, rfl⟩
theorem Kept.trans {a b c : World} (h : Kept a b) (h' : Kept b c) : Kept a c := ⟨h'.os.trans h.os, h'.tape.trans h.tape, h'.output.trans h.output⟩

/-- Where a row or variable of the call's own lies. -/
inductive Slot where
  | vir
  | dead
  | live (blk base sz tot : Nat) (own : Bool)

abbrev Dir := List Slot

/-- A cell's value: names are read by the directory. -/
inductive LR (D : Dir) (Γ : Nat → Prop) (H : Array Obj) : V → Value → Prop where
  | pr {c v} (h : PR Γ H c v) : LR D Γ H c v
  | hsDead {id off len v} (h : D[id]? = some .dead) (h1 : v.oneCell' = true) : LR D Γ H (.hs id off len) v
  | hs {id off len blk base sz tot own a cap} (h : D[id]? = some (.live blk base sz tot own)) (hlen : len ≤ cap) (ht : cap ≠ 0 → a = some ⟨blk, base + off * sz, none⟩ ∧ base + (off + cap) * sz ≤ tot) :
      LR D Γ H (.hs id off len) (.slice a len cap)
  | ptrDead {id i off v} (h : D[id]? = some .dead) (h1 : v.oneCell' = true) : LR D Γ H (.ptr id i off) v
  | ptr {id i off blk base sz tot own} (h : D[id]? = some (.live blk base sz tot own)) : LR D Γ H (.ptr id i off) (.pointer (some ⟨blk, base + i * sz + off, none⟩))
  | fn {f cs} (arr : Array Value) (hl : arr.size = cs.length) (h : ∀ (k : Nat) (c : V) (v : Value), cs[k]? = some c → arr[k]? = some v → LR D Γ H c v) : LR D Γ H (.fn f cs) (.func (.func f) #[] arr)

inductive AR (D : Dir) (Γ : Nat → Prop) (H : Array Obj) : V → Value → Prop where
  | any (v) : AR D Γ H .undef v
  | leaf {c v} (h : LR D Γ H c v) : AR D Γ H c v
  | agg {cs} (arr : Array Value) (hl : arr.size = cs.length) (h : ∀ (k : Nat) (c : V) (v : Value), cs[k]? = some c → arr[k]? = some v → LR D Γ H c v) : AR D Γ H (.agg cs) (.agg arr)

inductive VR (D : Dir) (Γ : Nat → Prop) (H : Array Obj) : V → Value → Prop where
  | one {c v} (h : AR D Γ H c v) : VR D Γ H c v
  | tup {cs} (arr : Array Value) (hl : arr.size = cs.length) (h : ∀ (k : Nat) (c : V) (v : Value), cs[k]? = some c → arr[k]? = some v → AR D Γ H c v) : VR D Γ H (.tup cs) (.tuple arr)

def ownB (D : Dir) (b : Nat) : Prop := ∃ i base sz tot : Nat, D[i]? = some (Slot.live b base sz tot true) ∧ 0 < tot

/-- The cells of one row or variable. -/
def OR (D : Dir) (Γ : Nat → Prop) (H : Array Obj) (blk base tot : Nat) (own pure : Bool) (sz : Nat) (xs : List (List V)) : Prop :=
  (∀ x ∈ xs, x.length = sz) ∧
  ((tot = 0 ∧ xs = []) ∨ (0 < tot ∧ ∃ cells T fz, H[blk]? = some (.cells cells T fz) ∧ cells.size = tot ∧ (own = true → fz = (0, 0)) ∧ base + xs.length * sz ≤ tot ∧
    (∀ (k : Nat) (c : V), xs.flatten[k]? = some c → ∃ v, cells[base + k]? = some v ∧ if pure then PR Γ H c v else LR D Γ H c v) ∧
    (own = true → ¬ Γ blk) ∧ (own = false → Γ blk)))

structure SR (D : Dir) (Γ : Nat → Prop) (σ : Store) (H : Array Obj) : Prop where
  len : D.length = σ.length
  ob : ∀ i : Nat, (σ[i]? = none ∧ D[i]? = none) ∨ (σ[i]? = some .vir ∧ D[i]? = some .vir) ∨ (σ[i]? = some .dead ∧ D[i]? = some .dead) ∨
    ∃ (own pure : Bool) (sz : Nat) (xs : List (List V)) (blk base tot : Nat), σ[i]? = some (.cells own pure sz xs) ∧ D[i]? = some (.live blk base sz tot own) ∧ OR D Γ H blk base tot own pure sz xs
  apart : ∀ i j b base sz tot base' sz' tot' : Nat, D[i]? = some (.live b base sz tot true) → D[j]? = some (.live b base' sz' tot' true) → 0 < tot → 0 < tot' → i = j
  there : ∀ b, Γ b → b < H.size

def slotLe : Slot → Slot → Prop
  | .vir, _ => True
  | .dead, s => s = .dead
  | .live blk base sz tot own, s => s = .dead ∨ s = .live blk base sz tot own ∨ s = .live blk base sz tot false

structure Ext (D : Dir) (Γ : Nat → Prop) (H : Array Obj) (D' : Dir) (Γ' : Nat → Prop) (H' : Array Obj) : Prop where
  slot : ∀ (i : Nat) (s : Slot), D[i]? = some s → ∃ s' : Slot, D'[i]? = some s' ∧ slotLe s s'
  size : H.size ≤ H'.size
  same : ∀ b, b < H.size → ¬ ownB D b → H'[b]? = H[b]?
  keep : ∀ b, Γ b → Γ' b
  own : ∀ b, ownB D' b → ownB D b ∨ H.size ≤ b
  grow : ∀ b, Γ' b → Γ b ∨ ownB D b ∨ H.size ≤ b

theorem slotLe_refl (s : Slot) : slotLe s s := by cases s <;> simp [slotLe]

theorem Ext.refl (D : Dir) (Γ : Nat → Prop) (H : Array Obj) : Ext D Γ H D Γ H :=
  ⟨fun _ s h => ⟨s, h, slotLe_refl s⟩, Nat.le_refl _, fun _ _ _ => rfl, fun _ h => h, fun _ h => .inl h, fun _ h => .inl h⟩

theorem slotLe_trans {a b c : Slot} (ha : a ≠ .vir) (h : slotLe a b) (h' : slotLe b c) : slotLe a c := by
  cases a with
  | vir => exact absurd rfl ha
  | dead => simp only [slotLe] at h; subst h; exact h'
  | live blk base sz tot own =>
    simp only [slotLe] at h
    rcases h with rfl | rfl | rfl
    · simp only [slotLe] at h'; exact .inl h'
    · exact h'
    · simp only [slotLe] at h' ⊢; rcases h' with h' | h' | h'
      · exact .inl h'
      · exact .inr (.inr h')
      · exact .inr (.inr h')

theorem Ext.trans {D D' D'' : Dir} {Γ Γ' Γ'' : Nat → Prop} {H H' H'' : Array Obj} (h : Ext D Γ H D' Γ' H') (h' : Ext D' Γ' H' D'' Γ'' H'') : Ext D Γ H D'' Γ'' H'' where
  slot i s hs := by
    obtain ⟨s', h1, h2⟩ := h.slot i s hs
    obtain ⟨s'', h3, h4⟩ := h'.slot i s' h1
    refine ⟨s'', h3, ?_⟩
    by_cases hv : s = .vir
    · subst hv; trivial
    · exact slotLe_trans hv h2 h4
  size := Nat.le_trans h.size h'.size
  same b hb hn := by
    rw [h'.same b (Nat.lt_of_lt_of_le hb h.size) (fun ho => (h.own b ho).elim hn (fun hl => by omega)), h.same b hb hn]
  keep b hb := h'.keep b (h.keep b hb)
  own b hb := by
    rcases h'.own b hb with h1 | h1
    · exact h.own b h1
    · exact .inr (Nat.le_trans h.size h1)
  grow b hb := by
    rcases h'.grow b hb with h1 | h1 | h1
    · exact h.grow b h1
    · exact .inr (h.own b h1)
    · exact .inr (.inr (Nat.le_trans h.size h1))

theorem SR.ownNot {D : Dir} {Γ : Nat → Prop} {σ : Store} {H : Array Obj} (h : SR D Γ σ H) (b : Nat) (hp : Γ b) : ¬ ownB D b := by
  rintro ⟨i, base, sz, tot, hi, ht⟩
  rcases h.ob i with ⟨_, h2⟩ | ⟨_, h2⟩ | ⟨_, h2⟩ | ⟨own, pure, sz', xs, blk, base', tot', _, h2, h3⟩
  · rw [h2] at hi; cases hi
  · rw [h2] at hi; cases hi
  · rw [h2] at hi; cases hi
  · rw [h2] at hi; cases hi
    obtain ⟨_, h4⟩ := h3
    rcases h4 with ⟨h5, _⟩ | ⟨_, cells, T, fz, _, _, _, _, _, h6, _⟩
    · omega
    · exact h6 rfl hp

/-- What persists is read the same behind a step. -/
theorem Ext.pr {D D' : Dir} {Γ Γ' : Nat → Prop} {σ : Store} {H H' : Array Obj} (h : Ext D Γ H D' Γ' H') (hs : SR D Γ σ H) {c : V} {v : Value} (hp : PR Γ H c v) : PR Γ' H' c v :=
  hp.mono fun b hb => ⟨h.keep b hb, h.same b (hs.there b hb) (hs.ownNot b hb)⟩

theorem Ext.lr {D D' : Dir} {Γ Γ' : Nat → Prop} {σ : Store} {H H' : Array Obj} (h : Ext D Γ H D' Γ' H') (hs : SR D Γ σ H) {c : V} {v : Value} (hp : LR D Γ H c v) : LR D' Γ' H' c v := by
  induction hp with
  | pr hp => exact .pr (h.pr hs hp)
  | hsDead hd h0 =>
    obtain ⟨s', h1, h2⟩ := h.slot _ _ hd
    simp only [slotLe] at h2; subst h2
    exact .hsDead h1 h0
  | hs hd hlen ht =>
    obtain ⟨s', h1, h2⟩ := h.slot _ _ hd
    simp only [slotLe] at h2
    rcases h2 with rfl | rfl | rfl
    · exact .hsDead h1 rfl
    · exact .hs h1 hlen ht
    · exact .hs h1 hlen ht
  | ptrDead hd h0 =>
    obtain ⟨s', h1, h2⟩ := h.slot _ _ hd
    simp only [slotLe] at h2; subst h2
    exact .ptrDead h1 h0
  | ptr hd =>
    obtain ⟨s', h1, h2⟩ := h.slot _ _ hd
    simp only [slotLe] at h2
    rcases h2 with rfl | rfl | rfl
    · exact .ptrDead h1 rfl
    · exact .ptr h1
    · exact .ptr h1
  | fn arr hl hh ih => exact .fn arr hl ih

theorem Ext.ar {D D' : Dir} {Γ Γ' : Nat → Prop} {σ : Store} {H H' : Array Obj} (h : Ext D Γ H D' Γ' H') (hs : SR D Γ σ H) {c : V} {v : Value} (hp : AR D Γ H c v) : AR D' Γ' H' c v := by
  cases hp with
  | any v => exact .any v
  | leaf hp => exact .leaf (h.lr hs hp)
  | agg arr hl hh => exact .agg arr hl fun k c v h1 h2 => h.lr hs (hh k c v h1 h2)

theorem Ext.vr {D D' : Dir} {Γ Γ' : Nat → Prop} {σ : Store} {H H' : Array Obj} (h : Ext D Γ H D' Γ' H') (hs : SR D Γ σ H) {c : V} {v : Value} (hp : VR D Γ H c v) : VR D' Γ' H' c v := by
  cases hp with
  | one hp => exact .one (h.ar hs hp)
  | tup arr hl hh => exact .tup arr hl fun k c v h1 h2 => h.ar hs (hh k c v h1 h2)

/-- The slots of a frame. -/
def TR (D : Dir) (Γ : Nat → Prop) (H : Array Obj) (T : List V) (a : Array Value) : Prop :=
  a.size = T.length ∧ ∀ (i : Nat) (c : V) (v : Value), T[i]? = some c → a[i]? = some v → VR D Γ H c v

theorem Ext.tr {D D' : Dir} {Γ Γ' : Nat → Prop} {σ : Store} {H H' : Array Obj} (h : Ext D Γ H D' Γ' H') (hs : SR D Γ σ H) {T : List V} {a : Array Value} (ht : TR D Γ H T a) : TR D' Γ' H' T a :=
  ⟨ht.1, fun i c v h1 h2 => h.vr hs (ht.2 i c v h1 h2)⟩

theorem TR.put {D : Dir} {Γ : Nat → Prop} {H : Array Obj} {T : List V} {a : Act} (ht : TR D Γ H T a.tmps) {v : V} {x : Value} (hv : VR D Γ H v x) (dst : Option Tmp) : TR D Γ H (putV T dst v) (a.put dst x).tmps := by
  cases dst with
  | none => exact ht
  | some d =>
    refine ⟨by simp [putV, Act.put, ht.1], fun i c u h1 h2 => ?_⟩
    simp only [putV, Act.put] at h1 h2
    by_cases hd : d = i
    · subst hd
      rw [List.getElem?_set] at h1
      rw [Array.getElem?_setIfInBounds] at h2
      simp only [if_true] at h1 h2
      split at h1
      · split at h2
        · cases h1; cases h2; exact hv
        · cases h2
      · cases h1
    · rw [List.getElem?_set_ne hd] at h1
      rw [Array.getElem?_setIfInBounds_ne hd] at h2
      exact ht.2 i c u h1 h2

theorem PR.oneCell {Γ : Nat → Prop} {H : Array Obj} {c : V} {v : Value} (h : PR Γ H c v) : v.oneCell' = true := by
  cases h <;> first | rfl | assumption

theorem LR.oneCell {D : Dir} {Γ : Nat → Prop} {H : Array Obj} {c : V} {v : Value} (h : LR D Γ H c v) : v.oneCell' = true := by
  cases h with
  | pr h => exact h.oneCell
  | hsDead _ h => exact h
  | ptrDead _ h => exact h
  | _ => rfl

theorem pr_ofLeaf (Γ : Nat → Prop) (H : Array Obj) (v : Value) (h : v.oneCell' = true) : PR Γ H (ofLeaf v) v := by
  unfold ofLeaf
  split <;> first | exact .bool _ | exact .int _ _ | exact .str _ | exact .nilS | exact .nilP | exact .nilF | exact .undef _ h

theorem ar_ofConst (D : Dir) (Γ : Nat → Prop) (H : Array Obj) (v : Value) : AR D Γ H (ofConst v) v := by
  unfold ofConst
  split
  · rename_i cs
    split
    · rename_i hall
      refine .agg cs (by simp) fun k c v h1 h2 => ?_
      simp only [List.getElem?_map, Array.getElem?_toList, h2, Option.map_some, Option.some.injEq] at h1
      subst h1
      exact .pr (pr_ofLeaf _ _ _ (Array.all_eq_true_iff_forall_mem.1 hall _ (Array.mem_of_getElem? h2)))
    · exact .any _
  · by_cases h : v.oneCell' = true
    · exact .leaf (.pr (pr_ofLeaf _ _ _ h))
    · cases v <;> first | exact absurd rfl h | exact .any _

theorem TR.ev {D : Dir} {Γ : Nat → Prop} {H : Array Obj} {T : List V} {a : Act} (ht : TR D Γ H T a.tmps) (x : Operand) : VR D Γ H (VM.ev T x) (a.eval x) := by
  cases x with
  | tmp t =>
    simp only [VM.ev, Act.eval]
    by_cases h : t < T.length
    · have h' : t < a.tmps.size := by rw [ht.1]; exact h
      have e1 : T[t]? = some T[t] := List.getElem?_eq_getElem h
      have e2 : a.tmps[t]? = some a.tmps[t] := Array.getElem?_eq_getElem h'
      simp only [List.getD_eq_getElem?_getD, e1, Array.getD_eq_getD_getElem?, e2, Option.getD_some]
      exact ht.2 t _ _ e1 e2
    · rw [List.getD_eq_getElem?_getD, List.getElem?_eq_none (Nat.le_of_not_lt h)]
      exact .one (.any _)
  | const v => exact .one (ar_ofConst ..)
  | global g => exact .one (.any _)
  | func f => exact .one (.leaf (.pr (.fn f)))

theorem wid_len : ∀ (ws cs : List V), (wid ws cs).length = cs.length
  | _ :: ws, _ :: cs => by simp only [wid, List.length_cons, wid_len ws cs]
  | [], _ => by simp [wid]
  | _ :: _, [] => rfl
theorem wid_get : ∀ {ws cs : List V} {k : Nat} {c' : V}, (wid ws cs)[k]? = some c' → ∃ w c, cs[k]? = some c ∧ c' = wid1 w c
  | w :: ws, c :: cs, k, c', h => by
    simp only [wid] at h
    cases k with
    | zero => simp at h; exact ⟨w, c, rfl, h.symm⟩
    | succ k => simp at h; obtain ⟨w', d, h1, h2⟩ := wid_get h; exact ⟨w', d, by simpa using h1, h2⟩
  | [], cs, k, c', h => ⟨.undef, c', by simpa [wid] using h, by cases c' <;> rfl⟩
  | _ :: _, [], k, c', h => by simp [wid] at h
theorem PR.wid1 {Γ : Nat → Prop} {H : Array Obj} {c : V} {v : Value} (w : V) (h : PR Γ H c v) : PR Γ H (wid1 w c) v := by
  cases h with
  | nilS =>
    simp only [VM.wid1]
    split
    · exact .list0 _ _ _ fun _ => rfl
    · exact .nilS
  | undef v h => exact .undef v h
  | bool b => exact .bool b
  | int k n => exact .int k n
  | str s => exact .str s
  | emp a => exact .emp a
  | ne a cap => exact .ne a cap
  | nilP => exact .nilP
  | nilF => exact .nilF
  | fn f => exact .fn f
  | list0 sz a cap h => exact .list0 sz a cap h
  | list sz xs blk off cap cells T fz vals hx hcap hO hb hlen hcell hp => exact .list sz xs blk off cap cells T fz vals hx hcap hO hb hlen hcell hp
  | pp cs blk off cells T fz vals hO hb hlen hcell hp => exact .pp cs blk off cells T fz vals hO hb hlen hcell hp
theorem wid1_ne (w : V) {c : V} (h : c ≠ .nilS) : wid1 w c = c := by
  cases c <;> first | rfl | exact absurd rfl h
theorem LR.wid1 {D : Dir} {Γ : Nat → Prop} {H : Array Obj} {c : V} {v : Value} (w : V) (h : LR D Γ H c v) : LR D Γ H (wid1 w c) v := by
  cases h with
  | pr h => exact .pr (h.wid1 w)
  | hsDead h h1 => exact .hsDead h h1
  | hs h hlen ht => exact .hs h hlen ht
  | ptrDead h h1 => exact .ptrDead h h1
  | ptr h => exact .ptr h
  | fn arr hl h => exact .fn arr hl h
theorem AR.widA {D : Dir} {Γ : Nat → Prop} {H : Array Obj} {c : V} {v : Value} (ws : List V) (h : AR D Γ H c v) : AR D Γ H (widA ws c) v := by
  cases h with
  | any v => cases ws <;> exact .any v
  | leaf h =>
    cases c with
    | agg cs => cases h with | pr h => cases h
    | _ => cases ws with
      | nil => exact .leaf h
      | cons w ws => exact .leaf (h.wid1 w)
  | agg arr hl h =>
    refine .agg arr (by rw [hl, wid_len]) fun k c v h1 h2 => ?_
    obtain ⟨w, d, e1, rfl⟩ := wid_get h1
    exact (h k d v e1 h2).wid1 w
theorem widArgs_len : ∀ (ws : List (List V)) (vs : List V), (widArgs ws vs).length = vs.length
  | _ :: ws, _ :: vs => by simp only [widArgs, List.length_cons, widArgs_len ws vs]
  | [], _ => by simp [widArgs]
  | _ :: _, [] => rfl
theorem widArgs_get : ∀ {ws : List (List V)} {cs : List V} {k : Nat} {c' : V}, (widArgs ws cs)[k]? = some c' → ∃ w c, cs[k]? = some c ∧ (c' = widA w c ∨ c' = c)
  | w :: ws, c :: cs, k, c', h => by
    simp only [widArgs] at h
    cases k with
    | zero => simp at h; exact ⟨w, c, rfl, .inl h.symm⟩
    | succ k => simp at h; obtain ⟨w', d, h1, h2⟩ := widArgs_get h; exact ⟨w', d, by simpa using h1, h2⟩
  | [], cs, k, c', h => ⟨[], c', by simpa [widArgs] using h, .inr rfl⟩
  | _ :: _, [], k, c', h => by simp [widArgs] at h
end Go.VM
