/- The machine over plain values: how the store and the memory move together (freezing, making, writing). No condition beyond those stated. -/
import Derived.Test.YtifalphladcdcaaGreatVmR
set_option linter.unusedVariables false
set_option linter.unusedSimpArgs false
namespace Go.VM

theorem set_get {α : Type} {l : List α} {i j : Nat} {a b : α} (h : (l.set i a)[j]? = some b) : (i = j ∧ b = a) ∨ (i ≠ j ∧ l[j]? = some b) := by
  by_cases e : i = j
  · subst e
    have hlt : i < l.length := by have := (List.getElem?_eq_some_iff.1 h).1; simpa using this
    rw [List.getElem?_set, if_pos rfl, if_pos hlt] at h
    exact .inl ⟨rfl, by cases h; rfl⟩
  · rw [List.getElem?_set_ne e] at h
    exact .inr ⟨e, h⟩

theorem get_set {α : Type} {l : List α} {i : Nat} {a b : α} (h : l[i]? = some b) : (l.set i a)[i]? = some a := by
  have hlt : i < l.length := (List.getElem?_eq_some_iff.1 h).1
  rw [List.getElem?_set, if_pos rfl, if_pos hlt]

/-! ### Rows of one width -/
theorem flatten_len {sz : Nat} : ∀ {xs : List (List V)}, (∀ x ∈ xs, x.length = sz) → xs.flatten.length = xs.length * sz
  | [], _ => by simp
  | x :: xs, h => by
    have h1 := h x (by simp)
    have h2 := flatten_len (xs := xs) fun y hy => h y (by simp [hy])
    simp only [List.flatten_cons, List.length_append, List.length_cons, h1, h2, Nat.add_mul, Nat.one_mul]
    omega

theorem flatten_drop {sz : Nat} : ∀ {xs : List (List V)} (n : Nat), (∀ x ∈ xs, x.length = sz) → (xs.drop n).flatten = xs.flatten.drop (n * sz)
  | [], n, _ => by simp
  | x :: xs, 0, _ => by simp
  | x :: xs, n + 1, h => by
    have h1 := h x (by simp)
    rw [List.drop_succ_cons, flatten_drop n fun y hy => h y (by simp [hy]), List.flatten_cons, Nat.add_mul, Nat.one_mul, Nat.add_comm, ← List.drop_drop, List.drop_left' h1]

theorem flatten_take {sz : Nat} : ∀ {xs : List (List V)} (n : Nat), (∀ x ∈ xs, x.length = sz) → (xs.take n).flatten = xs.flatten.take (n * sz)
  | [], n, _ => by simp
  | x :: xs, 0, _ => by simp
  | x :: xs, n + 1, h => by
    have h1 := h x (by simp)
    rw [List.take_succ_cons, List.flatten_cons, flatten_take n fun y hy => h y (by simp [hy]), List.flatten_cons, Nat.add_mul, Nat.one_mul, Nat.add_comm, List.take_append, h1]
    rw [List.take_of_length_le (l := x) (by omega), Nat.add_sub_cancel_left]

theorem flatten_row {sz : Nat} {xs : List (List V)} (h : ∀ x ∈ xs, x.length = sz) {i : Nat} {x : List V} (hi : xs[i]? = some x) {j : Nat} (hj : j < sz) : xs.flatten[i * sz + j]? = x[j]? := by
  have hlt : i < xs.length := (List.getElem?_eq_some_iff.1 hi).1
  have hx : x.length = sz := h x (List.mem_of_getElem? hi)
  have e : xs.drop i = x :: xs.drop (i + 1) := by
    rw [List.drop_eq_getElem_cons hlt]
    congr 1
    exact (List.getElem?_eq_some_iff.1 hi).2
  have h2 := flatten_drop (xs := xs) i h
  rw [e, List.flatten_cons] at h2
  rw [← List.getElem?_drop, ← h2, List.getElem?_append_left (by omega)]

/-! ### What an answer of the small machine opens to -/
theorem run_get {id : Nat} {k : Ob → M} {σ : Store} {r : V × List (Nat × Ob)} (h : (M.get id k).run σ = some r) : ∃ o, σ[id]? = some o ∧ (k o).run σ = some r := by
  simp only [M.run] at h
  split at h
  · rename_i o ho; exact ⟨o, ho, h⟩
  · cases h

theorem run_done {v : V} {ws : List (Nat × Ob)} {σ : Store} {r : V × List (Nat × Ob)} (h : (M.done v ws).run σ = some r) : r = (v, ws) := by
  simp only [M.run, Option.some.injEq] at h; exact h.symm

theorem run_fail {σ : Store} {r : V × List (Nat × Ob)} (h : M.fail.run σ = some r) : False := by
  simp only [M.run] at h; cases h

section
variable {D D' : Dir} {Γ Γ' : Nat → Prop} {σ : Store} {H H' : Array Obj}

theorem SR.live (h : SR D Γ σ H) {id : Nat} {own pure : Bool} {sz : Nat} {xs : List (List V)} (hi : σ[id]? = some (.cells own pure sz xs)) :
    ∃ blk base tot, D[id]? = some (.live blk base sz tot own) ∧ OR D Γ H blk base tot own pure sz xs := by
  rcases h.ob id with ⟨h1, _⟩ | ⟨h1, _⟩ | ⟨h1, _⟩ | ⟨own', pure', sz', xs', blk, base, tot, h1, h2, h3⟩ <;> rw [h1] at hi <;> cases hi
  exact ⟨blk, base, tot, h2, h3⟩

theorem SR.virD (h : SR D Γ σ H) {id : Nat} (hi : σ[id]? = some .vir) : D[id]? = some .vir := by
  rcases h.ob id with ⟨h1, _⟩ | ⟨_, h2⟩ | ⟨h1, _⟩ | ⟨own', pure', sz', xs', blk, base, tot, h1, h2, h3⟩
  · rw [h1] at hi; cases hi
  · exact h2
  · rw [h1] at hi; cases hi
  · rw [h1] at hi; cases hi

theorem LR.hs_inv {id off len blk base sz tot : Nat} {own : Bool} {x : Value} (h : LR D Γ H (.hs id off len) x) (hd : D[id]? = some (.live blk base sz tot own)) :
    ∃ a cap, x = .slice a len cap ∧ len ≤ cap ∧ (cap ≠ 0 → a = some ⟨blk, base + off * sz, none⟩ ∧ base + (off + cap) * sz ≤ tot) := by
  cases h with
  | pr h => cases h
  | hsDead h => rw [hd] at h; cases h
  | hs h hlen ht => rw [hd] at h; cases h; exact ⟨_, _, rfl, hlen, ht⟩

theorem LR.ptr_inv {id i off blk base sz tot : Nat} {own : Bool} {x : Value} (h : LR D Γ H (.ptr id i off) x) (hd : D[id]? = some (.live blk base sz tot own)) :
    x = .pointer (some ⟨blk, base + i * sz + off, none⟩) := by
  cases h with
  | pr h => cases h
  | ptrDead h => rw [hd] at h; cases h
  | ptr h => rw [hd] at h; cases h; rfl

theorem VR.hs {id off len : Nat} {x : Value} (h : VR D Γ H (.hs id off len) x) : LR D Γ H (.hs id off len) x := by
  cases h with | one h => cases h with | leaf h => exact h
theorem VR.ptr {id i off : Nat} {x : Value} (h : VR D Γ H (.ptr id i off) x) : LR D Γ H (.ptr id i off) x := by
  cases h with | one h => cases h with | leaf h => exact h
theorem VR.pp {cs : List V} {x : Value} (h : VR D Γ H (.pp cs) x) : PR Γ H (.pp cs) x := by
  cases h with | one h => cases h with | leaf h => cases h with | pr h => exact h
theorem VR.list {sz : Nat} {xs : List (List V)} {x : Value} (h : VR D Γ H (.list sz xs) x) : PR Γ H (.list sz xs) x := by
  cases h with | one h => cases h with | leaf h => cases h with | pr h => exact h
theorem VR.int {k : IntKind} {n : Int} {x : Value} (h : VR D Γ H (.int k n) x) : x = .int k n := by
  cases h with | one h => cases h with | leaf h => cases h with | pr h => cases h; rfl
theorem VR.bool {b : Bool} {x : Value} (h : VR D Γ H (.bool b) x) : x = .bool b := by
  cases h with | one h => cases h with | leaf h => cases h with | pr h => cases h; rfl
theorem VR.str {s : ByteArray} {x : Value} (h : VR D Γ H (.str s) x) : x = .string s := by
  cases h with | one h => cases h with | leaf h => cases h with | pr h => cases h; rfl
theorem VR.nilS {x : Value} (h : VR D Γ H .nilS x) : x = .slice none 0 0 := by
  cases h with | one h => cases h with | leaf h => cases h with | pr h => cases h; rfl
theorem VR.emp {x : Value} (h : VR D Γ H .emp x) : ∃ a, x = .slice a 0 0 := by
  cases h with | one h => cases h with | leaf h => cases h with | pr h => cases h; exact ⟨_, rfl⟩
theorem VR.nilP {x : Value} (h : VR D Γ H .nilP x) : x = .pointer none := by
  cases h with | one h => cases h with | leaf h => cases h with | pr h => cases h; rfl
theorem VR.nilF {x : Value} (h : VR D Γ H .nilF x) : x = .nilFunc := by
  cases h with | one h => cases h with | leaf h => cases h with | pr h => cases h; rfl
theorem VR.agg {cs : List V} {x : Value} (h : VR D Γ H (.agg cs) x) : ∃ arr : Array Value, x = .agg arr ∧ arr.size = cs.length ∧ ∀ (k : Nat) (c : V) (v : Value), cs[k]? = some c → arr[k]? = some v → LR D Γ H c v := by
  cases h with | one h => cases h with
    | leaf h => cases h with | pr h => cases h
    | agg arr hl h => exact ⟨arr, rfl, hl, h⟩
theorem VR.fn {f : Nat} {cs : List V} {x : Value} (h : VR D Γ H (.fn f cs) x) : ∃ arr : Array Value, x = .func (.func f) #[] arr ∧ arr.size = cs.length ∧ ∀ (k : Nat) (c : V) (v : Value), cs[k]? = some c → arr[k]? = some v → LR D Γ H c v := by
  cases h with | one h => cases h with
    | leaf h => cases h with
      | pr h => cases h; exact ⟨#[], rfl, rfl, fun k c v h => by simp at h⟩
      | fn arr hl h => exact ⟨arr, rfl, hl, h⟩
theorem VR.tup_inv {cs : List V} {x : Value} (h : VR D Γ H (.tup cs) x) : ∃ arr : Array Value, x = .tuple arr ∧ arr.size = cs.length ∧ ∀ (k : Nat) (c : V) (v : Value), cs[k]? = some c → arr[k]? = some v → AR D Γ H c v := by
  cases h with
  | one h => cases h with | leaf h => cases h with | pr h => cases h
  | tup arr hl h => exact ⟨arr, rfl, hl, h⟩

/-- The cells of a value: a leaf is one. -/
theorem VR.cells {v : V} {x : Value} {cs : List V} (h : VR D Γ H v x) (hc : cellsOf v = some cs) :
    x.cells.size = cs.length ∧ ∀ (k : Nat) (c : V) (u : Value), cs[k]? = some c → x.cells[k]? = some u → LR D Γ H c u := by
  have one : ∀ c : V, LR D Γ H c x → (∀ arr, x ≠ .agg arr) → x.cells.size = [c].length ∧ ∀ (k : Nat) (c' : V) (u : Value), [c][k]? = some c' → x.cells[k]? = some u → LR D Γ H c' u := by
    intro c hl hx
    have e : x.cells = #[x] := by cases x <;> first | rfl | exact absurd rfl (hx _)
    rw [e]
    refine ⟨rfl, fun k c' u h1 h2 => ?_⟩
    cases k with
    | zero => simp at h1 h2; subst h1; subst h2; exact hl
    | succ k => simp at h1
  have notAgg : ∀ {c : V}, LR D Γ H c x → ∀ arr, x ≠ .agg arr := by
    intro c hl arr e
    have := hl.oneCell
    rw [e] at this; cases this
  cases h with
  | one h => cases h with
    | any v => simp [cellsOf] at hc
    | leaf h =>
      have hh := notAgg h
      have : cs = [v] := by
        cases v <;> simp only [cellsOf, Option.some.injEq] at hc <;> first | exact hc.symm | (cases h with | pr h => cases h) | cases hc
      subst this
      exact one v h hh
    | agg arr hl h =>
      simp only [cellsOf, Option.some.injEq] at hc
      subst hc
      exact ⟨hl, h⟩
  | tup arr hl h => simp [cellsOf] at hc

/-- The list of a row that lies in memory. -/
theorem OR.list {blk base tot : Nat} {own : Bool} {sz : Nat} {xs : List (List V)} (h : OR D Γ H blk base tot own true sz xs) {off len : Nat} (hl : off + len ≤ xs.length) {a : Option Addr} {cap : Nat}
    (hc : len ≤ cap) (ht : cap ≠ 0 → a = some ⟨blk, base + off * sz, none⟩ ∧ base + (off + cap) * sz ≤ tot) (hG : Γ' blk) (hm : ∀ b, Γ b → Γ' b) : PR Γ' H (.list sz ((xs.drop off).take len)) (.slice a len cap) := by
  obtain ⟨hx, h⟩ := h
  by_cases h0 : len = 0
  · subst h0
    rw [List.take_zero]
    exact .list0 _ _ _ fun e => Classical.byContradiction fun hc0 => by have := (ht hc0).1; rw [e] at this; cases this
  · have hxs : xs ≠ [] := by intro e; subst e; simp at hl; omega
    rcases h with ⟨_, h⟩ | ⟨h5, cells, T, fz, hb, hsz, _, hfit, hp, _, _⟩
    · exact absurd h hxs
    · obtain ⟨rfl, hbnd⟩ := ht (by omega)
      have hlen : ((xs.drop off).take len).length = len := by simp; omega
      have hx' : ∀ x ∈ (xs.drop off).take len, x.length = sz := fun x hm => hx x (List.mem_of_mem_drop (List.mem_of_mem_take hm))
      have hfl : ∀ k, k < len * sz → ((xs.drop off).take len).flatten[k]? = xs.flatten[off * sz + k]? := by
        intro k hk
        rw [flatten_take len (fun x hm => hx x (List.mem_of_mem_drop hm)), flatten_drop off hx, List.getElem?_take_of_lt hk, List.getElem?_drop]
      have hmul : (off + len) * sz ≤ xs.length * sz := Nat.mul_le_mul_right _ hl
      rw [Nat.add_mul] at hmul
      have hcs : ∀ k, k < len * sz → base + off * sz + k < cells.size := by intro k hk; omega
      have := PR.list (Γ := Γ') (H := H) sz ((xs.drop off).take len) blk (base + off * sz) cap cells T fz ((cells.toList.drop (base + off * sz)).take (len * sz)) hx' (by omega) hG hb
        (by simp [hlen]; omega)
        (fun k hk => by
          simp at hk
          rw [List.getElem?_take_of_lt (by omega), List.getElem?_drop, Array.getElem?_toList])
        (fun k c v h1 h2 => by
          have hk : k < len * sz := by
            have := (List.getElem?_eq_some_iff.1 h1).1
            rw [flatten_len hx', hlen] at this; exact this
          rw [hfl k hk] at h1
          obtain ⟨u, hu, hpr⟩ := hp _ _ h1
          simp only [if_true] at hpr
          rw [List.getElem?_take_of_lt hk, List.getElem?_drop, Array.getElem?_toList] at h2
          rw [show base + (off * sz + k) = base + off * sz + k by omega] at hu
          rw [hu] at h2; cases h2
          exact hpr.mono fun b hb => ⟨hm b hb, rfl⟩)
      rw [hlen] at this
      exact this

/-! ### Memory that moves under the store -/
theorem OR.mono {blk base tot : Nat} {own pure : Bool} {sz : Nat} {xs : List (List V)} (h : OR D Γ H blk base tot own pure sz xs) (hs : SR D Γ σ H) (he : Ext D Γ H D' Γ' H')
    (hb : 0 < tot → H'[blk]? = H[blk]?) (hn : own = true → 0 < tot → ¬ Γ' blk) : OR D' Γ' H' blk base tot own pure sz xs := by
  obtain ⟨hx, h⟩ := h
  refine ⟨hx, ?_⟩
  rcases h with h | ⟨h5, cells, T, fz, h1, h2, h3, h4, h6, h7, h8⟩
  · exact .inl h
  · refine .inr ⟨h5, cells, T, fz, by rw [hb h5]; exact h1, h2, h3, h4, fun k c hk => ?_, fun ho => hn ho h5, fun ho => he.keep _ (h8 ho)⟩
    obtain ⟨v, hv, hp⟩ := h6 k c hk
    refine ⟨v, hv, ?_⟩
    cases pure
    · simp only [Bool.false_eq_true, if_false] at hp ⊢; exact he.lr hs hp
    · simp only [if_true] at hp ⊢; exact he.pr hs hp

theorem ownB_set_false {id : Nat} {s : Slot} (hs : ∀ blk base sz tot, s ≠ .live blk base sz tot true) {b : Nat} (h : ownB (D.set id s) b) : ownB D b := by
  obtain ⟨i, base, sz, tot, hi, ht⟩ := h
  rw [List.getElem?_set] at hi
  split at hi
  · split at hi
    · cases hi; exact absurd rfl (hs _ _ _ _)
    · cases hi
  · exact ⟨i, base, sz, tot, hi, ht⟩

/-- A row is written no more: from now on it may be read by its list. -/
theorem SR.freeze (h : SR D Γ σ H) {id : Nat} {own : Bool} {sz : Nat} {xs : List (List V)} (hi : σ[id]? = some (.cells own true sz xs)) :
    ∃ D' Γ', SR D' Γ' (σ.set id (.cells false true sz xs)) H ∧ Ext D Γ H D' Γ' H := by
  obtain ⟨blk, base, tot, hd, ho⟩ := h.live hi
  have hlt : id < D.length := (List.getElem?_eq_some_iff.1 hd).1
  have hlt' : id < σ.length := (List.getElem?_eq_some_iff.1 hi).1
  cases own with
  | false =>
    refine ⟨D, Γ, ?_, Ext.refl ..⟩
    have e : σ.set id (.cells false true sz xs) = σ := by
      apply List.ext_getElem?
      intro j
      rw [List.getElem?_set]
      by_cases e : id = j
      · subst e; rw [if_pos rfl]; rw [if_pos hlt']; exact hi.symm
      · rw [if_neg e]
    rw [e]; exact h
  | true =>
    have he : Ext D Γ H (D.set id (.live blk base sz tot false)) (fun b => Γ b ∨ (b = blk ∧ 0 < tot)) H := by
      refine ⟨fun i s hs => ?_, Nat.le_refl _, fun _ _ _ => rfl, fun _ hb => .inl hb, fun b hb => .inl (ownB_set_false (by intro _ _ _ _ e; cases e) hb), fun b hb => ?_⟩
      · by_cases e : id = i
        · subst e
          rw [hd] at hs; cases hs
          exact ⟨_, by rw [List.getElem?_set]; simp [hlt], .inr (.inr rfl)⟩
        · exact ⟨s, by rw [List.getElem?_set_ne e]; exact hs, slotLe_refl s⟩
      · rcases hb with hb | ⟨rfl, h0⟩
        · exact .inl hb
        · exact .inr (.inl ⟨id, base, sz, tot, hd, h0⟩)
    refine ⟨_, _, ⟨by simp [h.len], fun i => ?_, fun i j b base1 sz1 tot1 base2 sz2 tot2 h1 h2 => ?_, fun b hb => ?_⟩, he⟩
    · by_cases e : id = i
      · subst e
        refine .inr (.inr (.inr ⟨false, true, sz, xs, blk, base, tot, by rw [List.getElem?_set]; simp [hlt'], by rw [List.getElem?_set]; simp [hlt], ?_⟩))
        obtain ⟨hx, ho⟩ := ho
        refine ⟨hx, ?_⟩
        rcases ho with ho | ⟨h5, cells, T, fz, g1, g2, g3, g4, g6, g7, g8⟩
        · exact .inl ho
        · refine .inr ⟨h5, cells, T, fz, g1, g2, (by intro e; cases e), g4, fun k c hk => ?_, (by intro e; cases e), fun _ => .inr ⟨rfl, h5⟩⟩
          obtain ⟨v, hv, hp⟩ := g6 k c hk
          exact ⟨v, hv, by simp only [if_true] at hp ⊢; exact he.pr h hp⟩
      · rcases h.ob i with ⟨h1, h2⟩ | ⟨h1, h2⟩ | ⟨h1, h2⟩ | ⟨own', pure', sz', xs', blk', base', tot', h1, h2, h3⟩
        · exact .inl ⟨by rw [List.getElem?_set_ne e]; exact h1, by rw [List.getElem?_set_ne e]; exact h2⟩
        · exact .inr (.inl ⟨by rw [List.getElem?_set_ne e]; exact h1, by rw [List.getElem?_set_ne e]; exact h2⟩)
        · exact .inr (.inr (.inl ⟨by rw [List.getElem?_set_ne e]; exact h1, by rw [List.getElem?_set_ne e]; exact h2⟩))
        · refine .inr (.inr (.inr ⟨own', pure', sz', xs', blk', base', tot', by rw [List.getElem?_set_ne e]; exact h1, by rw [List.getElem?_set_ne e]; exact h2, h3.mono h he (fun _ => rfl) fun ho h0 hg => ?_⟩))
          subst ho
          rcases hg with hg | ⟨rfl, h0'⟩
          · exact h.ownNot _ hg ⟨i, base', sz', tot', h2, h0⟩
          · exact e (h.apart _ _ _ _ _ _ _ _ _ hd h2 h0' h0)
    · have k1 : D[i]? = some (.live b base1 sz1 tot1 true) := by
        rcases set_get h1 with ⟨_, e⟩ | ⟨_, e⟩
        · cases e
        · exact e
      have k2 : D[j]? = some (.live b base2 sz2 tot2 true) := by
        rcases set_get h2 with ⟨_, e⟩ | ⟨_, e⟩
        · cases e
        · exact e
      exact h.apart i j b base1 sz1 tot1 base2 sz2 tot2 k1 k2
    · rcases hb with hb | ⟨rfl, h0⟩
      · exact h.there b hb
      · obtain ⟨_, ho⟩ := ho
        rcases ho with ⟨h9, _⟩ | ⟨_, cells, T, fz, g1, _⟩
        · omega
        · exact (Array.getElem?_eq_some_iff.1 g1).1
end
end Go.VM
