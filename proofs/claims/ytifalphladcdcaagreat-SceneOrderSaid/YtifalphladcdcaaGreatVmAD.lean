/- The machine over plain values: calls. No condition beyond those stated. -/
import Derived.Test.YtifalphladcdcaaGreatVmAC
set_option linter.unusedVariables false
set_option linter.unusedSimpArgs false
namespace Go.VM

def setAll {α : Type} (l : List α) (ps : List (Nat × α)) : List α := ps.foldl (fun s p => s.set p.1 p.2) l

theorem setAll_len {α : Type} : ∀ (ps : List (Nat × α)) (l : List α), (setAll l ps).length = l.length
  | [], _ => rfl
  | p :: ps, l => by show (setAll (l.set p.1 p.2) ps).length = _; rw [setAll_len ps]; simp

theorem setAll_zip {α : Type} : ∀ {ids : List Nat} {os : List α} {l : List α}, ids.Nodup → (∀ id ∈ ids, id < l.length) →
    (∀ (k id : Nat) (o : α), ids[k]? = some id → os[k]? = some o → (setAll l (ids.zip os))[id]? = some o) ∧ (∀ id, id ∉ ids → (setAll l (ids.zip os))[id]? = l[id]?)
  | [], os, l, _, _ => ⟨fun k id o h => by simp at h, fun id _ => by simp [setAll]⟩
  | i :: ids, [], l, _, _ => ⟨fun k id o _ h => by simp at h, fun id _ => by simp [setAll]⟩
  | i :: ids, o :: os, l, hn, hl => by
    obtain ⟨hn1, hn2⟩ := List.nodup_cons.1 hn
    obtain ⟨h1, h2⟩ := setAll_zip (ids := ids) (os := os) (l := l.set i o) hn2 (fun id h => by simpa using hl id (by simp [h]))
    refine ⟨fun k id o' hk ho => ?_, fun id hid => ?_⟩
    · show (setAll (l.set i o) (ids.zip os))[id]? = some o'
      cases k with
      | zero =>
        simp at hk ho
        subst hk; subst ho
        rw [h2 _ hn1, List.getElem?_set_self (hl i (by simp))]
      | succ k => simp at hk ho; exact h1 k id o' hk ho
    · show (setAll (l.set i o) (ids.zip os))[id]? = l[id]?
      rw [h2 _ (fun h => hid (by simp [h])), List.getElem?_set_ne (fun e => hid (by simp [e]))]

theorem setAll_inv {α : Type} : ∀ {ids : List Nat} {os : List α} {l : List α} {id : Nat} {o : α}, (setAll l (ids.zip os))[id]? = some o → (∃ k : Nat, ids[k]? = some id ∧ os[k]? = some o) ∨ l[id]? = some o
  | [], os, l, id, o, h => .inr (by simpa [setAll] using h)
  | i :: ids, [], l, id, o, h => .inr (by simpa [setAll] using h)
  | i :: ids, o' :: os, l, id, o, h => by
    rcases setAll_inv (ids := ids) (os := os) (l := l.set i o') h with ⟨k, h1, h2⟩ | h
    · exact .inl ⟨k + 1, by simpa using h1, by simpa using h2⟩
    · rcases set_get h with ⟨e, rfl⟩ | ⟨_, h⟩
      · exact .inl ⟨0, by simp [e], by simp⟩
      · exact .inr h

section
variable {D D' : Dir} {Γ : Nat → Prop} {H : Array Obj} {ρ : Nat → Option Nat}

theorem renLeaf_lr (hρ : ∀ (k : Nat) (s : Slot), D[k]? = some s → s ≠ .vir → ∀ j, ρ k = some j → D'[j]? = some s) {c : V} {v : Value} (h : LR D Γ H c v) : LR D' Γ H (renLeaf ρ c) v := by
  cases h with
  | pr h =>
    have h1 := h.oneCell
    cases h with
    | fn f => exact .pr (.fn f)
    | _ => first | exact .pr (.undef _ h1) | (simp only [renLeaf]; exact .pr (by constructor <;> assumption)) | (simp only [renLeaf]; exact .pr (by constructor))
  | hsDead hd h0 =>
    simp only [renLeaf]
    split
    · rename_i j hj; exact .hsDead (hρ _ _ hd (by simp) j hj) h0
    · exact .pr (.undef _ h0)
  | hs hd hl hc =>
    simp only [renLeaf]
    split
    · rename_i j hj; exact .hs (hρ _ _ hd (by simp) j hj) hl hc
    · exact .pr (.undef _ rfl)
  | ptrDead hd h0 =>
    simp only [renLeaf]
    split
    · rename_i j hj; exact .ptrDead (hρ _ _ hd (by simp) j hj) h0
    · exact .pr (.undef _ h0)
  | ptr hd =>
    simp only [renLeaf]
    split
    · rename_i j hj; exact .ptr (hρ _ _ hd (by simp) j hj)
    · exact .pr (.undef _ rfl)
  | fn arr hl hh =>
    rename_i f cs
    cases cs with
    | nil =>
      simp only [renLeaf]
      have : arr = #[] := Array.eq_empty_of_size_eq_zero hl
      subst this
      exact .pr (.fn f)
    | cons d ds => simp only [renLeaf]; exact .pr (.undef _ rfl)

theorem renFn_lr (hρ : ∀ (k : Nat) (s : Slot), D[k]? = some s → s ≠ .vir → ∀ j, ρ k = some j → D'[j]? = some s) {c : V} {v : Value} (h : LR D Γ H c v) : LR D' Γ H (renFn ρ c) v := by
  cases c with
  | fn f cs =>
    simp only [renFn]
    cases h with
    | pr h => cases h; exact .pr (.fn f)
    | fn arr hl hh =>
      refine .fn arr (by simpa using hl) fun k c v h1 h2 => ?_
      simp only [List.getElem?_map] at h1
      cases hq : cs[k]? with
      | none => rw [hq] at h1; simp at h1
      | some d =>
        rw [hq] at h1
        simp only [Option.map_some, Option.some.injEq] at h1
        subst h1
        exact renLeaf_lr hρ (hh k d v hq h2)
  | _ => exact renLeaf_lr hρ h

theorem renA_ar (hρ : ∀ (k : Nat) (s : Slot), D[k]? = some s → s ≠ .vir → ∀ j, ρ k = some j → D'[j]? = some s) {c : V} {v : Value} (h : AR D Γ H c v) : AR D' Γ H (renA ρ c) v := by
  cases h with
  | any v => exact .any v
  | leaf h =>
    cases c with
    | agg => cases h with | pr h => cases h
    | _ => exact .leaf (renFn_lr hρ h)
  | agg arr hl hh =>
    rename_i cs
    refine .agg arr (by simpa using hl) fun k c v h1 h2 => ?_
    simp only [List.getElem?_map] at h1
    cases hq : cs[k]? with
    | none => rw [hq] at h1; simp at h1
    | some d =>
      rw [hq] at h1
      simp only [Option.map_some, Option.some.injEq] at h1
      subst h1
      exact renFn_lr hρ (hh k d v hq h2)

theorem renV_vr (hρ : ∀ (k : Nat) (s : Slot), D[k]? = some s → s ≠ .vir → ∀ j, ρ k = some j → D'[j]? = some s) {c : V} {v : Value} (h : VR D Γ H c v) : VR D' Γ H (renV ρ c) v := by
  cases h with
  | one h =>
    cases c with
    | tup => cases h with | leaf h => cases h with | pr h => cases h
    | _ => exact .one (renA_ar hρ h)
  | tup arr hl hh =>
    rename_i cs
    refine .tup arr (by simpa using hl) fun k c v h1 h2 => ?_
    simp only [List.getElem?_map] at h1
    cases hq : cs[k]? with
    | none => rw [hq] at h1; simp at h1
    | some d =>
      rw [hq] at h1
      simp only [Option.map_some, Option.some.injEq] at h1
      subst h1
      exact renA_ar hρ (hh k d v hq h2)

/-- A row's cells under other names. -/
theorem OR.ren (hρ : ∀ (k : Nat) (s : Slot), D[k]? = some s → s ≠ .vir → ∀ j, ρ k = some j → D'[j]? = some s) {blk base tot : Nat} {own pure : Bool} {sz : Nat} {xs : List (List V)} (h : OR D Γ H blk base tot own pure sz xs) :
    ∃ xs', renOb ρ (.cells own pure sz xs) = .cells own pure sz xs' ∧ OR D' Γ H blk base tot own pure sz xs' := by
  obtain ⟨hx, h⟩ := h
  cases pure with
  | true =>
    refine ⟨xs, rfl, hx, ?_⟩
    rcases h with h | ⟨h0, cells, T, fz, h1, h2, h3, h4, h5, h6⟩
    · exact .inl h
    · exact .inr ⟨h0, cells, T, fz, h1, h2, h3, h4, fun k c hk => by simpa using h5 k c hk, h6⟩
  | false =>
    have hx' : ∀ x ∈ xs.map (·.map (renFn ρ)), x.length = sz := by
      intro x hx'
      obtain ⟨y, hy, rfl⟩ := List.mem_map.1 hx'
      simpa using hx y hy
    refine ⟨_, rfl, hx', ?_⟩
    rcases h with ⟨h1, h2⟩ | ⟨h0, cells, T, fz, h1, h2, h3, h4, h5, h6⟩
    · exact .inl ⟨h1, by rw [h2]; rfl⟩
    · refine .inr ⟨h0, cells, T, fz, h1, h2, h3, by simpa using h4, fun k c hk => ?_, h6⟩
      obtain ⟨j, r, y, rfl, hr, hy, hc⟩ := flatten_inv hx' hk
      simp only [List.getElem?_map] at hy
      cases hq : xs[j]? with
      | none => rw [hq] at hy; simp at hy
      | some z =>
        rw [hq] at hy
        simp only [Option.map_some, Option.some.injEq] at hy
        subst hy
        simp only [List.getElem?_map] at hc
        cases hq2 : z[r]? with
        | none => rw [hq2] at hc; simp at hc
        | some d =>
          rw [hq2] at hc
          simp only [Option.map_some, Option.some.injEq] at hc
          subst hc
          obtain ⟨v, hv, hp⟩ := h5 _ d (by rw [flatten_row hx hq hr]; exact hq2)
          refine ⟨v, hv, ?_⟩
          simp only [Bool.false_eq_true, if_false] at hp ⊢
          exact renFn_lr hρ hp
end

theorem virs_inv {σ : Store} {r : V × List (Nat × Ob)} : ∀ {n nid : Nat} {k : Bool → M}, (virs nid n k).run σ = some r → (k false).run σ = some r ∨ ((k true).run σ = some r ∧ ∀ i, i < n → σ[nid + i]? = some .vir)
  | 0, nid, k, h => .inr ⟨h, fun i hi => by omega⟩
  | n + 1, nid, k, h => by
    obtain ⟨ob, hob, h⟩ := run_get h
    split at h
    · rcases virs_inv h with h | ⟨h, hh⟩
      · exact .inl h
      · refine .inr ⟨h, fun i hi => ?_⟩
        cases i with
        | zero => exact hob
        | succ i => rw [show nid + (i + 1) = nid + 1 + i by omega]; exact hh i (by omega)
    · exact .inl h

/-- What an oracle's answers are good for. -/
def OS (P : Program) (C : Oracle) : Prop :=
  ∀ (f : Nat) (args : List V) (σ : Store) (r : V) (σ' : Store), C f args σ = some (r, σ') → ∀ (D : Dir) (Γ : Nat → Prop) (w : World) (vals : Array Value), SR D Γ σ w.heap → vals.size = args.length →
    (∀ (k : Nat) (c : V) (v : Value), args[k]? = some c → vals[k]? = some v → AR D Γ w.heap c v) →
    Calls P f vals w fun e w' => ∃ x D' Γ', e = .returned x ∧ Kept w w' ∧ VR D' Γ' w'.heap r x ∧ SR D' Γ' σ' w'.heap ∧ Ext D Γ w.heap D' Γ' w'.heap

/-- Memory that a call left alone. -/
theorem SR.heap {D : Dir} {Γ : Nat → Prop} {σ : Store} {H H' : Array Obj} (h : SR D Γ σ H) (hsz : H.size ≤ H'.size) (hb : ∀ b, b < H.size → H'[b]? = H[b]?) : SR D Γ σ H' ∧ Ext D Γ H D Γ H' := by
  have he : Ext D Γ H D Γ H' := ⟨fun i s hs => ⟨s, hs, slotLe_refl s⟩, hsz, fun b hlt _ => hb b hlt, fun _ h => h, fun _ h => .inl h, fun _ h => .inl h⟩
  refine ⟨⟨h.len, fun i => ?_, h.apart, fun b hg => Nat.lt_of_lt_of_le (h.there b hg) hsz⟩, he⟩
  rcases h.ob i with h1 | h1 | h1 | ⟨own, pure, sz, xs, blk, base, tot, h1, h2, h3⟩
  · exact .inl h1
  · exact .inr (.inl h1)
  · exact .inr (.inr (.inl h1))
  · refine .inr (.inr (.inr ⟨own, pure, sz, xs, blk, base, tot, h1, h2, h3.mono h he (fun ht => ?_) fun ho ht hg => h.ownNot _ hg ⟨i, base, sz, tot, by rw [← ho]; exact h2, ht⟩⟩))
    obtain ⟨_, h3⟩ := h3
    rcases h3 with ⟨h4, _⟩ | ⟨_, cells, T, fz, h4, _⟩
    · omega
    · exact hb _ (Array.getElem?_eq_some_iff.1 h4).1

theorem scalar_vr {D D' : Dir} {Γ Γ' : Nat → Prop} {H H' : Array Obj} {r : V} {x : Value} {ρ : Nat → Option Nat} (hsc : scalar r = true) (h : VR D Γ H r x) : VR D' Γ' H' (renV ρ r) x := by
  have leaf : ∀ {c : V} {v : Value}, plainV c = true → LR D Γ H c v → LR D' Γ' H' (renFn ρ c) v := by
    intro c v hp hl
    cases c with
    | bool b => cases hl with | pr hl => cases hl; exact .pr (.bool _)
    | int k n => cases hl with | pr hl => cases hl; exact .pr (.int _ _)
    | str s => cases hl with | pr hl => cases hl; exact .pr (.str _)
    | nilS => cases hl with | pr hl => cases hl; exact .pr (.nilS)
    | emp => cases hl with | pr hl => cases hl; exact .pr (.emp _)
    | nilP => cases hl with | pr hl => cases hl; exact .pr (.nilP)
    | nilF => cases hl with | pr hl => cases hl; exact .pr (.nilF)
    | _ => simp [plainV] at hp
  have arr : ∀ {c : V} {v : Value}, plainA c = true → AR D Γ H c v → AR D' Γ' H' (renA ρ c) v := by
    intro c v hp hl
    cases hl with
    | any => simp [plainA, plainV] at hp
    | leaf hl =>
      cases c with
      | agg => cases hl with | pr hl => cases hl
      | _ => exact .leaf (leaf (by simpa [plainA] using hp) hl)
    | agg arr hl hh =>
      rename_i cs
      simp only [plainA, List.all_eq_true] at hp
      refine .agg arr (by simpa using hl) fun k c v h1 h2 => ?_
      simp only [List.getElem?_map] at h1
      cases hq : cs[k]? with
      | none => rw [hq] at h1; simp at h1
      | some d =>
        rw [hq] at h1
        simp only [Option.map_some, Option.some.injEq] at h1
        subst h1
        exact leaf (hp d (List.mem_of_getElem? hq)) (hh k d v hq h2)
  cases h with
  | one h =>
    cases r with
    | tup => cases h with | leaf h => cases h with | pr h => cases h
    | _ => exact .one (arr (by simpa [scalar] using hsc) h)
  | tup ar hl hh =>
    rename_i cs
    simp only [scalar, List.all_eq_true] at hsc
    refine .tup ar (by simpa using hl) fun k c v h1 h2 => ?_
    simp only [List.getElem?_map] at h1
    cases hq : cs[k]? with
    | none => rw [hq] at h1; simp at h1
    | some d =>
      rw [hq] at h1
      simp only [Option.map_some, Option.some.injEq] at h1
      subst h1
      exact arr (hsc d (List.mem_of_getElem? hq)) (hh k d v hq h2)
end Go.VM
