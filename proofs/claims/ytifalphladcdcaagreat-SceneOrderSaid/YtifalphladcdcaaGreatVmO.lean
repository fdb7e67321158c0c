/- The machine over plain values: making, laying, and what an operation's answer is good for. No condition beyond those stated. -/
import Derived.Test.YtifalphladcdcaaGreatVmQ
import Derived.Deep.MidRow
import Derived.Laws.AppendOwn
set_option linter.unusedVariables false
set_option linter.unusedSimpArgs false
namespace Go.VM

section
variable {D D' : Dir} {Γ Γ' : Nat → Prop} {σ : Store} {H H' : Array Obj}

/-- What an operation's answer is good for. -/
def Post (D : Dir) (Γ : Nat → Prop) (σ : Store) (H : Array Obj) (v : V) (ws : List (Nat × Ob)) (x : Value) (H' : Array Obj) : Prop :=
  ∃ D' Γ', VR D' Γ' H' v x ∧ SR D' Γ' (lay σ ws) H' ∧ Ext D Γ H D' Γ' H'

theorem Post.still (h : SR D Γ σ H) {v : V} {x : Value} (hv : VR D Γ H v x) : Post D Γ σ H v [] x H := ⟨D, Γ, hv, h, Ext.refl ..⟩

/-- A new row or variable. -/
theorem SR.alloc (h : SR D Γ σ H) {nid : Nat} (hn : σ[nid]? = some .vir) (pure : Bool) (sz : Nat) (xs : List (List V)) (cells : Array Value) (T : TypeId)
    (hx : ∀ x ∈ xs, x.length = sz) (hsz : xs.length * sz ≤ cells.size) (h0 : cells.size = 0 → xs = [])
    (hc : ∀ (k : Nat) (c : V), xs.flatten[k]? = some c → ∃ v, cells[k]? = some v ∧ if pure then PR Γ H c v else LR D Γ H c v) :
    SR (D.set nid (.live H.size 0 sz cells.size true)) Γ (σ.set nid (.cells true pure sz xs)) (H.push (.cells cells T)) ∧
    Ext D Γ H (D.set nid (.live H.size 0 sz cells.size true)) Γ (H.push (.cells cells T)) := by
  have hd := h.virD hn
  have hlt : nid < D.length := (List.getElem?_eq_some_iff.1 hd).1
  have hpush : ∀ b, b < H.size → (H.push (Obj.cells cells T))[b]? = H[b]? := by
    intro b hb; rw [Array.getElem?_push_lt hb]; simp [hb]
  have he : Ext D Γ H (D.set nid (.live H.size 0 sz cells.size true)) Γ (H.push (.cells cells T)) := by
    refine ⟨fun i s hs => ?_, by simp, fun b hb _ => hpush b hb, fun _ hb => hb, fun b hb => ?_, fun b hb => .inl hb⟩
    · by_cases e : nid = i
      · subst e; rw [hd] at hs; cases hs; exact ⟨_, get_set hd, trivial⟩
      · exact ⟨s, by rw [List.getElem?_set_ne e]; exact hs, slotLe_refl s⟩
    · obtain ⟨i, base, sz', tot, hi, ht⟩ := hb
      rcases set_get hi with ⟨_, e⟩ | ⟨_, e⟩
      · cases e; exact .inr (Nat.le_refl _)
      · exact .inl ⟨i, base, sz', tot, e, ht⟩
  have hown : ∀ (i b base sz' tot : Nat) (own : Bool), D[i]? = some (Slot.live b base sz' tot own) → 0 < tot → b < H.size := by
    intro i b base sz' tot own hi ht
    rcases h.ob i with ⟨_, h2⟩ | ⟨_, h2⟩ | ⟨_, h2⟩ | ⟨own', pure', sz'', xs', blk', base', tot', _, h2, h3⟩ <;> rw [h2] at hi <;> cases hi
    obtain ⟨_, h3⟩ := h3
    rcases h3 with ⟨h4, _⟩ | ⟨_, cells', T', fz', h4, _⟩
    · omega
    · exact (Array.getElem?_eq_some_iff.1 h4).1
  refine ⟨⟨by simp [h.len], fun i => ?_, fun i j b base1 sz1 tot1 base2 sz2 tot2 h1 h2 t1 t2 => ?_, fun b hb => ?_⟩, he⟩
  · by_cases e : nid = i
    · subst e
      refine .inr (.inr (.inr ⟨true, pure, sz, xs, H.size, 0, cells.size, get_set hn, get_set hd, hx, ?_⟩))
      by_cases hz : cells.size = 0
      · exact .inl ⟨hz, h0 hz⟩
      · refine .inr ⟨by omega, cells, T, (0, 0), by simp, rfl, fun _ => rfl, by omega, fun k c hk => ?_, fun _ hg => absurd (h.there _ hg) (by omega), fun hf => by cases hf⟩
        obtain ⟨v, hv, hp⟩ := hc k c hk
        refine ⟨v, by rw [Nat.zero_add]; exact hv, ?_⟩
        cases pure
        · simp only [Bool.false_eq_true, if_false] at hp ⊢; exact he.lr h hp
        · simp only [if_true] at hp ⊢; exact he.pr h hp
    · rcases h.ob i with ⟨h1, h2⟩ | ⟨h1, h2⟩ | ⟨h1, h2⟩ | ⟨own', pure', sz', xs', blk', base', tot', h1, h2, h3⟩
      · exact .inl ⟨by rw [List.getElem?_set_ne e]; exact h1, by rw [List.getElem?_set_ne e]; exact h2⟩
      · exact .inr (.inl ⟨by rw [List.getElem?_set_ne e]; exact h1, by rw [List.getElem?_set_ne e]; exact h2⟩)
      · exact .inr (.inr (.inl ⟨by rw [List.getElem?_set_ne e]; exact h1, by rw [List.getElem?_set_ne e]; exact h2⟩))
      · exact .inr (.inr (.inr ⟨own', pure', sz', xs', blk', base', tot', by rw [List.getElem?_set_ne e]; exact h1, by rw [List.getElem?_set_ne e]; exact h2,
          h3.mono h he (fun ht => hpush _ (hown _ _ _ _ _ _ h2 ht)) fun ho ht hg => h.ownNot _ hg ⟨i, base', sz', tot', by rw [← ho]; exact h2, ht⟩⟩))
  · rcases set_get h1 with ⟨e1, e1'⟩ | ⟨e1, e1'⟩ <;> rcases set_get h2 with ⟨e2, e2'⟩ | ⟨e2, e2'⟩
    · omega
    · cases e1'; exact absurd (hown _ _ _ _ _ _ e2' t2) (by omega)
    · cases e2'; exact absurd (hown _ _ _ _ _ _ e1' t1) (by omega)
    · exact h.apart _ _ _ _ _ _ _ _ _ e1' e2' t1 t2
  · have := h.there b hb; simp; omega

/-- The cells of one's own row are written. -/
theorem SR.write (h : SR D Γ σ H) {id : Nat} {pure : Bool} {sz : Nat} {xs xs' : List (List V)} (hi : σ[id]? = some (.cells true pure sz xs)) {blk base tot : Nat}
    (hd : D[id]? = some (.live blk base sz tot true)) {cells cells' : Array Value} {T : TypeId} {fz : Nat × Nat} (hb : H[blk]? = some (.cells cells T fz)) (hsz : cells'.size = cells.size) (ht : 0 < tot)
    (hx : ∀ x ∈ xs', x.length = sz) (hl : base + xs'.length * sz ≤ tot)
    (hc : ∀ (k : Nat) (c : V), xs'.flatten[k]? = some c → ∃ v, cells'[base + k]? = some v ∧ if pure then PR Γ H c v else LR D Γ H c v)
    (hH : ∀ b, b ≠ blk → H'[b]? = H[b]?) (hH' : H'[blk]? = some (.cells cells' T fz)) (hs : H'.size = H.size) :
    SR D Γ (σ.set id (.cells true pure sz xs')) H' ∧ Ext D Γ H D Γ H' := by
  have hob : ownB D blk := ⟨id, base, sz, tot, hd, ht⟩
  have he : Ext D Γ H D Γ H' := by
    refine ⟨fun i s hs => ⟨s, hs, slotLe_refl s⟩, by omega, fun b _ hn => hH b fun e => hn (e ▸ hob), fun _ hb => hb, fun _ hb => .inl hb, fun _ hb => .inl hb⟩
  refine ⟨⟨by simp [h.len], fun i => ?_, h.apart, fun b hb => by rw [hs]; exact h.there b hb⟩, he⟩
  by_cases e : id = i
  · subst e
    obtain ⟨blk', base', tot', hd', ho⟩ := h.live hi
    rw [hd] at hd'; cases hd'
    obtain ⟨_, ho⟩ := ho
    rcases ho with ⟨h9, _⟩ | ⟨_, cells0, T0, fz0, g1, g2, g3, g4, g6, g7, g8⟩
    · omega
    · rw [hb] at g1; cases g1
      refine .inr (.inr (.inr ⟨true, pure, sz, xs', blk, base, tot, get_set hi, hd, hx, .inr ⟨ht, cells', T, fz, hH', by omega, g3, hl, fun k c hk => ?_, g7, fun hf => by cases hf⟩⟩))
      obtain ⟨v, hv, hp⟩ := hc k c hk
      refine ⟨v, hv, ?_⟩
      cases pure
      · simp only [Bool.false_eq_true, if_false] at hp ⊢; exact he.lr h hp
      · simp only [if_true] at hp ⊢; exact he.pr h hp
  · rcases h.ob i with ⟨h1, h2⟩ | ⟨h1, h2⟩ | ⟨h1, h2⟩ | ⟨own', pure', sz', xs'', blk', base', tot', h1, h2, h3⟩
    · exact .inl ⟨by rw [List.getElem?_set_ne e]; exact h1, h2⟩
    · exact .inr (.inl ⟨by rw [List.getElem?_set_ne e]; exact h1, h2⟩)
    · exact .inr (.inr (.inl ⟨by rw [List.getElem?_set_ne e]; exact h1, h2⟩))
    · refine .inr (.inr (.inr ⟨own', pure', sz', xs'', blk', base', tot', by rw [List.getElem?_set_ne e]; exact h1, h2,
          h3.mono h he (fun ht' => hH _ fun e' => ?_) fun ho ht hg => h.ownNot _ hg ⟨i, base', sz', tot', by rw [← ho]; exact h2, ht⟩⟩))
      subst e'
      cases own' with
      | true => exact e (h.apart _ _ _ _ _ _ _ _ _ hd h2 ht ht')
      | false =>
        obtain ⟨_, h3⟩ := h3
        rcases h3 with ⟨h9, _⟩ | ⟨_, c9, T9, f9, _, _, _, _, _, _, g8⟩
        · omega
        · exact h.ownNot _ (g8 rfl) hob

/-- One's own row is given up. -/
theorem SR.kill (h : SR D Γ σ H) {id : Nat} {pure : Bool} {sz : Nat} {xs : List (List V)} (hi : σ[id]? = some (.cells true pure sz xs)) :
    SR (D.set id .dead) Γ (σ.set id .dead) H ∧ Ext D Γ H (D.set id .dead) Γ H := by
  obtain ⟨blk, base, tot, hd, _⟩ := h.live hi
  have he : Ext D Γ H (D.set id .dead) Γ H := by
    refine ⟨fun i s hs => ?_, Nat.le_refl _, fun _ _ _ => rfl, fun _ hb => hb, fun b hb => .inl (ownB_set_false (by intro _ _ _ _ e; cases e) hb), fun _ hb => .inl hb⟩
    by_cases e : id = i
    · subst e; rw [hd] at hs; cases hs; exact ⟨_, get_set hd, .inl rfl⟩
    · exact ⟨s, by rw [List.getElem?_set_ne e]; exact hs, slotLe_refl s⟩
  refine ⟨⟨by simp [h.len], fun i => ?_, fun i j b base1 sz1 tot1 base2 sz2 tot2 h1 h2 t1 t2 => ?_, h.there⟩, he⟩
  · by_cases e : id = i
    · subst e; exact .inr (.inr (.inl ⟨get_set hi, get_set hd⟩))
    · rcases h.ob i with ⟨h1, h2⟩ | ⟨h1, h2⟩ | ⟨h1, h2⟩ | ⟨own', pure', sz', xs', blk', base', tot', h1, h2, h3⟩
      · exact .inl ⟨by rw [List.getElem?_set_ne e]; exact h1, by rw [List.getElem?_set_ne e]; exact h2⟩
      · exact .inr (.inl ⟨by rw [List.getElem?_set_ne e]; exact h1, by rw [List.getElem?_set_ne e]; exact h2⟩)
      · exact .inr (.inr (.inl ⟨by rw [List.getElem?_set_ne e]; exact h1, by rw [List.getElem?_set_ne e]; exact h2⟩))
      · exact .inr (.inr (.inr ⟨own', pure', sz', xs', blk', base', tot', by rw [List.getElem?_set_ne e]; exact h1, by rw [List.getElem?_set_ne e]; exact h2,
          h3.mono h he (fun _ => rfl) fun ho ht hg => h.ownNot _ hg ⟨i, base', sz', tot', by rw [← ho]; exact h2, ht⟩⟩))
  · rcases set_get h1 with ⟨_, e⟩ | ⟨_, e1⟩
    · cases e
    · rcases set_get h2 with ⟨_, e⟩ | ⟨_, e2⟩
      · cases e
      · exact h.apart _ _ _ _ _ _ _ _ _ e1 e2 t1 t2

/-- A slot that was kept free takes over the memory of a row that was given up. -/
theorem SR.take (h : SR D Γ σ H) {nid : Nat} (hn : σ[nid]? = some .vir) (pure : Bool) (sz : Nat) (xs : List (List V)) {blk base tot : Nat} (hob : OR D Γ H blk base tot true pure sz xs)
    (hfree : ∀ i base' sz' tot' : Nat, D[i]? = some (Slot.live blk base' sz' tot' true) → 0 < tot' → 0 < tot → False) {B : Nat → Prop} (hB : 0 < tot → B blk) :
    SR (D.set nid (.live blk base sz tot true)) Γ (σ.set nid (.cells true pure sz xs)) H ∧
    (∀ b, ownB (D.set nid (.live blk base sz tot true)) b → ownB D b ∨ B b) ∧
    (∀ (i : Nat) (s : Slot), D[i]? = some s → ∃ s', (D.set nid (.live blk base sz tot true))[i]? = some s' ∧ slotLe s s') := by
  have hd := h.virD hn
  have hslot : ∀ (i : Nat) (s : Slot), D[i]? = some s → ∃ s', (D.set nid (.live blk base sz tot true))[i]? = some s' ∧ slotLe s s' := by
    intro i s hs
    by_cases e : nid = i
    · subst e; rw [hd] at hs; cases hs; exact ⟨_, get_set hd, trivial⟩
    · exact ⟨s, by rw [List.getElem?_set_ne e]; exact hs, slotLe_refl s⟩
  have hown : ∀ b, ownB (D.set nid (.live blk base sz tot true)) b → ownB D b ∨ (b = blk ∧ 0 < tot) := by
    rintro b ⟨i, base', sz', tot', hi, ht⟩
    rcases set_get hi with ⟨_, e⟩ | ⟨_, e⟩
    · cases e; exact .inr ⟨rfl, ht⟩
    · exact .inl ⟨i, base', sz', tot', e, ht⟩
  have hlr : ∀ {c : V} {v : Value}, LR D Γ H c v → LR (D.set nid (.live blk base sz tot true)) Γ H c v := by
    intro c v hp
    induction hp with
    | pr hp => exact .pr hp
    | hsDead hd' h0 =>
      obtain ⟨s', k1, k2⟩ := hslot _ _ hd'
      simp only [slotLe] at k2; subst k2; exact .hsDead k1 h0
    | ptrDead hd' h0 =>
      obtain ⟨s', k1, k2⟩ := hslot _ _ hd'
      simp only [slotLe] at k2; subst k2; exact .ptrDead k1 h0
    | hs hd' hl ht =>
      rename_i id off len blk' base' sz' tot' own' a cap
      have : nid ≠ id := by intro e; subst e; rw [hd] at hd'; cases hd'
      exact .hs (by rw [List.getElem?_set_ne this]; exact hd') hl ht
    | ptr hd' =>
      rename_i id i off blk' base' sz' tot' own'
      have : nid ≠ id := by intro e; subst e; rw [hd] at hd'; cases hd'
      exact .ptr (by rw [List.getElem?_set_ne this]; exact hd')
    | fn arr hl hh ih => exact .fn arr hl ih
  have hOR : ∀ {blk' base' tot' : Nat} {own' pure' : Bool} {sz' : Nat} {xs' : List (List V)}, OR D Γ H blk' base' tot' own' pure' sz' xs' → OR (D.set nid (.live blk base sz tot true)) Γ H blk' base' tot' own' pure' sz' xs' := by
    intro blk' base' tot' own' pure' sz' xs' ho
    obtain ⟨k1, ho⟩ := ho
    refine ⟨k1, ?_⟩
    rcases ho with ho | ⟨g0, cells, T, fz, g1, g2, g3, g4, g5, g6⟩
    · exact .inl ho
    · refine .inr ⟨g0, cells, T, fz, g1, g2, g3, g4, fun k c hk => ?_, g6⟩
      obtain ⟨v, hv, hp⟩ := g5 k c hk
      refine ⟨v, hv, ?_⟩
      cases pure'
      · simp only [Bool.false_eq_true, if_false] at hp ⊢; exact hlr hp
      · exact hp
  refine ⟨⟨by simp [h.len], fun i => ?_, fun i j b base1 sz1 tot1 base2 sz2 tot2 h1 h2 t1 t2 => ?_, h.there⟩, fun b hb => (hown b hb).imp id fun ⟨e, ht⟩ => by rw [e]; exact hB ht, hslot⟩
  · by_cases e : nid = i
    · subst e; exact .inr (.inr (.inr ⟨true, pure, sz, xs, blk, base, tot, get_set hn, get_set hd, hOR hob⟩))
    · rcases h.ob i with ⟨h1, h2⟩ | ⟨h1, h2⟩ | ⟨h1, h2⟩ | ⟨own', pure', sz', xs', blk', base', tot', h1, h2, h3⟩
      · exact .inl ⟨by rw [List.getElem?_set_ne e]; exact h1, by rw [List.getElem?_set_ne e]; exact h2⟩
      · exact .inr (.inl ⟨by rw [List.getElem?_set_ne e]; exact h1, by rw [List.getElem?_set_ne e]; exact h2⟩)
      · exact .inr (.inr (.inl ⟨by rw [List.getElem?_set_ne e]; exact h1, by rw [List.getElem?_set_ne e]; exact h2⟩))
      · exact .inr (.inr (.inr ⟨own', pure', sz', xs', blk', base', tot', by rw [List.getElem?_set_ne e]; exact h1, by rw [List.getElem?_set_ne e]; exact h2, hOR h3⟩))
  · rcases set_get h1 with ⟨e1, e1'⟩ | ⟨e1, e1'⟩ <;> rcases set_get h2 with ⟨e2, e2'⟩ | ⟨e2, e2'⟩
    · omega
    · cases e1'; exact (hfree _ _ _ _ e2' t2 t1).elim
    · cases e2'; exact (hfree _ _ _ _ e1' t1 t2).elim
    · exact h.apart _ _ _ _ _ _ _ _ _ e1' e2' t1 t2
end
end Go.VM
