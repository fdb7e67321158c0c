/- The machine over plain values: what a call takes in. No condition beyond those stated. -/
import Derived.Test.YtifalphladcdcaaGreatVmAB
set_option linter.unusedVariables false
set_option linter.unusedSimpArgs false
namespace Go.VM

/-- The directory as a call sees it. -/
def img (D : Dir) (ids : List Nat) : Dir := ids.map fun id => D.getD id .vir

theorem img_get {D : Dir} {ids : List Nat} {j id : Nat} {s : Slot} (h : ids[j]? = some id) (hd : D[id]? = some s) : (img D ids)[j]? = some s := by
  simp only [img, List.getElem?_map, h, Option.map_some, List.getD_eq_getElem?_getD, hd, Option.getD_some]

theorem img_inv {D : Dir} {ids : List Nat} {j : Nat} {s : Slot} (h : (img D ids)[j]? = some s) (hs : s ≠ .vir) : ∃ id, ids[j]? = some id ∧ D[id]? = some s := by
  simp only [img, List.getElem?_map] at h
  cases hj : ids[j]? with
  | none => rw [hj] at h; simp at h
  | some id =>
    rw [hj] at h
    simp only [Option.map_some, Option.some.injEq, List.getD_eq_getElem?_getD] at h
    refine ⟨id, rfl, ?_⟩
    cases hd : D[id]? with
    | none => rw [hd] at h; exact absurd h.symm hs
    | some s' => rw [hd] at h; simp at h; rw [h]

/-- What is kept while a call's arguments are taken in. -/
structure Imp.Le (s s' : Imp) : Prop where
  ids : ∃ l, s'.ids = s.ids ++ l
  sn : ∀ p ∈ s.sn, p ∈ s'.sn
  nodup : s.ids.Nodup → s'.ids.Nodup

theorem Imp.Le.refl (s : Imp) : s.Le s := ⟨⟨[], by simp⟩, fun _ h => h, fun h => h⟩
theorem Imp.Le.trans {a b c : Imp} (h : a.Le b) (h' : b.Le c) : a.Le c := by
  obtain ⟨l, hl⟩ := h.ids
  obtain ⟨l', hl'⟩ := h'.ids
  exact ⟨⟨l ++ l', by rw [hl', hl, List.append_assoc]⟩, fun p hp => h'.sn p (h.sn p hp), fun hn => h'.nodup (h.nodup hn)⟩
theorem Imp.Le.get {a b : Imp} (h : a.Le b) {j id : Nat} (hj : a.ids[j]? = some id) : b.ids[j]? = some id := by
  obtain ⟨l, hl⟩ := h.ids
  rw [hl, List.getElem?_append_left (List.getElem?_eq_some_iff.1 hj).1]; exact hj

theorem impId_ok (s : Imp) (id : Nat) : s.Le (impId s id).1 ∧ (impId s id).1.ids[(impId s id).2]? = some id := by
  unfold impId
  cases h : s.ids.idxOf? id with
  | some j =>
    have := List.idxOf?_eq_some_iff.1 h
    obtain ⟨hj, he, _⟩ := this
    exact ⟨Imp.Le.refl s, by show s.ids[j]? = some id; rw [List.getElem?_eq_getElem hj]; exact congrArg some (by first | exact he | exact eq_of_beq he)⟩
  | none =>
    have hn : id ∉ s.ids := List.idxOf?_eq_none_iff.1 h
    refine ⟨⟨⟨[id], rfl⟩, fun _ h => h, fun hnd => ?_⟩, by simp⟩
    simp only
    rw [List.nodup_append]
    exact ⟨hnd, by simp, fun a ha b hb => by simp at hb; subst hb; exact fun e => hn (e ▸ ha)⟩

/-- The store in which what was told as a list is written no more. -/
structure Froz (σ σ0 : Store) (sn : List (Nat × Ob)) : Prop where
  at_ : ∀ p ∈ sn, σ0[p.1]? = some p.2
  stay : ∀ (id sz : Nat) (xs : List (List V)), σ[id]? = some (.cells false true sz xs) → σ0[id]? = some (.cells false true sz xs)

/-- A cell is taken in well. -/
def ImpOK (σ : Store) (s : Imp) (c c' : V) : Prop :=
  ∀ (t : Imp) (σ0 : Store) (D : Dir) (Γ : Nat → Prop) (H : Array Obj) (v : Value), s.Le t → Froz σ σ0 t.sn → SR D Γ σ0 H → LR D Γ H c v → LR (img D t.ids) Γ H c' v

theorem ImpOK.mono {σ : Store} {s s' : Imp} {c c' : V} (h : ImpOK σ s c c') (hs : s.Le s') : ImpOK σ s' c c' :=
  fun t σ0 D Γ H v ht => h t σ0 D Γ H v (hs.trans ht)

def SnOK (σ : Store) (s : Imp) : Prop := Frz σ s.sn

theorem impLeaf_inv {σ : Store} {rw' : Bool} {s : Imp} {c : V} {k : Imp → V → M} {r : V × List (Nat × Ob)} (h : (impLeaf rw' s c k).run σ = some r) (hsn : SnOK σ s) :
    ∃ s' c', (k s' c').run σ = some r ∧ s.Le s' ∧ SnOK σ s' ∧ ImpOK σ s' c c' ∧ (c ≠ .undef ∨ c' = .undef) := by
  have pass : ∀ {c : V}, (∀ id off len, c ≠ .hs id off len) → (∀ id i off, c ≠ .ptr id i off) → (∀ f d ds, c ≠ .fn f (d :: ds)) → (k s c).run σ = some r →
      ∃ s' c', (k s' c').run σ = some r ∧ s.Le s' ∧ SnOK σ s' ∧ ImpOK σ s' c c' ∧ (c ≠ .undef ∨ c' = .undef) := by
    intro c h1 h2 h3 hk
    refine ⟨s, c, hk, Imp.Le.refl s, hsn, fun t σ0 D Γ H v _ _ _ hl => ?_, ?_⟩
    · cases hl with
      | pr h => exact .pr h
      | hsDead => exact absurd rfl (h1 _ _ _)
      | hs => exact absurd rfl (h1 _ _ _)
      | ptrDead => exact absurd rfl (h2 _ _ _)
      | ptr => exact absurd rfl (h2 _ _ _)
      | fn arr hl hh =>
        rename_i f cs
        cases cs with
        | nil => exact .fn arr hl fun k c v h => by simp at h
        | cons d ds => exact absurd rfl (h3 _ _ _)
    · by_cases e : c = .undef
      · exact .inr e
      · exact .inl e
  cases c with
  | hs id off len =>
    simp only [impLeaf] at h
    split at h
    · obtain ⟨l1, l2⟩ := impId_ok s id
      refine ⟨_, _, h, l1, by intro p hp; apply hsn; revert hp; unfold impId; split <;> exact fun h => h, fun t σ0 D Γ H v ht _ _ hl => ?_, .inl (by simp)⟩
      have hj := ht.get l2
      cases hl with
      | pr h => cases h
      | hsDead hd h0 => exact .hsDead (img_get hj hd) h0
      | hs hd hl hc => exact .hs (img_get hj hd) hl hc
    · obtain ⟨ob, hob, h⟩ := run_get h
      split at h
      · rename_i own sz xs
        split at h
        · rename_i hle
          have hle' : s.Le (if own then { s with sn := (id, .cells false true sz xs) :: s.sn } else s) := by
            split
            · exact ⟨⟨[], by simp⟩, fun p hp => by simp [hp], fun h => h⟩
            · exact Imp.Le.refl s
          refine ⟨_, _, h, hle', ?_, fun t σ0 D Γ H v ht hf hs hl => ?_, .inl (by simp)⟩
          · intro p hp
            split at hp
            · rcases List.mem_cons.1 hp with rfl | hp
              · exact ⟨own, sz, xs, hob, rfl⟩
              · exact hsn p hp
            · exact hsn p hp
          · have hz : σ0[id]? = some (.cells false true sz xs) := by
              cases own with
              | true => exact hf.at_ _ (ht.sn (id, .cells false true sz xs) (by simp))
              | false => exact hf.stay _ _ _ hob
            obtain ⟨blk, base, tot, hd, hor⟩ := hs.live hz
            obtain ⟨a, cap, rfl, hc, ht'⟩ := hl.hs_inv hd
            refine .pr ?_
            by_cases h0 : 0 < tot
            · have hG : Γ blk := by
                obtain ⟨_, hor⟩ := hor
                rcases hor with ⟨h9, _⟩ | ⟨_, cells, T, fz, _, _, _, _, _, _, g8⟩
                · omega
                · exact g8 rfl
              exact hor.list hle hc ht' hG fun _ hb => hb
            · have : xs = [] := by
                obtain ⟨_, hor⟩ := hor
                rcases hor with ⟨_, h9⟩ | ⟨h9, _⟩
                · exact h9
                · omega
              subst this
              have hl0 : len = 0 := by simp at hle; omega
              subst hl0
              rw [List.take_zero]
              exact .list0 _ _ _ fun e => Classical.byContradiction fun hc0 => by have := (ht' hc0).1; rw [e] at this; cases this
        · exact (run_fail h).elim
      · exact (run_fail h).elim
  | ptr id i off =>
    simp only [impLeaf] at h
    obtain ⟨l1, l2⟩ := impId_ok s id
    refine ⟨_, _, h, l1, by intro p hp; apply hsn; revert hp; unfold impId; split <;> exact fun h => h, fun t σ0 D Γ H v ht _ _ hl => ?_, .inl (by simp)⟩
    have hj := ht.get l2
    cases hl with
    | pr h => cases h
    | ptrDead hd h0 => exact .ptrDead (img_get hj hd) h0
    | ptr hd => exact .ptr (img_get hj hd)
  | agg => exact (run_fail h).elim
  | tup => exact (run_fail h).elim
  | fn f cs =>
    cases cs with
    | nil => exact pass (by simp) (by simp) (by simp) h
    | cons => exact (run_fail h).elim
  | _ => exact pass (by simp) (by simp) (by simp) h

theorem impLeafs_inv {σ : Store} {rw' : Bool} {r : V × List (Nat × Ob)} : ∀ {cs : List V} {s : Imp} {k : Imp → List V → M}, (impLeafs rw' s cs k).run σ = some r → SnOK σ s →
    ∃ s' cs', (k s' cs').run σ = some r ∧ s.Le s' ∧ SnOK σ s' ∧ cs'.length = cs.length ∧ ∀ (i : Nat) (c c' : V), cs[i]? = some c → cs'[i]? = some c' → ImpOK σ s' c c'
  | [], s, k, h, hsn => ⟨s, [], h, Imp.Le.refl s, hsn, rfl, fun i c c' h => by simp at h⟩
  | c :: cs, s, k, h, hsn => by
    simp only [impLeafs] at h
    obtain ⟨s1, c1, h, l1, n1, o1, _⟩ := impLeaf_inv h hsn
    obtain ⟨s2, cs2, h, l2, n2, e2, o2⟩ := impLeafs_inv h n1
    refine ⟨s2, _, h, l1.trans l2, n2, by simp [e2], fun i d d' h1 h2 => ?_⟩
    cases i with
    | zero => simp at h1 h2; subst h1; subst h2; exact o1.mono l2
    | succ i => simp at h1 h2; exact o2 i d d' h1 h2

/-- An argument is taken in well. -/
def ImpA (σ : Store) (s : Imp) (c c' : V) : Prop :=
  ∀ (t : Imp) (σ0 : Store) (D : Dir) (Γ : Nat → Prop) (H : Array Obj) (v : Value), s.Le t → Froz σ σ0 t.sn → SR D Γ σ0 H → VR D Γ H c v → AR (img D t.ids) Γ H c' v

theorem impA_inv {σ : Store} {rw' : Bool} {s : Imp} {c : V} {k : Imp → V → M} {r : V × List (Nat × Ob)} (h : (impA rw' s c k).run σ = some r) (hsn : SnOK σ s) :
    ∃ s' c', (k s' c').run σ = some r ∧ s.Le s' ∧ SnOK σ s' ∧ ImpA σ s' c c' := by
  have leaf : (impLeaf rw' s c k).run σ = some r → (∀ cs, c ≠ .agg cs) → (∀ cs, c ≠ .tup cs) → ∃ s' c', (k s' c').run σ = some r ∧ s.Le s' ∧ SnOK σ s' ∧ ImpA σ s' c c' := by
    intro h h1 h2
    obtain ⟨s', c', h, l, n, o, u⟩ := impLeaf_inv h hsn
    refine ⟨s', c', h, l, n, fun t σ0 D Γ H v ht hf hs hv => ?_⟩
    cases hv with
    | one hv => cases hv with
      | any v =>
        rcases u with u | u
        · exact absurd rfl u
        · subst u; exact .any v
      | leaf hv => exact .leaf (o t σ0 D Γ H v ht hf hs hv)
      | agg => exact absurd rfl (h1 _)
    | tup => exact absurd rfl (h2 _)
  cases c with
  | agg cs =>
    simp only [impA] at h
    obtain ⟨s', cs', h, l, n, e, o⟩ := impLeafs_inv h hsn
    refine ⟨s', _, h, l, n, fun t σ0 D Γ H v ht hf hs hv => ?_⟩
    obtain ⟨arr, rfl, hl, hh⟩ := hv.agg
    refine .agg arr (by omega) fun k c' u h1 h2 => ?_
    have hlt : k < cs.length := by have := (List.getElem?_eq_some_iff.1 h1).1; omega
    exact o k _ c' (List.getElem?_eq_getElem hlt) h1 t σ0 D Γ H u ht hf hs (hh k _ u (List.getElem?_eq_getElem hlt) h2)
  | fn f cs =>
    cases cs with
    | nil => exact leaf h (by simp) (by simp)
    | cons d ds =>
      simp only [impA] at h
      obtain ⟨s', cs', h, l, n, e, o⟩ := impLeafs_inv h hsn
      refine ⟨s', _, h, l, n, fun t σ0 D Γ H v ht hf hs hv => ?_⟩
      obtain ⟨arr, rfl, hl, hh⟩ := hv.fn
      refine .leaf (.fn arr (by omega) fun k c' u h1 h2 => ?_)
      have hlt : k < (d :: ds).length := by have := (List.getElem?_eq_some_iff.1 h1).1; omega
      exact o k _ c' (List.getElem?_eq_getElem hlt) h1 t σ0 D Γ H u ht hf hs (hh k _ u (List.getElem?_eq_getElem hlt) h2)
  | tup cs => exact (run_fail h).elim
  | _ => exact leaf h (by simp) (by simp)

theorem impArgs_inv {σ : Store} {rw' : Nat → Bool} {r : V × List (Nat × Ob)} : ∀ {vs : List V} {j : Nat} {s : Imp} {k : Imp → List V → M}, (impArgs rw' j s vs k).run σ = some r → SnOK σ s →
    ∃ s' vs', (k s' vs').run σ = some r ∧ s.Le s' ∧ SnOK σ s' ∧ vs'.length = vs.length ∧ ∀ (i : Nat) (c c' : V), vs[i]? = some c → vs'[i]? = some c' → ImpA σ s' c c'
  | [], j, s, k, h, hsn => ⟨s, [], h, Imp.Le.refl s, hsn, rfl, fun i c c' h => by simp at h⟩
  | c :: vs, j, s, k, h, hsn => by
    simp only [impArgs] at h
    obtain ⟨s1, c1, h, l1, n1, o1⟩ := impA_inv h hsn
    obtain ⟨s2, vs2, h, l2, n2, e2, o2⟩ := impArgs_inv h n1
    refine ⟨s2, _, h, l1.trans l2, n2, by simp [e2], fun i d d' h1 h2 => ?_⟩
    cases i with
    | zero =>
      simp at h1 h2; subst h1; subst h2
      exact fun t σ0 D Γ H v ht => o1 t σ0 D Γ H v (l2.trans ht)
    | succ i => simp at h1 h2; exact o2 i d d' h1 h2

theorem impRows_inv {σ : Store} {r : V × List (Nat × Ob)} : ∀ {xs : List (List V)} {s : Imp} {k : Imp → List (List V) → M}, (impRows s xs k).run σ = some r → SnOK σ s →
    ∃ s' xs', (k s' xs').run σ = some r ∧ s.Le s' ∧ SnOK σ s' ∧ xs'.length = xs.length ∧ ∀ (i : Nat) (x x' : List V), xs[i]? = some x → xs'[i]? = some x' → x'.length = x.length ∧ ∀ (j : Nat) (c c' : V), x[j]? = some c → x'[j]? = some c' → ImpOK σ s' c c'
  | [], s, k, h, hsn => ⟨s, [], h, Imp.Le.refl s, hsn, rfl, fun i c c' h => by simp at h⟩
  | x :: xs, s, k, h, hsn => by
    simp only [impRows] at h
    obtain ⟨s1, x1, h, l1, n1, e1, o1⟩ := impLeafs_inv h hsn
    obtain ⟨s2, xs2, h, l2, n2, e2, o2⟩ := impRows_inv h n1
    refine ⟨s2, _, h, l1.trans l2, n2, by simp [e2], fun i d d' h1 h2 => ?_⟩
    cases i with
    | zero => simp at h1 h2; subst h1; subst h2; exact ⟨e1, fun j c c' h1 h2 => (o1 j c c' h1 h2).mono l2⟩
    | succ i => simp at h1 h2; exact o2 i d d' h1 h2

/-- A row or variable is taken in well. -/
def ImpOb (σ : Store) (s : Imp) (id : Nat) (o : Ob) : Prop :=
  (σ[id]? = some .dead ∧ o = .dead) ∨ (∃ own sz xs, σ[id]? = some (.cells own true sz xs) ∧ o = .cells own true sz xs) ∨
  ∃ own sz xs xs', σ[id]? = some (.cells own false sz xs) ∧ o = .cells own false sz xs' ∧ xs'.length = xs.length ∧
    ∀ (i : Nat) (x x' : List V), xs[i]? = some x → xs'[i]? = some x' → x'.length = x.length ∧ ∀ (j : Nat) (c c' : V), x[j]? = some c → x'[j]? = some c' → ImpOK σ s c c'

theorem ImpOb.mono {σ : Store} {s s' : Imp} {id : Nat} {o : Ob} (h : ImpOb σ s id o) (hs : s.Le s') : ImpOb σ s' id o := by
  rcases h with h | h | ⟨own, sz, xs, xs', h1, h2, h3, h4⟩
  · exact .inl h
  · exact .inr (.inl h)
  · exact .inr (.inr ⟨own, sz, xs, xs', h1, h2, h3, fun i x x' a b => ⟨(h4 i x x' a b).1, fun j c c' e f => ((h4 i x x' a b).2 j c c' e f).mono hs⟩⟩)

theorem impObs_inv {σ : Store} {r : V × List (Nat × Ob)} : ∀ {n i : Nat} {s : Imp} {k : Imp → List Ob → M}, (impObs n i s k).run σ = some r → SnOK σ s →
    ∃ s' os, (k s' os).run σ = some r ∧ s.Le s' ∧ SnOK σ s' ∧ s'.ids.length ≤ i + os.length ∧ (i ≤ s.ids.length → i + os.length ≤ s'.ids.length) ∧ ∀ (j : Nat) (o : Ob) (id : Nat), os[j]? = some o → s'.ids[i + j]? = some id → ImpOb σ s' id o
  | 0, i, s, k, h, hsn => (run_fail h).elim
  | n + 1, i, s, k, h, hsn => by
    simp only [impObs] at h
    split at h
    · rename_i hi
      exact ⟨s, [], h, Imp.Le.refl s, hsn, by simpa using hi, fun h => by simpa using h, fun j o id h => by simp at h⟩
    · rename_i id hi
      obtain ⟨ob, hob, h⟩ := run_get h
      have fin : ∀ {s1 : Imp} {o1 : Ob} {k : Imp → List Ob → M}, s.Le s1 → SnOK σ s1 → ImpOb σ s1 id o1 → (impObs n (i + 1) s1 fun s'' os => k s'' (o1 :: os)).run σ = some r →
          ∃ s' os, (k s' os).run σ = some r ∧ s.Le s' ∧ SnOK σ s' ∧ s'.ids.length ≤ i + os.length ∧ (i ≤ s.ids.length → i + os.length ≤ s'.ids.length) ∧ ∀ (j : Nat) (o : Ob) (id : Nat), os[j]? = some o → s'.ids[i + j]? = some id → ImpOb σ s' id o := by
        intro s1 o1 k l1 n1 q1 h
        obtain ⟨s2, os, h, l2, n2, e2, e3, q2⟩ := impObs_inv h n1
        have hi1 : s2.ids[i]? = some id := l2.get (l1.get hi)
        refine ⟨s2, _, h, l1.trans l2, n2, by simp; omega, fun hle => ?_, fun j o id' h1 h2 => ?_⟩
        · have : i + 1 ≤ s1.ids.length := by have := (List.getElem?_eq_some_iff.1 (l1.get hi)).1; omega
          have := e3 this
          simp; omega
        · cases j with
          | zero =>
            simp at h1 h2
            subst h1
            rw [hi1] at h2; cases h2
            exact q1.mono l2
          | succ j =>
            simp at h1
            rw [show i + (j + 1) = i + 1 + j by omega] at h2
            exact q2 j o id' h1 h2
      split at h
      · rename_i own sz xs
        obtain ⟨s1, xs1, h, l1, n1, e1, o1⟩ := impRows_inv h hsn
        exact fin l1 n1 (.inr (.inr ⟨own, sz, xs, xs1, hob, rfl, e1, o1⟩)) h
      · rename_i own sz xs
        exact fin (Imp.Le.refl s) hsn (.inr (.inl ⟨own, sz, xs, hob, rfl⟩)) h
      · exact fin (Imp.Le.refl s) hsn (.inl ⟨hob, rfl⟩) h
      · exact (run_fail h).elim
end Go.VM
