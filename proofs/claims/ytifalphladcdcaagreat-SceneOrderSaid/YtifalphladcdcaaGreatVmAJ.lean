/- The machine over plain values: what it answers, the model's machine answers. No condition beyond those stated. -/
import Derived.Test.YtifalphladcdcaaGreatVmAI
set_option linter.unusedVariables false
set_option linter.unusedSimpArgs false
namespace Go.VM
section
variable {P : Program} {X : Cx} {C : Oracle}

/-- As Ext, for the first m names. -/
structure ExtM (m : Nat) (D : Dir) (Γ : Nat → Prop) (H : Array Obj) (D' : Dir) (Γ' : Nat → Prop) (H' : Array Obj) : Prop where
  slot : ∀ (i : Nat) (s : Slot), i < m → D[i]? = some s → ∃ s' : Slot, D'[i]? = some s' ∧ slotLe s s'
  size : H.size ≤ H'.size
  same : ∀ b, b < H.size → ¬ ownB D b → H'[b]? = H[b]?
  keep : ∀ b, Γ b → Γ' b
  own : ∀ b, ownB D' b → ownB D b ∨ H.size ≤ b
  grow : ∀ b, Γ' b → Γ b ∨ ownB D b ∨ H.size ≤ b

theorem Ext.toM {D D' : Dir} {Γ Γ' : Nat → Prop} {H H' : Array Obj} (h : Ext D Γ H D' Γ' H') (m : Nat) : ExtM m D Γ H D' Γ' H' := ⟨fun i s _ hs => h.slot i s hs, h.size, h.same, h.keep, h.own, h.grow⟩

theorem ExtM.trans {m : Nat} {D D' D'' : Dir} {Γ Γ' Γ'' : Nat → Prop} {H H' H'' : Array Obj} (h : ExtM m D Γ H D' Γ' H') (h' : ExtM m D' Γ' H' D'' Γ'' H'') : ExtM m D Γ H D'' Γ'' H'' where
  slot i s hi hs := by
    obtain ⟨s', h1, h2⟩ := h.slot i s hi hs
    obtain ⟨s'', h3, h4⟩ := h'.slot i s' hi h1
    refine ⟨s'', h3, ?_⟩
    by_cases hv : s = .vir
    · subst hv; trivial
    · exact slotLe_trans hv h2 h4
  size := Nat.le_trans h.size h'.size
  same b hb hn := by
    rw [h'.same b (Nat.lt_of_lt_of_le hb h.size) (fun ho => (h.own b ho).elim hn (fun hl => by omega)), h.same b hb hn]
  keep b hb := h'.keep b (h.keep b hb)
  own b hb := by
    rcases h'.own b hb with h1 | h1
    · exact h.own b h1
    · exact .inr (Nat.le_trans h.size h1)
  grow b hb := by
    rcases h'.grow b hb with h1 | h1 | h1
    · exact h.grow b h1
    · exact .inr (h.own b h1)
    · exact .inr (.inr (Nat.le_trans h.size h1))

theorem tidied_ext {D : Dir} {Γ : Nat → Prop} {σ : Store} {H : Array Obj} (hs : SR D Γ σ H) (m : Nat) (vs : List V) : ExtM m D Γ H (img D (tidy m σ vs)) Γ H := by
  obtain ⟨h1, h2⟩ := tidy_spec m σ vs
  refine ⟨fun i s hi hd => ⟨s, img_get (h2 i hi) hd, slotLe_refl s⟩, Nat.le_refl _, fun _ _ _ => rfl, fun _ h => h, fun b hb => .inl ((hs.tidied h1).2.2 b hb), fun _ h => .inl h⟩

theorem prep_ok {D : Dir} {Γ : Nat → Prop} {s : S} {a : Act} {w : World} (hst : St D Γ s a w) (m : Nat) (keep : List Nat) : ∃ D', St D' Γ (prep m keep s) a w ∧ ExtM m D Γ w.heap D' Γ w.heap := by
  let T := s.T.zipIdx.map fun p => if keep.contains p.2 then p.1 else V.undef
  obtain ⟨h1, _⟩ := tidy_spec m s.σ T
  obtain ⟨s1, s2, s3⟩ := hst.sr.tidied h1
  refine ⟨img D (tidy m s.σ T), ⟨s1, ?_, fun i c v e1 e2 => ?_⟩, tidied_ext hst.sr m T⟩
  · simp [prep, hst.tr.1]
  · simp only [prep, List.getElem?_map, List.getElem?_zipIdx] at e1
    cases hq : s.T[i]? with
    | none => rw [hq] at e1; simp at e1
    | some d =>
      rw [hq] at e1
      simp only [Option.map_some, Option.some.injEq] at e1
      subst e1
      split
      · exact renV_vr s2 (hst.tr.2 i d v hq e2)
      · exact .one (.any _)

theorem nil_inv {D : Dir} {Γ : Nat → Prop} {H : Array Obj} {v : Value} (h : LR D Γ H .nilS v) : v = .slice none 0 0 := by
  cases h with | pr h => cases h; rfl

/-- One more row, of the call's own, without elements. -/
theorem SR.empty {D : Dir} {Γ : Nat → Prop} {σ : Store} {H : Array Obj} (h : SR D Γ σ H) (sz : Nat) :
    SR (D ++ [.live 0 0 sz 0 true]) Γ (σ ++ [.cells true true sz []]) H ∧ Ext D Γ H (D ++ [.live 0 0 sz 0 true]) Γ H := by
  have hown : ∀ b, ownB (D ++ [.live 0 0 sz 0 true]) b → ownB D b := by
    rintro b ⟨i, base, sz', tot, h1, h2⟩
    by_cases hi : i < D.length
    · rw [List.getElem?_append_left hi] at h1; exact ⟨i, base, sz', tot, h1, h2⟩
    · rw [List.getElem?_append_right (by omega)] at h1
      cases hq : i - D.length with
      | zero => rw [hq] at h1; simp at h1; omega
      | succ n => rw [hq] at h1; simp at h1
  have hext : Ext D Γ H (D ++ [.live 0 0 sz 0 true]) Γ H :=
    ⟨fun i s hs => ⟨s, by rw [List.getElem?_append_left (List.getElem?_eq_some_iff.1 hs).1]; exact hs, slotLe_refl s⟩, Nat.le_refl _, fun _ _ _ => rfl, fun _ h => h, fun b hb => .inl (hown b hb), fun _ h => .inl h⟩
  refine ⟨⟨by simp [h.len], fun i => ?_, fun i j b base sz1 tot base' sz' tot' h1 h2 h3 h4 => ?_, h.there⟩, hext⟩
  · by_cases hi : i < D.length
    · rw [List.getElem?_append_left hi, List.getElem?_append_left (by rw [← h.len]; exact hi)]
      rcases h.ob i with h1 | h1 | h1 | ⟨own, pure, s1, xs, blk, base, tot, h1, h2, h3⟩
      · exact .inl h1
      · exact .inr (.inl h1)
      · exact .inr (.inr (.inl h1))
      · exact .inr (.inr (.inr ⟨own, pure, s1, xs, blk, base, tot, h1, h2, h3.mono h hext (fun _ => rfl) fun ho ht hg => h.ownNot _ hg ⟨i, base, s1, tot, by rw [← ho]; exact h2, ht⟩⟩))
    · have hi' : ¬ i < σ.length := by rw [← h.len]; exact hi
      rw [List.getElem?_append_right (by omega), List.getElem?_append_right (by omega), ← h.len]
      cases hq : i - D.length with
      | zero => exact .inr (.inr (.inr ⟨true, true, sz, [], 0, 0, 0, rfl, rfl, ⟨fun x hx => by simp at hx, .inl ⟨rfl, rfl⟩⟩⟩))
      | succ n => exact .inl ⟨by simp, by simp⟩
  · have g : ∀ {i b base sz1 tot : Nat}, (D ++ [.live 0 0 sz 0 true])[i]? = some (.live b base sz1 tot true) → 0 < tot → D[i]? = some (.live b base sz1 tot true) := by
      intro i b base sz1 tot h1 h2
      by_cases hi : i < D.length
      · rw [List.getElem?_append_left hi] at h1; exact h1
      · rw [List.getElem?_append_right (by omega)] at h1
        cases hq : i - D.length with
        | zero => rw [hq] at h1; simp at h1; omega
        | succ n => rw [hq] at h1; simp at h1
    exact h.apart i j b base sz1 tot base' sz' tot' (g h1 h3) (g h2 h4) h3 h4

theorem fresh1_ok {D : Dir} {Γ : Nat → Prop} {s : S} {a : Act} {w : World} (hst : St D Γ s a w) (d : FD) : ∃ D', St D' Γ (fresh1 s d) a w ∧ ∀ m, ExtM m D Γ w.heap D' Γ w.heap := by
  have same : ∃ D', St D' Γ s a w ∧ ∀ m, ExtM m D Γ w.heap D' Γ w.heap := ⟨D, hst, fun m => (Ext.refl ..).toM m⟩
  obtain ⟨e1, e2⟩ := hst.sr.empty d.sz
  have htr : TR (D ++ [.live 0 0 d.sz 0 true]) Γ w.heap s.T a.tmps := e2.tr hst.sr hst.tr
  have hnew : (D ++ [Slot.live 0 0 d.sz 0 true])[s.σ.length]? = some (.live 0 0 d.sz 0 true) := by rw [← hst.sr.len]; simp
  have hrow : LR (D ++ [.live 0 0 d.sz 0 true]) Γ w.heap (.hs s.σ.length 0 0) (.slice none 0 0) := .hs hnew (Nat.le_refl _) fun h => absurd rfl h
  have putT : ∀ (v : V), (∀ u, a.tmps[d.slot]? = some u → VR (D ++ [.live 0 0 d.sz 0 true]) Γ w.heap v u) → TR (D ++ [.live 0 0 d.sz 0 true]) Γ w.heap (s.T.set d.slot v) a.tmps := by
    intro v hv
    refine ⟨by rw [List.length_set]; exact htr.1, fun i c u h1 h2 => ?_⟩
    rcases set_get h1 with ⟨rfl, rfl⟩ | ⟨_, h1⟩
    · exact hv u h2
    · exact htr.2 i c u h1 h2
  unfold fresh1
  split
  · rename_i hq
    refine ⟨_, ⟨e1, putT _ fun u hu => ?_⟩, fun m => e2.toM m⟩
    have := hst.tr.2 _ _ u hq hu
    cases this with
    | one h => cases h with
      | leaf h => rw [nil_inv h]; exact .one (.leaf hrow)
  · rename_i cs hq
    split
    · rename_i hc
      refine ⟨_, ⟨e1, putT _ fun u hu => ?_⟩, fun m => e2.toM m⟩
      have := htr.2 _ _ u hq hu
      cases this with
      | one h => cases h with
        | leaf h => cases h with | pr h => cases h
        | agg arr hl hh =>
          refine .one (.agg arr (by rw [List.length_set]; exact hl) fun k c v h1 h2 => ?_)
          rcases set_get h1 with ⟨rfl, rfl⟩ | ⟨_, h1⟩
          · have := hh _ _ v hc h2
            rw [nil_inv this]; exact hrow
          · exact hh k c v h1 h2
    · exact same
  · rename_i id i off hq
    split
    · rename_i own sz xs hob
      split
      · rename_i x hx
        split
        · rename_i hc
          refine ⟨D ++ [.live 0 0 d.sz 0 true], ⟨?_, htr⟩, fun m => e2.toM m⟩
          -- the row, with the one cell told otherwise
          have hid : id < s.σ.length := (List.getElem?_eq_some_iff.1 hob).1
          have hset : s.σ.set id (Ob.cells own false sz (xs.set i (x.set (off + d.leaf) (.hs s.σ.length 0 0)))) ++ [Ob.cells true true d.sz []] = (s.σ ++ [Ob.cells true true d.sz []]).set id (.cells own false sz (xs.set i (x.set (off + d.leaf) (.hs s.σ.length 0 0)))) := by
            rw [List.set_append_left _ _ hid]
          rw [hset]
          have hob' : (s.σ ++ [Ob.cells true true d.sz []])[id]? = some (.cells own false sz xs) := by rw [List.getElem?_append_left hid]; exact hob
          refine ⟨by simp [e1.len], fun j => ?_, e1.apart, e1.there⟩
          by_cases hj : j = id
          · subst hj
            obtain ⟨blk, base, tot, hd, hor⟩ := e1.live hob'
            refine .inr (.inr (.inr ⟨own, false, sz, _, blk, base, tot, get_set hob', hd, ?_⟩))
            obtain ⟨hxs, hor⟩ := hor
            have hxl := hxs x (List.mem_of_getElem? hx)
            have hilt : i < xs.length := (List.getElem?_eq_some_iff.1 hx).1
            have hxs' : ∀ y ∈ xs.set i (x.set (off + d.leaf) (.hs s.σ.length 0 0)), y.length = sz := by
              intro y hy
              rcases List.mem_or_eq_of_mem_set hy with hy | rfl
              · exact hxs y hy
              · rw [List.length_set]; exact hxl
            refine ⟨hxs', ?_⟩
            rcases hor with ⟨_, h9⟩ | ⟨g0, cells, T, fz, g1, g2, g3, g4, g5, g6, g7⟩
            · subst h9; simp at hilt
            · refine .inr ⟨g0, cells, T, fz, g1, g2, g3, by rw [List.length_set]; exact g4, fun k c hk => ?_, g6, g7⟩
              obtain ⟨j', r, y, rfl, hr, hy, hc'⟩ := flatten_inv hxs' hk
              rcases set_get hy with ⟨rfl, rfl⟩ | ⟨_, hy⟩
              · rcases set_get hc' with ⟨rfl, rfl⟩ | ⟨_, hc'⟩
                · obtain ⟨v, hv, hp⟩ := g5 (i * sz + (off + d.leaf)) .nilS (by rw [flatten_row hxs hx hr]; exact hc)
                  simp only [Bool.false_eq_true, if_false] at hp
                  refine ⟨v, hv, ?_⟩
                  simp only [Bool.false_eq_true, if_false]
                  rw [nil_inv hp]; exact hrow
                · exact g5 _ c (by rw [flatten_row hxs hx hr]; exact hc')
              · exact g5 _ c (by rw [flatten_row hxs hy hr]; exact hc')
          · rw [List.getElem?_set_ne (fun e => hj e.symm)]
            exact e1.ob j
        · exact same
      · exact same
    · exact same
  · exact same

theorem fresh_ok {Γ : Nat → Prop} {a : Act} {w : World} : ∀ (l : List FD) {D : Dir} {s : S}, St D Γ s a w → ∃ D', St D' Γ (fresh l s) a w ∧ ∀ m, ExtM m D Γ w.heap D' Γ w.heap
  | [], D, s, h => ⟨D, h, fun m => (Ext.refl ..).toM m⟩
  | d :: l, D, s, h => by
    obtain ⟨D1, h1, e1⟩ := fresh1_ok h d
    obtain ⟨D2, h2, e2⟩ := fresh_ok l h1
    exact ⟨D2, h2, fun m => (e1 m).trans (e2 m)⟩

theorem fprep_ok {D : Dir} {Γ : Nat → Prop} {s : S} {a : Act} {w : World} (hst : St D Γ s a w) (m : Nat) (keep : List Nat) (l : List FD) : ∃ D', St D' Γ (prep m keep (fresh l s)) a w ∧ ExtM m D Γ w.heap D' Γ w.heap := by
  obtain ⟨D1, h1, e1⟩ := fresh_ok l hst
  obtain ⟨D2, h2, e2⟩ := prep_ok h1 m keep
  exact ⟨D2, h2, (e1 m).trans e2⟩

theorem pre_ok {D : Dir} {Γ : Nat → Prop} {s : S} {a : Act} {w : World} (hst : St D Γ s a w) (f m k : Nat) : ∃ D', St D' Γ (pre X f m k s) a w ∧ ExtM m D Γ w.heap D' Γ w.heap := fprep_ok hst m _ _

theorem genO_ok (hC : OS P C) : OS P (genO X C) := by
  intro f args σ r σ' h D Γ w vals hs hl hv
  refine hC f (widArgs (X.wa f) args) σ r σ' h D Γ w vals hs (by rw [widArgs_len]; exact hl) fun k c v h1 h2 => ?_
  obtain ⟨u, d, e1, e2⟩ := widArgs_get h1
  rcases e2 with rfl | rfl
  · exact (hv k d v e1 h2).widA u
  · exact hv k c v e1 h2

theorem joinI_ok {D : Dir} {Γ : Nat → Prop} {s : S} {a : Act} {w : World} (hst : St D Γ s a w) (f m : Nat) (c : Operand) : ∃ D', St D' Γ (joinI (join X f m c) s) a w ∧ ExtM m D Γ w.heap D' Γ w.heap := by
  unfold joinI join
  split
  · rename_i g hg
    split at hg
    · split at hg
      · cases hg; exact fprep_ok hst m _ _
      · cases hg
    · cases hg
  · exact ⟨D, hst, (Ext.refl ..).toM m⟩

theorem exitX_ok {D : Dir} {Γ : Nat → Prop} {s : S} {a : Act} {w : World} (hst : St D Γ s a w) (f m id : Nat) : ∃ D', St D' Γ (exitX X f m id s) a w ∧ ExtM m D Γ w.heap D' Γ w.heap := by
  unfold exitX
  split
  · exact fprep_ok hst m _ _
  · exact ⟨D, hst, (Ext.refl ..).toM m⟩

theorem blockI_ok {D : Dir} {Γ : Nat → Prop} {s : S} {a : Act} {w : World} (hst : St D Γ s a w) (f m id : Nat) : ∃ D', St D' Γ (blockI X f m id s) a w ∧ ExtM m D Γ w.heap D' Γ w.heap := by
  unfold blockI
  split
  · exact fprep_ok hst m _ _
  · exact ⟨D, hst, (Ext.refl ..).toM m⟩
theorem blockO_ok {D : Dir} {Γ : Nat → Prop} {s : S} {a : Act} {w : World} (hst : St D Γ s a w) (f m id : Nat) : ∃ D', St D' Γ (blockO X f m id s) a w ∧ ExtM m D Γ w.heap D' Γ w.heap := by
  unfold blockO
  split
  · exact fprep_ok hst m _ _
  · exact ⟨D, hst, (Ext.refl ..).toM m⟩

theorem regI_ok {D : Dir} {Γ : Nat → Prop} {s : S} {a : Act} {w : World} (hst : St D Γ s a w) (f m id : Nat) : ∃ D', St D' Γ (regI X f m id s) a w ∧ ExtM m D Γ w.heap D' Γ w.heap := by
  unfold regI
  split
  · exact fprep_ok hst m _ _
  · exact ⟨D, hst, (Ext.refl ..).toM m⟩
theorem regO_ok {D : Dir} {Γ : Nat → Prop} {s : S} {a : Act} {w : World} (hst : St D Γ s a w) (f m id : Nat) : ∃ D', St D' Γ (regO X f m id s) a w ∧ ExtM m D Γ w.heap D' Γ w.heap := by
  unfold regO
  split
  · exact fprep_ok hst m _ _
  · exact ⟨D, hst, (Ext.refl ..).toM m⟩

def exitOf : VX → Exit
  | .normal => .normal
  | .exit id => .exit id
  | .ret => .ret

theorem exec_ok (hX : X.OK P) (hC : OS P C) (hm : P.follows .mixedOrders = true) (f m n : Nat) : ∀ (c : Code) (k : Nat) (s s' : S) (x : VX) (D : Dir) (Γ : Nat → Prop) (a : Act) (w : World) (Q : Exit → Act → World → Prop),
    exec P X C f m n c k s = some (x, s') → St D Γ s a w → (∀ a' w' D' Γ', St D' Γ' s' a' w' → ExtM m D Γ w.heap D' Γ' w'.heap → Kept w w' → a'.defers = a.defers → Q (exitOf x) a' w') → c.wp P Q a w := by
  intro c
  induction c with
  | skip =>
    intro k s s' x D Γ a w Q h hst hQ
    simp only [exec, Option.some.injEq, Prod.mk.injEq] at h
    obtain ⟨rfl, rfl⟩ := h
    exact wp_skip (hQ a w D Γ hst ((Ext.refl ..).toM m) (Kept.refl _) rfl)
  | region id ops draw =>
    intro k s s' x D Γ a w Q h hst hQ
    simp only [exec] at h
    obtain ⟨D0, hst0, hext0⟩ := regI_ok (X := X) hst f m id
    cases hr : runRegion P X C ops draw (regI X f m id s) with
    | none => rw [hr] at h; cases h
    | some s1 =>
      rw [hr] at h
      simp only [Option.map_some, Option.some.injEq, Prod.mk.injEq] at h
      obtain ⟨rfl, rfl⟩ := h
      refine region_ok hX hC hm hr hst0 (fun a' w' D' Γ' h1 h2 hk h3 => ?_) id
      obtain ⟨D2, p1, p2⟩ := regO_ok (X := X) h1 f m id
      exact hQ a' w' D2 Γ' p1 (hext0.trans ((h2.toM m).trans p2)) hk h3
  | seq c1 c2 ih1 ih2 =>
    intro k s s' x D Γ a w Q h hst hQ
    simp only [exec] at h
    refine wp_seq ?_
    split at h
    · rename_i s1 h1
      refine ih1 k s s1 .normal D Γ a w _ h1 hst fun a' w' D' Γ' q1 q2 qk q3 => ?_
      exact ih2 k s1 s' x D' Γ' a' w' Q h q1 fun a'' w'' D'' Γ'' r1 r2 rk r3 => hQ a'' w'' D'' Γ'' r1 (q2.trans r2) (qk.trans rk) (r3.trans q3)
    · rename_i hne
      refine ih1 k s s' x D Γ a w _ h hst fun a' w' D' Γ' q1 q2 qk q3 => ?_
      have := hQ a' w' D' Γ' q1 q2 qk q3
      cases x with
      | normal => exact absurd h (hne _)
      | exit id => exact this
      | ret => exact this
  | cond cd c1 c2 ih1 ih2 =>
    intro k s s' x D Γ a w Q h hst hQ
    simp only [exec] at h
    obtain ⟨D0, hst0, hext0⟩ := joinI_ok (X := X) hst f m cd
    generalize joinI (join X f m cd) s = s0 at *
    replace hQ : ∀ a' w' D' Γ', St D' Γ' s' a' w' → ExtM m D0 Γ w.heap D' Γ' w'.heap → Kept w w' → a'.defers = a.defers → Q (exitOf x) a' w' := fun a' w' D' Γ' q1 q2 => hQ a' w' D' Γ' q1 (hext0.trans q2)
    clear hst hext0
    have hst := hst0
    clear hst0
    revert hst hQ
    generalize D0 = D
    intro hQ hst
    generalize s0 = s at *
    have hev := hst.tr.ev cd
    -- behind the branch, where the ways meet
    have meet : ∀ (c : Code), (∀ (s s' : S) (x : VX) (D : Dir) (Γ : Nat → Prop) (a : Act) (w : World) (Q : Exit → Act → World → Prop), exec P X C f m n c k s = some (x, s') → St D Γ s a w →
          (∀ a' w' D' Γ', St D' Γ' s' a' w' → ExtM m D Γ w.heap D' Γ' w'.heap → Kept w w' → a'.defers = a.defers → Q (exitOf x) a' w') → c.wp P Q a w) →
        (exec P X C f m n c k s).map (joinX (join X f m cd)) = some (x, s') → c.wp P Q a w := by
      intro c ih h
      cases he : exec P X C f m n c k s with
      | none => rw [he] at h; cases h
      | some r =>
        obtain ⟨y, s1⟩ := r
        rw [he] at h
        simp only [Option.map_some, Option.some.injEq] at h
        refine ih s s1 y D Γ a w Q he hst fun a' w' D' Γ' q1 q2 qk q3 => ?_
        cases y with
        | normal =>
          simp only [joinX] at h
          unfold join at h
          split at h
          · rename_i g hg
            split at hg
            · split at hg
              · cases hg
                cases h
                obtain ⟨D2, p1, p2⟩ := fprep_ok q1 m _ _
                exact hQ a' w' D2 Γ' p1 (q2.trans p2) qk q3
              · cases hg
            · cases hg
          · cases h; exact hQ a' w' D' Γ' q1 q2 qk q3
        | exit id => simp only [joinX] at h; cases h; exact hQ a' w' D' Γ' q1 q2 qk q3
        | ret => simp only [joinX] at h; cases h; exact hQ a' w' D' Γ' q1 q2 qk q3
    split at h
    · rename_i e
      rw [e] at hev
      exact wp_cond_true hev.bool (meet c1 (ih1 k) h)
    · rename_i e
      rw [e] at hev
      exact wp_cond_false hev.bool (meet c2 (ih2 k) h)
    · cases h
  | block id c ih =>
    intro k s s' x D Γ a w Q h hst hQ
    simp only [exec] at h
    obtain ⟨D0, hst0, hext0⟩ := blockI_ok (X := X) hst f m id
    refine wp_block ?_
    cases h1 : exec P X C f m n c id (blockI X f m id s) with
    | none => rw [h1] at h; cases h
    | some r =>
      obtain ⟨y, s1⟩ := r
      rw [h1] at h
      simp only [Option.map_some, Option.some.injEq] at h
      refine ih id _ s1 y D0 Γ a w _ h1 hst0 fun a' w' D' Γ' q1 q2 qk q3 => ?_
      cases y with
      | normal =>
        simp only [blockR] at h
        cases h
        obtain ⟨D2, p1, p2⟩ := blockO_ok (X := X) q1 f m id
        exact hQ a' w' D2 Γ' p1 (hext0.trans (q2.trans p2)) qk q3
      | exit j =>
        simp only [blockR] at h
        simp only [exitOf, Exit.inBlock]
        cases hj : Nat.beq j id with
        | true =>
          rw [hj] at h
          cases h
          rw [if_pos (Nat.eq_of_beq_eq_true hj)]
          exact hQ a' w' D' Γ' q1 (hext0.trans q2) qk q3
        | false =>
          rw [hj] at h
          cases h
          rw [if_neg (Nat.ne_of_beq_eq_false hj)]
          exact hQ a' w' D' Γ' q1 (hext0.trans q2) qk q3
      | ret =>
        simp only [blockR] at h
        cases h
        exact hQ a' w' D' Γ' q1 (hext0.trans q2) qk q3
  | loop c ih =>
    intro k s s' x D Γ a w Q h hst hQ
    simp only [exec] at h
    refine wp_loop_rounds n ?_
    have key : ∀ (q : Nat) (s s' : S) (D : Dir) (Γ : Nat → Prop) (a : Act) (w : World), vloop (fun s => exec P X C f m n c k s) (pre X f m k) q s = some (x, s') → St D Γ s a w →
        (∀ a' w' D' Γ', St D' Γ' s' a' w' → ExtM m D Γ w.heap D' Γ' w'.heap → Kept w w' → a'.defers = a.defers → Q (exitOf x) a' w') → Code.rounds P c Q q a w := by
      intro q
      induction q with
      | zero => intro s s' D Γ a w h; simp [vloop] at h
      | succ q ihq =>
        intro s s' D Γ a w h hst hQ
        simp only [vloop] at h
        rw [rounds_succ]
        obtain ⟨D1, p1, p2⟩ := pre_ok (X := X) hst f m k
        split at h
        · rename_i s1 h1
          refine ih k _ s1 .normal D1 Γ a w _ h1 p1 fun a' w' D' Γ' q1 q2 qk q3 => ?_
          exact ihq s1 s' D' Γ' a' w' h q1 fun a'' w'' D'' Γ'' r1 r2 rk r3 => hQ a'' w'' D'' Γ'' r1 (p2.trans (q2.trans r2)) (qk.trans rk) (r3.trans q3)
        · rename_i hne
          refine ih k _ s' x D1 Γ a w _ h p1 fun a' w' D' Γ' q1 q2 qk q3 => ?_
          have := hQ a' w' D' Γ' q1 (p2.trans q2) qk q3
          cases x with
          | normal => exact absurd h (hne _)
          | exit id => exact this
          | ret => exact this
    exact key n s s' D Γ a w h hst hQ
  | exit id =>
    intro k s s' x D Γ a w Q h hst hQ
    simp only [exec, Option.some.injEq, Prod.mk.injEq] at h
    obtain ⟨rfl, rfl⟩ := h
    obtain ⟨D', h1, h2⟩ := exitX_ok (X := X) hst f m id
    exact wp_exit (hQ a w D' Γ h1 h2 (Kept.refl _) rfl)
  | ret =>
    intro k s s' x D Γ a w Q h hst hQ
    simp only [exec, Option.some.injEq, Prod.mk.injEq] at h
    obtain ⟨rfl, rfl⟩ := h
    obtain ⟨D', h1, h2⟩ := exitX_ok (X := X) hst f m 2000000
    exact wp_ret (hQ a w D' Γ h1 h2 (Kept.refl _) rfl)
  | _ => intro k s s' x D Γ a w Q h; simp [exec] at h

def readRes (tmps : Array Value) : ResultVar → Sem Value
  | .tmp t => pure (tmps.getD t undef)
  | .cell a t => do loadVar t (← asAddr (tmps.getD a undef))

theorem result_ok (hX : X.OK P) {D : Dir} {Γ : Nat → Prop} {s : S} {a : Act} {w : World} (hst : St D Γ s a w) {rv : ResultVar} {v : V} (h : result X s (resOf rv) = some v) : ∃ x, (readRes a.tmps rv).run P w = .ok x w ∧ VR D Γ w.heap v x := by
  cases rv with
  | tmp t =>
    simp only [resOf, result, Option.some.injEq] at h
    subst h
    exact ⟨_, rfl, hst.tr.ev (.tmp t)⟩
  | cell t ty =>
    simp only [resOf, result] at h
    have hev : VR D Γ w.heap (s.T.getD t .undef) (a.tmps.getD t undef) := hst.tr.ev (.tmp t)
    split at h
    · rename_i ti id i off hti hp
      rw [hp] at hev
      split at h
      · rename_i own pure sz xs hob
        split at h
        · rename_i row hrow
          obtain ⟨blk, base, tot, hd, hor⟩ := hst.sr.live hob
          have hpt := (hev.ptr).ptr_inv hd
          obtain ⟨y, hy, hvy⟩ := loadVar_ok (P := P) (w := w) (D := D) (Γ := Γ) (H := w.heap) (hX.ty _ _ hti) h (b := blk) (o := base + i * sz + off) (fun k c h1 h2 h3 => by
            obtain ⟨u, hu, hl⟩ := hor.row hrow k c h3
            refine ⟨u, ?_, hl⟩
            rw [show base + i * sz + off + (k - off) = base + i * sz + k by omega]; exact hu)
          exact ⟨y, by simp only [readRes, hpt, asAddr, Sem.run_bind, Sem.run_pure, Result.andThen_ok, hy], hvy⟩
        · cases h
      · cases h
    · cases h

theorem results_ok (hX : X.OK P) {D : Dir} {Γ : Nat → Prop} {s : S} {a : Act} {w : World} (hst : St D Γ s a w) : ∀ {l : List ResultVar} {vs : List V}, VM.results X s (l.map resOf) = some vs →
    ∃ xs, (l.mapM (readRes a.tmps)).run P w = .ok xs w ∧ xs.length = vs.length ∧ ∀ (k : Nat) (c : V) (v : Value), vs[k]? = some c → xs[k]? = some v → VR D Γ w.heap c v
  | [], vs, h => by
    simp only [List.map_nil, VM.results, Option.some.injEq] at h
    subst h
    exact ⟨[], by simp, rfl, fun k c v h => by simp at h⟩
  | r :: l, vs, h => by
    simp only [List.map_cons, VM.results] at h
    split at h
    · rename_i v vs' h1 h2
      cases h
      obtain ⟨x, q1, q2⟩ := result_ok hX hst h1
      obtain ⟨xs, r1, r2, r3⟩ := results_ok hX hst h2
      refine ⟨x :: xs, by rw [List.mapM_cons, Sem.run_bind, q1, Result.andThen_ok, Sem.run_bind, r1]; rfl, by simp [r2], fun k c v e1 e2 => ?_⟩
      cases k with
      | zero => simp at e1 e2; subst e1; subst e2; exact q2
      | succ k => simp at e1 e2; exact r3 k c v e1 e2
    · cases h

theorem run_results {fn : Func} {tmps : Array Value} {w : World} {xs : List Value} (h : (fn.results.toList.mapM (readRes tmps)).run P w = .ok xs w) : (Go.results fn tmps).run P w = .ok (if h : xs.length = 1 then xs[0] else .tuple xs.toArray) w := by
  have e : Go.results fn tmps = (do let vs ← fn.results.mapM (readRes tmps); pure (if h : vs.size = 1 then vs[0] else .tuple vs) : Sem Value) := by
    unfold Go.results
    congr 1
  rw [e, Array.mapM_eq_mapM_toList, Sem.run_bind, Sem.run_map, h]
  simp

theorem call_ok (hX : X.OK P) (hm : P.follows .mixedOrders = true) {O : Oracle} (hO : OS P O) (N : Nat) : ∀ n, OS P (call P X O N n)
  | 0 => fun f args σ r σ' h => by simp [call] at h
  | n + 1 => by
    intro f args σ r σ' h D Γ w vals hs hl hv
    simp only [call] at h
    split at h
    · rename_i r' hr
      cases h
      exact hO f args σ r σ' hr D Γ w vals hs hl hv
    · split at h
      · cases h
      · rename_i fi hfi
        obtain ⟨fn, h1, h2, h3, h4, h5⟩ := fiOf_some (hX.fn _ _ hfi)
        refine calls_of_wp h1 h3 ?_
        have hst : St D Γ ⟨args ++ List.replicate (fi.ntmps - args.length) .undef, σ⟩ ⟨vals ++ Array.replicate (fn.ntmps - vals.size) undef, []⟩ w := by
          refine ⟨hs, by simp [hl, h4], fun i c v e1 e2 => ?_⟩
          by_cases hi : i < args.length
          · rw [List.getElem?_append_left hi] at e1
            rw [Array.getElem?_append_left (by omega)] at e2
            exact .one (hv i c v e1 e2)
          · rw [List.getElem?_append_right (by omega), List.getElem?_replicate] at e1
            split at e1
            · cases e1; exact .one (.any _)
            · cases e1
        have fin : ∀ {s : S}, leave X σ.length fi (fresh (X.wr f) s) = some (r, σ') → ∀ (a' : Act) (w' : World) (D' : Dir) (Γ' : Nat → Prop), St D' Γ' s a' w' → ExtM σ.length D Γ w.heap D' Γ' w'.heap → Kept w w' → a'.defers = [] →
            a'.defers = [] ∧ ∃ v, (Go.results fn a'.tmps).run P w' = .ok v w' ∧ ∃ x D'' Γ'', Ending.returned v = .returned x ∧ Kept w w' ∧ VR D'' Γ'' w'.heap r x ∧ SR D'' Γ'' σ' w'.heap ∧ Ext D Γ w.heap D'' Γ'' w'.heap := by
          intro s0 hlv a' w' D0' Γ' hst0 hext0 hkp hdf
          refine ⟨hdf, ?_⟩
          obtain ⟨D', hst', hfr⟩ := fresh_ok (X.wr f) hst0
          have hext := hext0.trans (hfr σ.length)
          generalize fresh (X.wr f) s0 = s at *
          unfold leave at hlv
          rw [h5] at hlv
          split at hlv
          · cases hlv
          · rename_i vs hvs
            split at hlv
            · cases hlv
            · rename_i hcond
              simp only [Option.some.injEq, Prod.mk.injEq] at hlv
              obtain ⟨rfl, rfl⟩ := hlv
              obtain ⟨xs, q1, q2, q3⟩ := results_ok hX hst' hvs
              refine ⟨_, run_results q1, ?_⟩
              obtain ⟨t1, t2⟩ := tidy_spec σ.length s.σ [oneOr vs]
              obtain ⟨u1, u2, u3⟩ := hst'.sr.tidied t1
              have hone : VR D' Γ' w'.heap (oneOr vs) (if h : xs.length = 1 then xs[0] else .tuple xs.toArray) := by
                by_cases h1 : xs.length = 1
                · rw [dif_pos h1]
                  obtain ⟨v, hv1⟩ : ∃ v, vs = [v] := List.length_eq_one_iff.1 (by omega)
                  obtain ⟨x, hx1⟩ : ∃ x, xs = [x] := List.length_eq_one_iff.1 h1
                  subst hv1; subst hx1
                  exact q3 0 v x rfl rfl
                · rw [dif_neg h1]
                  have : oneOr vs = .tup vs := by
                    match vs, q2 with
                    | [], _ => rfl
                    | [v], q2 => exact absurd q2 h1
                    | a :: b :: c, _ => rfl
                  rw [this]
                  refine .tup _ (by simpa using q2) fun k c v e1 e2 => ?_
                  have hvr := q3 k c v e1 (by simpa using e2)
                  have hnt : ∀ l, c ≠ .tup l := by
                    intro l e
                    subst e
                    apply hcond
                    simp only [Bool.and_eq_true, Bool.not_eq_true', beq_eq_false_iff_ne]
                    exact ⟨fun h => h1 (by omega), List.any_eq_true.2 ⟨_, List.mem_of_getElem? e1, rfl⟩⟩
                  cases hvr with
                  | one h => exact h
                  | tup => exact absurd rfl (hnt _)
              refine ⟨_, img D' (tidy σ.length s.σ [oneOr vs]), Γ', rfl, hkp, renV_vr u2 hone, u1, ?_⟩
              have he := hext.trans (tidied_ext hst'.sr σ.length [oneOr vs])
              exact ⟨fun i sl hi => he.slot i sl (by rw [← hs.len]; exact (List.getElem?_eq_some_iff.1 hi).1) hi, he.size, he.same, he.keep, he.own, he.grow⟩
        split at h
        · rename_i s hex
          exact exec_ok hX (genO_ok (call_ok hX hm hO N n)) hm f σ.length N fi.body 0 _ s .normal D Γ _ w _ hex hst fun a' w' D' Γ' p1 p2 pk p3 => fin h a' w' D' Γ' p1 p2 pk p3
        · rename_i s hex
          exact exec_ok hX (genO_ok (call_ok hX hm hO N n)) hm f σ.length N fi.body 0 _ s .ret D Γ _ w _ hex hst fun a' w' D' Γ' p1 p2 pk p3 => fin h a' w' D' Γ' p1 p2 pk p3
        · cases h
end
end Go.VM
