/- The machine over plain values: a call answers as the model's does. No condition beyond those stated. -/
import Derived.Test.YtifalphladcdcaaGreatVmAD
set_option linter.unusedVariables false
set_option linter.unusedSimpArgs false
namespace Go.VM

theorem OR.other {D D' : Dir} {Γ : Nat → Prop} {H : Array Obj} {blk base tot : Nat} {own : Bool} {sz : Nat} {xs : List (List V)} (h : OR D Γ H blk base tot own true sz xs) : OR D' Γ H blk base tot own true sz xs := by
  obtain ⟨hx, h⟩ := h
  refine ⟨hx, ?_⟩
  rcases h with h | ⟨h0, cells, T, fz, h1, h2, h3, h4, h5, h6⟩
  · exact .inl h
  · exact .inr ⟨h0, cells, T, fz, h1, h2, h3, h4, fun k c hk => by simpa using h5 k c hk, h6⟩

theorem nodup_get {α : Type} {l : List α} (h : l.Nodup) {i j : Nat} {a : α} (hi : l[i]? = some a) (hj : l[j]? = some a) : i = j := by
  have h1 := (List.getElem?_eq_some_iff.1 hi)
  have h2 := (List.getElem?_eq_some_iff.1 hj)
  obtain ⟨h1, e1⟩ := h1
  obtain ⟨h2, e2⟩ := h2
  have hp := List.pairwise_iff_getElem.1 (List.nodup_iff_pairwise_ne.1 h)
  rcases Nat.lt_trichotomy i j with hlt | he | hlt
  · exact absurd (e1.trans e2.symm) (hp i j h1 h2 hlt)
  · exact he
  · exact absurd (e2.trans e1.symm) (hp j i h2 h1 hlt)

theorem callM_ok {P : Program} {C : Oracle} (hC : OS P C) {D : Dir} {Γ : Nat → Prop} {σ : Store} {w : World} (hs : SR D Γ σ w.heap) {args : List V} {vals : Array Value} (hl : vals.size = args.length)
    (hv : ∀ (k : Nat) (c : V) (v : Value), args[k]? = some c → vals[k]? = some v → VR D Γ w.heap c v) {f nid cnt : Nat} {rw' : Nat → Bool} {v : V} {ws : List (Nat × Ob)}
    (h : (callM C rw' f args nid cnt).run σ = some (v, ws)) : Calls P f vals w fun e w' => ∃ x, e = .returned x ∧ Kept w w' ∧ Post D Γ σ w.heap v ws x w'.heap := by
  unfold callM at h
  obtain ⟨s1, args', h, l1, n1, e1, o1⟩ := impArgs_inv h (show SnOK σ ⟨[], []⟩ from fun p hp => by simp at hp)
  obtain ⟨s2, obs, h, l2, n2, e2, e3, o2⟩ := impObs_inv h n1
  split at h
  · exact (run_fail h).elim
  · rename_i r σ' hr
    split at h
    · rename_i hcond
      obtain ⟨c1, c2, c3, c4⟩ := hcond
      simp only at h
      rcases virs_inv h with h | ⟨h, hvir⟩
      · simp only [Bool.false_eq_true, if_false] at h; exact (run_fail h).elim
      · simp only [if_true] at h
        have hd := run_done h
        simp only [Prod.mk.injEq] at hd
        obtain ⟨rfl, rfl⟩ := hd
        have hnd : s2.ids.Nodup := (l1.trans l2).nodup (by simp)
        obtain ⟨D0, Γ0, hs0, e0⟩ := hs.frz n2
        have froz : Froz σ (lay σ s2.sn) s2.sn := ⟨(lay_frz n2).1, (lay_frz n2).2⟩
        have hidsn : ∀ id ∈ s2.ids, ∀ p ∈ s2.sn, p.1 ≠ id := by
          intro id hid p hp e
          have := List.all_eq_true.1 (List.all_eq_true.1 c4 id hid) p hp
          simp [e] at this
        have hsame : ∀ id ∈ s2.ids, (lay σ s2.sn)[id]? = σ[id]? := fun id hid => lay_other (hidsn id hid)
        have hob : ∀ (j id : Nat) (o : Ob), s2.ids[j]? = some id → obs[j]? = some o → ImpOb σ s2 id o := fun j id o h1 h2 => o2 j o id h2 (by rw [Nat.zero_add]; exact h1)
        have himg : ∀ b, ownB (img D0 s2.ids) b → ∃ j id base sz tot : Nat, s2.ids[j]? = some id ∧ D0[id]? = some (.live b base sz tot true) ∧ 0 < tot := by
          rintro b ⟨j, base, sz, tot, hj, ht⟩
          obtain ⟨id, h1, h2⟩ := img_inv hj (by simp)
          exact ⟨j, id, base, sz, tot, h1, h2, ht⟩
        have himg' : ∀ b, ownB (img D0 s2.ids) b → ownB D0 b := fun b hb => by
          obtain ⟨j, id, base, sz, tot, h1, h2, ht⟩ := himg b hb
          exact ⟨id, base, sz, tot, h2, ht⟩
        -- the callee's own view
        have hsc : SR (img D0 s2.ids) Γ0 obs w.heap := by
          refine ⟨by simp [img, c3], fun i => ?_, fun i j b base sz tot base' sz' tot' h1 h2 t1 t2 => ?_, hs0.there⟩
          · by_cases hi : i < obs.length
            · have hi' : i < s2.ids.length := by omega
              have g1 : obs[i]? = some obs[i] := List.getElem?_eq_getElem hi
              have g2 : s2.ids[i]? = some s2.ids[i] := List.getElem?_eq_getElem hi'
              have hsm := hsame _ (List.getElem_mem hi')
              rcases hob i _ _ g2 g1 with ⟨k1, k2⟩ | ⟨own, sz, xs, k1, k2⟩ | ⟨own, sz, xs, xs', k1, k2, k3, k4⟩
              · refine .inr (.inr (.inl ⟨by rw [g1, k2], img_get g2 ?_⟩))
                rw [← hsm] at k1
                rcases hs0.ob s2.ids[i] with ⟨q1, _⟩ | ⟨q1, _⟩ | ⟨_, q2⟩ | ⟨_, _, _, _, _, _, _, q1, _⟩
                · rw [q1] at k1; cases k1
                · rw [q1] at k1; cases k1
                · exact q2
                · rw [q1] at k1; cases k1
              · rw [← hsm] at k1
                obtain ⟨blk, base, tot, hd, hor⟩ := hs0.live k1
                exact .inr (.inr (.inr ⟨own, true, sz, xs, blk, base, tot, by rw [g1, k2], img_get g2 hd, hor.other⟩))
              · rw [← hsm] at k1
                obtain ⟨blk, base, tot, hd, hx, hor⟩ := hs0.live k1
                have hrow : ∀ (j : Nat) (x' : List V), xs'[j]? = some x' → ∃ x, xs[j]? = some x := by
                  intro j x' hj
                  have : j < xs.length := by have := (List.getElem?_eq_some_iff.1 hj).1; omega
                  exact ⟨xs[j], List.getElem?_eq_getElem this⟩
                have hx' : ∀ x ∈ xs', x.length = sz := by
                  intro x' hxm
                  obtain ⟨j, hj, hje⟩ := List.getElem_of_mem hxm
                  have hj' : xs'[j]? = some x' := by rw [List.getElem?_eq_getElem hj, hje]
                  obtain ⟨x, hxx⟩ := hrow j x' hj'
                  rw [(k4 j x x' hxx hj').1]; exact hx x (List.mem_of_getElem? hxx)
                refine .inr (.inr (.inr ⟨own, false, sz, xs', blk, base, tot, by rw [g1, k2], img_get g2 hd, hx', ?_⟩))
                rcases hor with ⟨q1, q2⟩ | ⟨q0, cells, T, fz, q1, q2, q3, q4, q5, q6⟩
                · exact .inl ⟨q1, List.eq_nil_of_length_eq_zero (by rw [k3, q2]; rfl)⟩
                · refine .inr ⟨q0, cells, T, fz, q1, q2, q3, by rw [k3]; exact q4, fun k c hk => ?_, q6⟩
                  obtain ⟨j, rr, x', rfl, hrr, hj, hc⟩ := flatten_inv hx' hk
                  obtain ⟨x, hxx⟩ := hrow j x' hj
                  obtain ⟨m1, m2⟩ := k4 j x x' hxx hj
                  have hlt : rr < x.length := by have := (List.getElem?_eq_some_iff.1 hc).1; omega
                  obtain ⟨u, hu, hp⟩ := q5 (j * sz + rr) x[rr] (by rw [flatten_row hx hxx hrr]; exact List.getElem?_eq_getElem hlt)
                  refine ⟨u, hu, ?_⟩
                  simp only [Bool.false_eq_true, if_false] at hp ⊢
                  exact m2 rr _ c (List.getElem?_eq_getElem hlt) hc s2 _ D0 Γ0 w.heap u (Imp.Le.refl _) froz hs0 hp
            · exact .inl ⟨List.getElem?_eq_none (by omega), List.getElem?_eq_none (by simp [img]; omega)⟩
          · obtain ⟨id1, q1, q2⟩ := img_inv h1 (by simp)
            obtain ⟨id2, q3, q4⟩ := img_inv h2 (by simp)
            have := hs0.apart _ _ _ _ _ _ _ _ _ q2 q4 t1 t2
            subst this
            exact nodup_get hnd q1 q3
        have hargs : ∀ (k : Nat) (c : V) (u : Value), args'[k]? = some c → vals[k]? = some u → AR (img D0 s2.ids) Γ0 w.heap c u := by
          intro k c u h1 h2
          have hlt : k < args.length := by have := (List.getElem?_eq_some_iff.1 h1).1; omega
          exact o1 k _ c (List.getElem?_eq_getElem hlt) h1 s2 _ D0 Γ0 w.heap u l2 froz hs0 (e0.vr hs (hv k _ u (List.getElem?_eq_getElem hlt) h2))
        refine (hC f args' obs r σ' hr (img D0 s2.ids) Γ0 w vals hsc (by omega) hargs).mono fun e w' ⟨x, D2, Γ2, he, hkp, hvr, hs2, ex⟩ => ⟨x, he, hkp, ?_⟩
        by_cases hA : (s2.ids.isEmpty && scalar r && σ'.isEmpty) = true
        · -- nothing but numbers came back
          rw [if_pos hA]
          simp only [Bool.and_eq_true, List.isEmpty_iff] at hA
          obtain ⟨⟨a1, a2⟩, a3⟩ := hA
          have hno : ∀ b, ¬ ownB (img D0 s2.ids) b := by
            intro b hb
            obtain ⟨j, id, _, _, _, q, _⟩ := himg b hb
            rw [a1] at q; simp at q
          obtain ⟨s3, e3⟩ := hs.heap ex.size fun b hb => ex.same b hb (hno b)
          exact ⟨D, Γ, scalar_vr a2 hvr, s3, e3⟩
        · rw [if_neg hA]
          have hlen2 : D2.length = σ'.length := hs2.len
          generalize hidsd : s2.ids ++ (List.range (σ'.length - obs.length)).map (nid + ·) = ids at hvr ⊢
          have hidl : ids.length = σ'.length := by rw [← hidsd]; simp; omega
          have hold : ∀ {k id : Nat}, k < s2.ids.length → ids[k]? = some id → s2.ids[k]? = some id := by
            intro k id hk h; rw [← hidsd, List.getElem?_append_left hk] at h; exact h
          have hnew : ∀ {k id : Nat}, ¬ k < s2.ids.length → ids[k]? = some id → σ[id]? = some .vir := by
            intro k id hk h
            rw [← hidsd, List.getElem?_append_right (by omega)] at h
            simp only [List.getElem?_map] at h
            cases hq : (List.range (σ'.length - obs.length))[k - s2.ids.length]? with
            | none => rw [hq] at h; simp at h
            | some q =>
              rw [hq] at h
              simp only [Option.map_some, Option.some.injEq] at h
              have hql : q < σ'.length - obs.length := by have := List.mem_of_getElem? hq; simpa using this
              rw [← h]; exact hvir q hql
          have hvir0 : ∀ {id : Nat}, σ[id]? = some .vir → (lay σ s2.sn)[id]? = some .vir ∧ D0[id]? = some .vir := by
            intro id hi
            have : (lay σ s2.sn)[id]? = some .vir := by
              rw [lay_other fun p hp e => ?_]
              · exact hi
              · obtain ⟨own, sz, xs, q1, _⟩ := n2 p hp
                rw [e, hi] at q1; cases q1
            exact ⟨this, hs0.virD this⟩
          have hsome : ∀ id ∈ s2.ids, ∃ s, D0[id]? = some s ∧ s ≠ .vir := by
            intro id hid
            obtain ⟨j, hj, hje⟩ := List.getElem_of_mem hid
            have hj' : s2.ids[j]? = some id := by rw [List.getElem?_eq_getElem hj, hje]
            have hjo : j < obs.length := by omega
            have hsm := hsame id hid
            rcases hob j id _ hj' (List.getElem?_eq_getElem hjo) with ⟨k1, _⟩ | ⟨own, sz, xs, k1, _⟩ | ⟨own, sz, xs, xs', k1, _⟩
            · rw [← hsm] at k1
              rcases hs0.ob id with ⟨q1, _⟩ | ⟨q1, _⟩ | ⟨_, q2⟩ | ⟨_, _, _, _, _, _, _, q1, _⟩
              · rw [q1] at k1; cases k1
              · rw [q1] at k1; cases k1
              · exact ⟨_, q2, by simp⟩
              · rw [q1] at k1; cases k1
            · rw [← hsm] at k1
              obtain ⟨blk, base, tot, hd, _⟩ := hs0.live k1
              exact ⟨_, hd, by simp⟩
            · rw [← hsm] at k1
              obtain ⟨blk, base, tot, hd, _⟩ := hs0.live k1
              exact ⟨_, hd, by simp⟩
          have hnd' : ids.Nodup := by
            rw [← hidsd, List.nodup_append]
            refine ⟨hnd, ?_, fun a ha b hb e => ?_⟩
            · rw [List.nodup_iff_pairwise_ne, List.pairwise_map]
              exact (List.nodup_iff_pairwise_ne.1 List.nodup_range).imp fun hne e => hne (by omega)
            · subst e
              obtain ⟨q, hq, rfl⟩ := List.mem_map.1 hb
              obtain ⟨s, k1, k2⟩ := hsome _ ha
              have := (hvir0 (hvir q (by simpa using hq))).2
              rw [k1] at this; cases this; exact k2 rfl
          have hin : ∀ id ∈ ids, id < D0.length := by
            intro id hid
            obtain ⟨k, hk, hke⟩ := List.getElem_of_mem hid
            have hk' : ids[k]? = some id := by rw [List.getElem?_eq_getElem hk, hke]
            by_cases hlt : k < s2.ids.length
            · obtain ⟨s, q, _⟩ := hsome id (List.mem_of_getElem? (hold hlt hk'))
              exact (List.getElem?_eq_some_iff.1 q).1
            · exact (List.getElem?_eq_some_iff.1 (hvir0 (hnew hlt hk')).2).1
          have hin' : ∀ id ∈ ids, id < (lay σ s2.sn).length := fun id hid => by rw [← hs0.len]; exact hin id hid
          obtain ⟨zd1, zd2⟩ := setAll_zip (ids := ids) (os := D2) (l := D0) hnd' hin
          obtain ⟨zs1, zs2⟩ := setAll_zip (ids := ids) (os := σ'.map (renOb fun k => ids[k]?)) (l := lay σ s2.sn) hnd' hin'
          have hρ : ∀ (k : Nat) (s : Slot), D2[k]? = some s → s ≠ .vir → ∀ j, ids[k]? = some j → (setAll D0 (ids.zip D2))[j]? = some s := fun k s h1 _ j h2 => zd1 k j s h2 h1
          have hext : Ext D0 Γ0 w.heap (setAll D0 (ids.zip D2)) Γ2 w'.heap := by
            refine ⟨fun i s hi => ?_, ex.size, fun b hb hn => ex.same b hb fun ho => hn (himg' b ho), ex.keep, fun b hb => ?_, fun b hb => (ex.grow b hb).imp id fun h => h.imp (himg' b) id⟩
            · by_cases him : i ∈ ids
              · obtain ⟨k, hk, hke⟩ := List.getElem_of_mem him
                have hk' : ids[k]? = some i := by rw [List.getElem?_eq_getElem hk, hke]
                have hkd : k < D2.length := by omega
                by_cases hlt : k < s2.ids.length
                · obtain ⟨s', q1, q2⟩ := ex.slot k s (img_get (hold hlt hk') hi)
                  exact ⟨s', zd1 k i s' hk' q1, q2⟩
                · have := (hvir0 (hnew hlt hk')).2
                  rw [hi] at this; cases this
                  exact ⟨D2[k], zd1 k i _ hk' (List.getElem?_eq_getElem hkd), trivial⟩
              · exact ⟨s, by rw [zd2 i him]; exact hi, slotLe_refl s⟩
            · obtain ⟨i, base, sz, tot, hi, ht⟩ := hb
              rcases setAll_inv hi with ⟨k, q1, q2⟩ | q
              · exact (ex.own b ⟨k, base, sz, tot, q2, ht⟩).imp (himg' b) id
              · exact .inl ⟨i, base, sz, tot, q, ht⟩
          refine ⟨setAll D0 (ids.zip D2), Γ2, renV_vr hρ hvr, ?_, e0.trans hext⟩
          rw [lay_append]
          show SR (setAll D0 (ids.zip D2)) Γ2 (setAll (lay σ s2.sn) (ids.zip (σ'.map (renOb fun k => ids[k]?)))) w'.heap
          have hother : ∀ {i blk base sz tot : Nat}, i ∉ ids → D0[i]? = some (.live blk base sz tot true) → 0 < tot → ¬ ownB (img D0 s2.ids) blk ∧ blk < w.heap.size := by
            intro i blk base sz tot hni hi ht
            refine ⟨fun ho => ?_, ?_⟩
            · obtain ⟨j, id, base', sz', tot', q1, q2, q3⟩ := himg blk ho
              have := hs0.apart _ _ _ _ _ _ _ _ _ hi q2 ht q3
              subst this
              exact hni (by rw [← hidsd]; exact List.mem_append_left _ (List.mem_of_getElem? q1))
            · rcases hs0.ob i with ⟨_, h2⟩ | ⟨_, h2⟩ | ⟨_, h2⟩ | ⟨own', pure', sz', xs', blk', base', tot', _, h2, h3⟩ <;> rw [h2] at hi <;> cases hi
              obtain ⟨_, h3⟩ := h3
              rcases h3 with ⟨h4, _⟩ | ⟨_, cells, T, fz, h4, _⟩
              · omega
              · exact (Array.getElem?_eq_some_iff.1 h4).1
          refine ⟨by rw [setAll_len, setAll_len]; exact hs0.len, fun i => ?_, fun i j b base sz tot base' sz' tot' h1 h2 t1 t2 => ?_, hs2.there⟩
          · by_cases him : i ∈ ids
            · obtain ⟨k, hk, hke⟩ := List.getElem_of_mem him
              have hk' : ids[k]? = some i := by rw [List.getElem?_eq_getElem hk, hke]
              have hmap : ∀ {o : Ob}, σ'[k]? = some o → (σ'.map (renOb fun k => ids[k]?))[k]? = some (renOb (fun k => ids[k]?) o) := fun h => by simp [h]
              rcases hs2.ob k with ⟨q1, _⟩ | ⟨q1, q2⟩ | ⟨q1, q2⟩ | ⟨own, pure, sz, xs, blk, base, tot, q1, q2, q3⟩
              · have : k < σ'.length := by omega
                rw [List.getElem?_eq_getElem this] at q1; cases q1
              · exact .inr (.inl ⟨zs1 k i _ hk' (hmap q1), zd1 k i _ hk' q2⟩)
              · exact .inr (.inr (.inl ⟨zs1 k i _ hk' (hmap q1), zd1 k i _ hk' q2⟩))
              · obtain ⟨xs', q4, q5⟩ := q3.ren hρ
                have := zs1 k i _ hk' (hmap q1)
                rw [q4] at this
                exact .inr (.inr (.inr ⟨own, pure, sz, xs', blk, base, tot, this, zd1 k i _ hk' q2, q5⟩))
            · rw [zs2 i him, zd2 i him]
              rcases hs0.ob i with h1 | h1 | h1 | ⟨own, pure, sz, xs, blk, base, tot, h1, h2, h3⟩
              · exact .inl h1
              · exact .inr (.inl h1)
              · exact .inr (.inr (.inl h1))
              · refine .inr (.inr (.inr ⟨own, pure, sz, xs, blk, base, tot, h1, h2, h3.mono hs0 hext (fun ht => ?_) fun ho ht hg => ?_⟩))
                · cases own with
                  | true => obtain ⟨q1, q2⟩ := hother him h2 ht; exact ex.same _ q2 q1
                  | false =>
                    have hG : Γ0 blk := by
                      obtain ⟨_, h3⟩ := h3
                      rcases h3 with ⟨h9, _⟩ | ⟨_, cells, T, fz, _, _, _, _, _, _, g8⟩
                      · omega
                      · exact g8 rfl
                    exact hext.same _ (hs0.there _ hG) (hs0.ownNot _ hG)
                · subst ho
                  obtain ⟨q1, q2⟩ := hother him h2 ht
                  rcases ex.grow _ hg with g | g | g
                  · exact hs0.ownNot _ g ⟨i, base, sz, tot, h2, ht⟩
                  · exact q1 g
                  · omega
          · have cross : ∀ {i j b base sz tot base' sz' tot' k : Nat}, ids[k]? = some i → D2[k]? = some (.live b base sz tot true) → 0 < tot → D0[j]? = some (.live b base' sz' tot' true) → 0 < tot' → j ∉ ids → False := by
              intro i j b base sz tot base' sz' tot' k q1 q2 t1 q3 t2 hnj
              obtain ⟨p1, p2⟩ := hother hnj q3 t2
              rcases ex.own b ⟨k, base, sz, tot, q2, t1⟩ with g | g
              · exact p1 g
              · omega
            by_cases hi : i ∈ ids <;> by_cases hj : j ∈ ids
            · obtain ⟨k, hk, hke⟩ := List.getElem_of_mem hi
              have hk' : ids[k]? = some i := by rw [List.getElem?_eq_getElem hk, hke]
              obtain ⟨m, hm, hme⟩ := List.getElem_of_mem hj
              have hm' : ids[m]? = some j := by rw [List.getElem?_eq_getElem hm, hme]
              have hkd : D2[k]? = some D2[k] := List.getElem?_eq_getElem (by omega)
              have hmd : D2[m]? = some D2[m] := List.getElem?_eq_getElem (by omega)
              rw [zd1 k i _ hk' hkd] at h1
              rw [zd1 m j _ hm' hmd] at h2
              have := hs2.apart k m b base sz tot base' sz' tot' (by rw [hkd]; exact h1) (by rw [hmd]; exact h2) t1 t2
              subst this
              rw [hk'] at hm'; cases hm'; rfl
            · obtain ⟨k, hk, hke⟩ := List.getElem_of_mem hi
              have hk' : ids[k]? = some i := by rw [List.getElem?_eq_getElem hk, hke]
              have hkd : D2[k]? = some D2[k] := List.getElem?_eq_getElem (by omega)
              rw [zd1 k i _ hk' hkd] at h1
              rw [zd2 j hj] at h2
              exact (cross hk' (by rw [hkd]; exact h1) t1 h2 t2 hj).elim
            · obtain ⟨k, hk, hke⟩ := List.getElem_of_mem hj
              have hk' : ids[k]? = some j := by rw [List.getElem?_eq_getElem hk, hke]
              have hkd : D2[k]? = some D2[k] := List.getElem?_eq_getElem (by omega)
              rw [zd1 k j _ hk' hkd] at h2
              rw [zd2 i hi] at h1
              exact (cross hk' (by rw [hkd]; exact h2) t2 h1 t1 hi).elim
            · rw [zd2 i hi] at h1
              rw [zd2 j hj] at h2
              exact hs0.apart _ _ _ _ _ _ _ _ _ h1 h2 t1 t2
    · exact (run_fail h).elim
end Go.VM
