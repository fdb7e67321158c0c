/- The machine over plain values: what it answers, the model's machine answers. No condition beyond those stated. -/
import Derived.Test.YtojigbcgmneiiaaVmAI
set_option linter.unusedVariables false
set_option linter.unusedSimpArgs false
namespace Go.VM
section
variable {P : Program} {X : Cx} {C : Oracle}

/-- As Ext, for the first m names. -/
structure ExtM (m : Nat) (D : Dir) (Γ : Nat → Prop) (H : Array Obj) (D' : Dir) (Γ' : Nat → Prop) (H' : Array Obj) : Prop where
  slot : ∀ (i : Nat) (s : Slot), i < m → D[i]? = some s → ∃ s' : Slot, D'[i]? = some s' ∧ slotLe s s'
  size : H.size ≤ H'.size
  same : ∀ b, b < H.size → ¬ ownB D b → H'[b]? = H[b]?
  keep : ∀ b, Γ b → Γ' b
  own : ∀ b, ownB D' b → ownB D b ∨ H.size ≤ b
  grow : ∀ b, Γ' b → Γ b ∨ ownB D b ∨ H.size ≤ b

theorem Ext.toM {D D' : Dir} {Γ Γ' : Nat → Prop} {H H' : Array Obj} (h : Ext D Γ H D' Γ' H') (m : Nat) : ExtM m D Γ H D' Γ' H' := ⟨fun i s _ hs => h.slot i s hs, h.size, h.same, h.keep, h.own, h.grow⟩

theorem ExtM.trans {m : Nat} {D D' D'' : Dir} {Γ Γ' Γ'' : Nat → Prop} {H H' H'' : Array Obj} (h : ExtM m D Γ H D' Γ' H') (h' : ExtM m D' Γ' H' D'' Γ'' H'') : ExtM m D Γ H D'' Γ'' H'' where
  slot i s hi hs := by
    obtain ⟨s', h1, h2⟩ := h.slot i s hi hs
    obtain ⟨s'', h3, h4⟩ := h'.slot i s' hi h1
    refine ⟨s'', h3, ?_⟩
    by_cases hv : s = .vir
    · subst hv; trivial
    · exact slotLe_trans hv h2 h4
  size := Nat.le_trans h.size h'.size
  same b hb hn := by
    rw [h'.same b (Nat.lt_of_lt_of_le hb h.size) (fun ho => (h.own b ho).elim hn (fun hl => by omega)), h.same b hb hn]
  keep b hb := h'.keep b (h.keep b hb)
  own b hb := by
    rcases h'.own b hb with h1 | h1
    · exact h.own b h1
    · exact .inr (Nat.le_trans h.size h1)
  grow b hb := by
    rcases h'.grow b hb with h1 | h1 | h1
    · exact h.grow b h1
    · exact .inr (h.own b h1)
    · exact .inr (.inr (Nat.le_trans h.size h1))

theorem tidied_ext {D : Dir} {Γ : Nat → Prop} {σ : Store} {H : Array Obj} (hs : SR D Γ σ H) (m : Nat) (vs : List V) : ExtM m D Γ H (img D (tidy m σ vs)) Γ H := by
  obtain ⟨h1, h2⟩ := tidy_spec m σ vs
  refine ⟨fun i s hi hd => ⟨s, img_get (h2 i hi) hd, slotLe_refl s⟩, Nat.le_refl _, fun _ _ _ => rfl, fun _ h => h, fun b hb => .inl ((hs.tidied h1).2.2 b hb), fun _ h => .inl h⟩

theorem prep_ok {D : Dir} {Γ : Nat → Prop} {s : S} {a : Act} {w : World} (hst : St D Γ s a w) (m : Nat) (keep : List Nat) : ∃ D', St D' Γ (prep m keep s) a w ∧ ExtM m D Γ w.heap D' Γ w.heap := by
  let T := s.T.zipIdx.map fun p => if keep.contains p.2 then p.1 else V.undef
  obtain ⟨h1, _⟩ := tidy_spec m s.σ T
  obtain ⟨s1, s2, s3⟩ := hst.sr.tidied h1
  refine ⟨img D (tidy m s.σ T), ⟨s1, ?_, fun i c v e1 e2 => ?_⟩, tidied_ext hst.sr m T⟩
  · simp [prep, hst.tr.1]
  · simp only [prep, List.getElem?_map, List.getElem?_zipIdx] at e1
    cases hq : s.T[i]? with
    | none => rw [hq] at e1; simp at e1
    | some d =>
      rw [hq] at e1
      simp only [Option.map_some, Option.some.injEq] at e1
      subst e1
      split
      · exact renV_vr s2 (hst.tr.2 i d v hq e2)
      · exact .one (.any _)

def exitOf : VX → Exit
  | .normal => .normal
  | .exit id => .exit id
  | .ret => .ret

theorem exec_ok (hX : X.OK P) (hC : OS P C) (hm : P.follows .mixedOrders = true) (f m n : Nat) : ∀ (c : Code) (k : Nat) (s s' : S) (x : VX) (D : Dir) (Γ : Nat → Prop) (a : Act) (w : World) (Q : Exit → Act → World → Prop),
    exec P X C f m n c k s = some (x, s') → St D Γ s a w → (∀ a' w' D' Γ', St D' Γ' s' a' w' → ExtM m D Γ w.heap D' Γ' w'.heap → Kept w w' → a'.defers = a.defers → Q (exitOf x) a' w') → c.wp P Q a w := by
  intro c
  induction c with
  | skip =>
    intro k s s' x D Γ a w Q h hst hQ
    simp only [exec, Option.some.injEq, Prod.mk.injEq] at h
    obtain ⟨rfl, rfl⟩ := h
    exact wp_skip (hQ a w D Γ hst ((Ext.refl ..).toM m) (Kept.refl _) rfl)
  | region id ops draw =>
    intro k s s' x D Γ a w Q h hst hQ
    simp only [exec] at h
    split at h
    · rename_i s1 hr
      simp only [Option.some.injEq, Prod.mk.injEq] at h
      obtain ⟨rfl, rfl⟩ := h
      exact region_ok hX hC hm hr hst (fun a' w' D' Γ' h1 h2 hk h3 => hQ a' w' D' Γ' h1 (h2.toM m) hk h3) id
    · cases h
  | seq c1 c2 ih1 ih2 =>
    intro k s s' x D Γ a w Q h hst hQ
    simp only [exec] at h
    refine wp_seq ?_
    split at h
    · rename_i s1 h1
      refine ih1 k s s1 .normal D Γ a w _ h1 hst fun a' w' D' Γ' q1 q2 qk q3 => ?_
      exact ih2 k s1 s' x D' Γ' a' w' Q h q1 fun a'' w'' D'' Γ'' r1 r2 rk r3 => hQ a'' w'' D'' Γ'' r1 (q2.trans r2) (qk.trans rk) (r3.trans q3)
    · rename_i hne
      refine ih1 k s s' x D Γ a w _ h hst fun a' w' D' Γ' q1 q2 qk q3 => ?_
      have := hQ a' w' D' Γ' q1 q2 qk q3
      cases x with
      | normal => exact absurd h (hne _)
      | exit id => exact this
      | ret => exact this
  | cond cd c1 c2 ih1 ih2 =>
    intro k s s' x D Γ a w Q h hst hQ
    simp only [exec] at h
    have hev := hst.tr.ev cd
    split at h
    · rename_i e
      rw [e] at hev
      exact wp_cond_true hev.bool (ih1 k s s' x D Γ a w Q h hst hQ)
    · rename_i e
      rw [e] at hev
      exact wp_cond_false hev.bool (ih2 k s s' x D Γ a w Q h hst hQ)
    · cases h
  | block id c ih =>
    intro k s s' x D Γ a w Q h hst hQ
    simp only [exec] at h
    refine wp_block ?_
    split at h
    · rename_i j s1 h1
      refine ih id s s1 (.exit j) D Γ a w _ h1 hst fun a' w' D' Γ' q1 q2 qk q3 => ?_
      simp only [exitOf, Exit.inBlock]
      split at h
      · rename_i hj
        simp only [Option.some.injEq, Prod.mk.injEq] at h
        obtain ⟨rfl, rfl⟩ := h
        rw [if_pos hj]
        exact hQ a' w' D' Γ' q1 q2 qk q3
      · rename_i hj
        simp only [Option.some.injEq, Prod.mk.injEq] at h
        obtain ⟨rfl, rfl⟩ := h
        rw [if_neg hj]
        exact hQ a' w' D' Γ' q1 q2 qk q3
    · rename_i hne
      refine ih id s s' x D Γ a w _ h hst fun a' w' D' Γ' q1 q2 qk q3 => ?_
      have := hQ a' w' D' Γ' q1 q2 qk q3
      cases x with
      | normal => exact this
      | exit j => exact absurd h (hne _ _)
      | ret => exact this
  | loop c ih =>
    intro k s s' x D Γ a w Q h hst hQ
    simp only [exec] at h
    refine wp_loop_rounds n ?_
    have key : ∀ (q : Nat) (s s' : S) (D : Dir) (Γ : Nat → Prop) (a : Act) (w : World), vloop (fun s => exec P X C f m n c k s) (prep m (X.keep f k)) q s = some (x, s') → St D Γ s a w →
        (∀ a' w' D' Γ', St D' Γ' s' a' w' → ExtM m D Γ w.heap D' Γ' w'.heap → Kept w w' → a'.defers = a.defers → Q (exitOf x) a' w') → Code.rounds P c Q q a w := by
      intro q
      induction q with
      | zero => intro s s' D Γ a w h; simp [vloop] at h
      | succ q ihq =>
        intro s s' D Γ a w h hst hQ
        simp only [vloop] at h
        rw [rounds_succ]
        obtain ⟨D1, p1, p2⟩ := prep_ok hst m (X.keep f k)
        split at h
        · rename_i s1 h1
          refine ih k _ s1 .normal D1 Γ a w _ h1 p1 fun a' w' D' Γ' q1 q2 qk q3 => ?_
          exact ihq s1 s' D' Γ' a' w' h q1 fun a'' w'' D'' Γ'' r1 r2 rk r3 => hQ a'' w'' D'' Γ'' r1 (p2.trans (q2.trans r2)) (qk.trans rk) (r3.trans q3)
        · rename_i hne
          refine ih k _ s' x D1 Γ a w _ h p1 fun a' w' D' Γ' q1 q2 qk q3 => ?_
          have := hQ a' w' D' Γ' q1 (p2.trans q2) qk q3
          cases x with
          | normal => exact absurd h (hne _)
          | exit id => exact this
          | ret => exact this
    exact key n s s' D Γ a w h hst hQ
  | exit id =>
    intro k s s' x D Γ a w Q h hst hQ
    simp only [exec, Option.some.injEq, Prod.mk.injEq] at h
    obtain ⟨rfl, rfl⟩ := h
    exact wp_exit (hQ a w D Γ hst ((Ext.refl ..).toM m) (Kept.refl _) rfl)
  | ret =>
    intro k s s' x D Γ a w Q h hst hQ
    simp only [exec, Option.some.injEq, Prod.mk.injEq] at h
    obtain ⟨rfl, rfl⟩ := h
    exact wp_ret (hQ a w D Γ hst ((Ext.refl ..).toM m) (Kept.refl _) rfl)
  | _ => intro k s s' x D Γ a w Q h; simp [exec] at h

def readRes (tmps : Array Value) : ResultVar → Sem Value
  | .tmp t => pure (tmps.getD t undef)
  | .cell a t => do loadVar t (← asAddr (tmps.getD a undef))

theorem result_ok (hX : X.OK P) {D : Dir} {Γ : Nat → Prop} {s : S} {a : Act} {w : World} (hst : St D Γ s a w) {rv : ResultVar} {v : V} (h : result X s (resOf rv) = some v) : ∃ x, (readRes a.tmps rv).run P w = .ok x w ∧ VR D Γ w.heap v x := by
  cases rv with
  | tmp t =>
    simp only [resOf, result, Option.some.injEq] at h
    subst h
    exact ⟨_, rfl, hst.tr.ev (.tmp t)⟩
  | cell t ty =>
    simp only [resOf, result] at h
    have hev : VR D Γ w.heap (s.T.getD t .undef) (a.tmps.getD t undef) := hst.tr.ev (.tmp t)
    split at h
    · rename_i ti id i off hti hp
      rw [hp] at hev
      split at h
      · rename_i own pure sz xs hob
        split at h
        · rename_i row hrow
          obtain ⟨blk, base, tot, hd, hor⟩ := hst.sr.live hob
          have hpt := (hev.ptr).ptr_inv hd
          obtain ⟨y, hy, hvy⟩ := loadVar_ok (P := P) (w := w) (D := D) (Γ := Γ) (H := w.heap) (hX.ty _ _ hti) h (b := blk) (o := base + i * sz + off) (fun k c h1 h2 h3 => by
            obtain ⟨u, hu, hl⟩ := hor.row hrow k c h3
            refine ⟨u, ?_, hl⟩
            rw [show base + i * sz + off + (k - off) = base + i * sz + k by omega]; exact hu)
          exact ⟨y, by simp only [readRes, hpt, asAddr, Sem.run_bind, Sem.run_pure, Result.andThen_ok, hy], hvy⟩
        · cases h
      · cases h
    · cases h

theorem results_ok (hX : X.OK P) {D : Dir} {Γ : Nat → Prop} {s : S} {a : Act} {w : World} (hst : St D Γ s a w) : ∀ {l : List ResultVar} {vs : List V}, VM.results X s (l.map resOf) = some vs →
    ∃ xs, (l.mapM (readRes a.tmps)).run P w = .ok xs w ∧ xs.length = vs.length ∧ ∀ (k : Nat) (c : V) (v : Value), vs[k]? = some c → xs[k]? = some v → VR D Γ w.heap c v
  | [], vs, h => by
    simp only [List.map_nil, VM.results, Option.some.injEq] at h
    subst h
    exact ⟨[], by simp, rfl, fun k c v h => by simp at h⟩
  | r :: l, vs, h => by
    simp only [List.map_cons, VM.results] at h
    split at h
    · rename_i v vs' h1 h2
      cases h
      obtain ⟨x, q1, q2⟩ := result_ok hX hst h1
      obtain ⟨xs, r1, r2, r3⟩ := results_ok hX hst h2
      refine ⟨x :: xs, by rw [List.mapM_cons, Sem.run_bind, q1, Result.andThen_ok, Sem.run_bind, r1]; rfl, by simp [r2], fun k c v e1 e2 => ?_⟩
      cases k with
      | zero => simp at e1 e2; subst e1; subst e2; exact q2
      | succ k => simp at e1 e2; exact r3 k c v e1 e2
    · cases h

theorem run_results {fn : Func} {tmps : Array Value} {w : World} {xs : List Value} (h : (fn.results.toList.mapM (readRes tmps)).run P w = .ok xs w) : (Go.results fn tmps).run P w = .ok (if h : xs.length = 1 then xs[0] else .tuple xs.toArray) w := by
  have e : Go.results fn tmps = (do let vs ← fn.results.mapM (readRes tmps); pure (if h : vs.size = 1 then vs[0] else .tuple vs) : Sem Value) := by
    unfold Go.results
    congr 1
  rw [e, Array.mapM_eq_mapM_toList, Sem.run_bind, Sem.run_map, h]
  simp

theorem call_ok (hX : X.OK P) (hm : P.follows .mixedOrders = true) {O : Oracle} (hO : OS P O) (N : Nat) : ∀ n, OS P (call P X O N n)
  | 0 => fun f args σ r σ' h => by simp [call] at h
  | n + 1 => by
    intro f args σ r σ' h D Γ w vals hs hl hv
    simp only [call] at h
    split at h
    · rename_i r' hr
      cases h
      exact hO f args σ r σ' hr D Γ w vals hs hl hv
    · split at h
      · cases h
      · rename_i fi hfi
        obtain ⟨fn, h1, h2, h3, h4, h5⟩ := fiOf_some (hX.fn _ _ hfi)
        refine calls_of_wp h1 h3 ?_
        have hst : St D Γ ⟨args ++ List.replicate (fi.ntmps - args.length) .undef, σ⟩ ⟨vals ++ Array.replicate (fn.ntmps - vals.size) undef, []⟩ w := by
          refine ⟨hs, by simp [hl, h4], fun i c v e1 e2 => ?_⟩
          by_cases hi : i < args.length
          · rw [List.getElem?_append_left hi] at e1
            rw [Array.getElem?_append_left (by omega)] at e2
            exact .one (hv i c v e1 e2)
          · rw [List.getElem?_append_right (by omega), List.getElem?_replicate] at e1
            split at e1
            · cases e1; exact .one (.any _)
            · cases e1
        have fin : ∀ {s : S}, leave X σ.length fi s = some (r, σ') → ∀ (a' : Act) (w' : World) (D' : Dir) (Γ' : Nat → Prop), St D' Γ' s a' w' → ExtM σ.length D Γ w.heap D' Γ' w'.heap → Kept w w' → a'.defers = [] →
            a'.defers = [] ∧ ∃ v, (Go.results fn a'.tmps).run P w' = .ok v w' ∧ ∃ x D'' Γ'', Ending.returned v = .returned x ∧ Kept w w' ∧ VR D'' Γ'' w'.heap r x ∧ SR D'' Γ'' σ' w'.heap ∧ Ext D Γ w.heap D'' Γ'' w'.heap := by
          intro s hlv a' w' D' Γ' hst' hext hkp hdf
          refine ⟨hdf, ?_⟩
          unfold leave at hlv
          rw [h5] at hlv
          split at hlv
          · cases hlv
          · rename_i vs hvs
            split at hlv
            · cases hlv
            · rename_i hcond
              simp only [Option.some.injEq, Prod.mk.injEq] at hlv
              obtain ⟨rfl, rfl⟩ := hlv
              obtain ⟨xs, q1, q2, q3⟩ := results_ok hX hst' hvs
              refine ⟨_, run_results q1, ?_⟩
              obtain ⟨t1, t2⟩ := tidy_spec σ.length s.σ [oneOr vs]
              obtain ⟨u1, u2, u3⟩ := hst'.sr.tidied t1
              have hone : VR D' Γ' w'.heap (oneOr vs) (if h : xs.length = 1 then xs[0] else .tuple xs.toArray) := by
                by_cases h1 : xs.length = 1
                · rw [dif_pos h1]
                  obtain ⟨v, hv1⟩ : ∃ v, vs = [v] := List.length_eq_one_iff.1 (by omega)
                  obtain ⟨x, hx1⟩ : ∃ x, xs = [x] := List.length_eq_one_iff.1 h1
                  subst hv1; subst hx1
                  exact q3 0 v x rfl rfl
                · rw [dif_neg h1]
                  have : oneOr vs = .tup vs := by
                    match vs, q2 with
                    | [], _ => rfl
                    | [v], q2 => exact absurd q2 h1
                    | a :: b :: c, _ => rfl
                  rw [this]
                  refine .tup _ (by simpa using q2) fun k c v e1 e2 => ?_
                  have hvr := q3 k c v e1 (by simpa using e2)
                  have hnt : ∀ l, c ≠ .tup l := by
                    intro l e
                    subst e
                    apply hcond
                    simp only [Bool.and_eq_true, Bool.not_eq_true', beq_eq_false_iff_ne]
                    exact ⟨fun h => h1 (by omega), List.any_eq_true.2 ⟨_, List.mem_of_getElem? e1, rfl⟩⟩
                  cases hvr with
                  | one h => exact h
                  | tup => exact absurd rfl (hnt _)
              refine ⟨_, img D' (tidy σ.length s.σ [oneOr vs]), Γ', rfl, hkp, renV_vr u2 hone, u1, ?_⟩
              have he := hext.trans (tidied_ext hst'.sr σ.length [oneOr vs])
              exact ⟨fun i sl hi => he.slot i sl (by rw [← hs.len]; exact (List.getElem?_eq_some_iff.1 hi).1) hi, he.size, he.same, he.keep, he.own, he.grow⟩
        split at h
        · rename_i s hex
          exact exec_ok hX (call_ok hX hm hO N n) hm f σ.length N fi.body 0 _ s .normal D Γ _ w _ hex hst fun a' w' D' Γ' p1 p2 pk p3 => fin h a' w' D' Γ' p1 p2 pk p3
        · rename_i s hex
          exact exec_ok hX (call_ok hX hm hO N n) hm f σ.length N fi.body 0 _ s .ret D Γ _ w _ hex hst fun a' w' D' Γ' p1 p2 pk p3 => fin h a' w' D' Γ' p1 p2 pk p3
        · cases h
end
end Go.VM
