/- The machine over plain values: one operation of a region, and a region in the text's order. No condition beyond those stated. -/
import Derived.Test.YtifalphladcdcaaGreatVmAE
set_option linter.unusedVariables false
set_option linter.unusedSimpArgs false
namespace Go.VM
section
variable {P : Program} {D : Dir} {Γ : Nat → Prop} {σ : Store} {w : World}

theorem fiOf_some {f : Nat} {fi : FI} (h : fiOf P f = some fi) : ∃ fn, P.funcs[f]? = some fn ∧ (fn.name == "runtime.NumGoroutine") = false ∧ fn.body = some fi.body ∧ fn.ntmps = fi.ntmps ∧ fi.results = fn.results.toList.map resOf := by
  unfold fiOf at h
  split at h
  · rename_i fn hf
    split at h
    · cases h
    · rename_i hn
      split at h
      · rename_i c hc
        cases h
        exact ⟨fn, hf, by simpa using hn, hc, rfl, rfl⟩
      · cases h
  · cases h

theorem opM_wp {X : Cx} (hX : X.OK P) {C : Oracle} (hC : OS P C) (hs : SR D Γ σ w.heap) {T : List V} {a : Act} (hT : TR D Γ w.heap T a.tmps) {nid : Nat} {o : Oper} {v : V} {ws : List (Nat × Ob)}
    (h : (opM P X C T nid o).run σ = some (v, ws)) {next : Act → World → Prop} {Q : Exit → Act → World → Prop} (hn : ∀ x w', Kept w w' → Post D Γ σ w.heap v ws x w'.heap → next (a.put o.dst x) w') : o.wp P a w next Q := by
  unfold opM at h
  split at h
  · rename_i f args tys ho
    split at h
    · rename_i g caps hev
      split at h
      · rename_i hfn
        obtain ⟨fi, hfi⟩ := Option.isSome_iff_exists.1 hfn
        obtain ⟨fn, h1, h2, h3, _, _⟩ := fiOf_some (hX.fn _ _ hfi)
        have hf := hT.ev f
        rw [hev] at hf
        obtain ⟨arr, hfe, hal, hah⟩ := hf.fn
        have hrun : (execOp a.eval o).run P w = .ok (.enter g (args.map a.eval ++ arr)) w := by
          simp only [execOp, ho, resolve, hfe, Deferred.ofValue, invoke, callFunc, Sem.run_bind, Sem.run_pure, Result.andThen_ok, run_program, h1, h2, h3]
          simp
        unfold Oper.wp
        rw [hrun, Oper.upon_enter]
        refine (callM_ok hC hs (vals := args.map a.eval ++ arr) (by simp [hal]) (fun k c u e1 e2 => ?_) h).mono fun e w' ⟨x, he, hk, hp⟩ => by subst he; exact hn x w' hk hp
        by_cases hk : k < args.size
        · rw [List.getElem?_append_left (by simpa using hk)] at e1
          rw [Array.getElem?_append_left (by simpa using hk)] at e2
          simp only [List.getElem?_map, Array.getElem?_toList, Array.getElem?_map] at e1 e2
          cases hq : args[k]? with
          | none => rw [hq] at e1; simp at e1
          | some y =>
            rw [hq] at e1 e2
            simp only [Option.map_some, Option.some.injEq] at e1 e2
            subst e1; subst e2
            exact hT.ev y
        · rw [List.getElem?_append_right (by simpa using hk)] at e1
          rw [Array.getElem?_append_right (by simpa using hk)] at e2
          simp at e1 e2
          exact .one (.leaf (hah _ _ _ e1 e2))
      · exact (run_fail h).elim
    · exact (run_fail h).elim
  · obtain ⟨x, w', hg, hp⟩ := op1_ok hX hs hT nid o h
    obtain ⟨hkp, hg⟩ := hg
    have := hn x w' hkp hp
    unfold Oper.wp
    rcases hg with hg | ⟨hg, rfl⟩
    · rw [hg, Oper.upon_value]; exact this
    · rw [hg, Oper.upon_skip]; exact this

/-- A frame and the memory, as the machine has them. -/
structure St (D : Dir) (Γ : Nat → Prop) (s : S) (a : Act) (w : World) : Prop where
  sr : SR D Γ s.σ w.heap
  tr : TR D Γ w.heap s.T a.tmps

theorem wantV_ok {ops : Array Oper} {T : List V} {a : Act} {H : Array Obj} (hT : TR D Γ H T a.tmps) {o : Oper} {b : Bool} (h : wantV ops.toList T o = some b) : Region.wanted o (yielded ops a.tmps) = b := by
  unfold wantV at h
  unfold Region.wanted
  split at h
  · rename_i hg; rw [hg]; cases h; rfl
  · rename_i j want hg
    rw [hg]
    split at h
    · cases h
    · rename_i p hp
      rw [Array.getElem?_toList] at hp
      split at h
      · cases h
      · rename_i d hd
        have hy : yielded ops a.tmps j = match a.tmps[d]? with | some (.bool b) => some b | _ => none := by
          simp only [yielded, hp, Option.bind_some, hd]
          first | rfl | (cases a.tmps[d]? with | none => rfl | some x => cases x <;> rfl)
        have key : ∀ {c : V}, T[d]? = some c → ∃ x, a.tmps[d]? = some x ∧ VR D Γ H c x := by
          intro c hc
          have hlt : d < a.tmps.size := by rw [hT.1]; exact (List.getElem?_eq_some_iff.1 hc).1
          exact ⟨_, Array.getElem?_eq_getElem hlt, hT.2 d _ _ hc (Array.getElem?_eq_getElem hlt)⟩
        split at h
        · rename_i b' hb
          obtain ⟨x, hx, hv⟩ := key hb
          have := hv.bool
          subst this
          cases h
          simp only [hy, hx]
          cases b' <;> cases want <;> rfl
        · rename_i hb
          obtain ⟨x, hx, hv⟩ := key hb
          obtain ⟨arr, rfl, hl, _⟩ := hv.tup_inv
          cases h
          simp only [hy, hx]
          rfl
        · cases h

theorem runOp_ok {X : Cx} (hX : X.OK P) {C : Oracle} (hC : OS P C) {ops : Array Oper} {i nid : Nat} {o : Oper} (hi : ops[i]? = some o) {s s' : S} {f : Foot} (h : runOp P X C ops.toList i nid o s = some (s', f)) {a : Act} (hst : St D Γ s a w)
    {K : Act → World → Prop} {Q : Exit → Act → World → Prop} (hk : ∀ a' w' D' Γ', St D' Γ' s' a' w' → Ext D Γ w.heap D' Γ' w'.heap → Kept w w' → a'.defers = a.defers → K a' w') : wpOp P ops Q i K a w := by
  have hdef : ∀ (d : Option Tmp) (x : Value), (a.put d x).defers = a.defers := fun d x => by cases d <;> rfl
  unfold runOp at h
  unfold wpOp
  simp only [hi]
  split at h
  · cases h
  · rename_i hw
    cases h
    rw [wantV_ok hst.tr hw]
    simp only [Bool.false_eq_true, if_false]
    exact hk _ _ D Γ ⟨hst.sr, hst.tr.put (.tup #[] rfl fun k c v h => by simp at h) o.dst⟩ (Ext.refl ..) (Kept.refl _) (hdef _ _)
  · rename_i hw
    rw [wantV_ok hst.tr hw]
    simp only [if_true]
    split at h
    · cases h
    · rename_i v ws hr
      cases h
      refine .inl (opM_wp hX hC hst.sr hst.tr hr fun x w' hkp ⟨D', Γ', hv, hs', he⟩ => hk _ _ D' Γ' ⟨hs', (he.tr hst.sr hst.tr).put hv o.dst⟩ he hkp (hdef _ _))

theorem runSeq_ok {X : Cx} (hX : X.OK P) {C : Oracle} (hC : OS P C) {ops : Array Oper} {Q : Exit → Act → World → Prop} : ∀ {l : List (Nat × Nat × Oper)} {s s' : S} {fs : List Foot} {D : Dir} {Γ : Nat → Prop} {a : Act} {w : World}, (∀ p ∈ l, ops[p.1]? = some p.2.2) → runSeq P X C ops.toList l s = some (s', fs) → St D Γ s a w →
    (∀ a' w' D' Γ', St D' Γ' s' a' w' → Ext D Γ w.heap D' Γ' w'.heap → Kept w w' → a'.defers = a.defers → Q .normal a' w') → wpOps P ops Q (l.map (·.1)) a w
  | [], s, s', fs, D, Γ, a, w, _, h, hst, hq => by
    simp only [runSeq, Option.some.injEq, Prod.mk.injEq] at h
    obtain ⟨rfl, rfl⟩ := h
    exact hq a w D Γ hst (Ext.refl ..) (Kept.refl _) rfl
  | (i, nid, o) :: l, s, s', fs, D, Γ, a, w, hl, h, hst, hq => by
    simp only [runSeq] at h
    split at h
    · cases h
    · rename_i s1 f1 h1
      split at h
      · cases h
      · rename_i s2 fs2 h2
        simp only [Option.some.injEq, Prod.mk.injEq] at h
        obtain ⟨rfl, rfl⟩ := h
        rw [List.map_cons, wpOps_cons]
        exact runOp_ok hX hC (hl (i, nid, o) (by simp)) h1 hst fun a' w' D' Γ' hst' he hk hd => runSeq_ok hX hC (fun p hp => hl p (by simp [hp])) h2 hst' fun a'' w'' D'' Γ'' hst'' he' hk' hd' => hq a'' w'' D'' Γ'' hst'' (he.trans he') (hk.trans hk') (hd'.trans hd)

theorem bases_len (X : Cx) : ∀ (l : List Oper) (b : Nat), (bases X b l).length = l.length
  | [], _ => rfl
  | o :: l, b => by simp [bases, bases_len X l]

theorem plan_fst (X : Cx) (b : Nat) (l : List Oper) : (plan X b l).map (·.1) = List.range l.length := by
  unfold plan
  rw [List.map_fst_zip (by simp [bases_len])]

theorem plan_mem {X : Cx} {b : Nat} {ops : Array Oper} {p : Nat × Nat × Oper} (h : p ∈ plan X b ops.toList) : ops[p.1]? = some p.2.2 := by
  obtain ⟨k, hk, he⟩ := List.getElem_of_mem h
  unfold plan at hk he
  rw [List.getElem_zip, List.getElem_zip] at he
  subst he
  simp only [List.getElem_range]
  simp at hk
  simp [bases_len] at hk ⊢

/-- Names that are kept for what a region makes. -/
theorem SR.more (hs : SR D Γ σ w.heap) (n : Nat) : SR (D ++ List.replicate n .vir) Γ (σ ++ List.replicate n .vir) w.heap ∧ Ext D Γ w.heap (D ++ List.replicate n .vir) Γ w.heap := by
  have hinv : ∀ {i : Nat} {s : Slot}, (D ++ List.replicate n .vir)[i]? = some s → s ≠ .vir → D[i]? = some s := by
    intro i s h hne
    by_cases hi : i < D.length
    · rw [List.getElem?_append_left hi] at h; exact h
    · rw [List.getElem?_append_right (by omega), List.getElem?_replicate] at h
      split at h
      · cases h; exact absurd rfl hne
      · cases h
  have hget : ∀ {i : Nat} {s : Slot}, D[i]? = some s → (D ++ List.replicate n .vir)[i]? = some s := fun {i s} h => by
    rw [List.getElem?_append_left (List.getElem?_eq_some_iff.1 h).1]; exact h
  have he : Ext D Γ w.heap (D ++ List.replicate n .vir) Γ w.heap := ⟨fun i s h => ⟨s, hget h, slotLe_refl s⟩, Nat.le_refl _, fun _ _ _ => rfl, fun _ h => h, fun b ⟨i, base, sz, tot, hi, ht⟩ => .inl ⟨i, base, sz, tot, hinv hi (by simp), ht⟩, fun _ h => .inl h⟩
  refine ⟨⟨by simp [hs.len], fun i => ?_, fun i j b base sz tot base' sz' tot' h1 h2 => hs.apart i j b base sz tot base' sz' tot' (hinv h1 (by simp)) (hinv h2 (by simp)), hs.there⟩, he⟩
  by_cases hi : i < D.length
  · have hi' : i < σ.length := by rw [← hs.len]; exact hi
    rw [List.getElem?_append_left hi, List.getElem?_append_left hi']
    rcases hs.ob i with h | h | h | ⟨own, pure, sz, xs, blk, base, tot, h1, h2, h3⟩
    · exact .inl h
    · exact .inr (.inl h)
    · exact .inr (.inr (.inl h))
    · exact .inr (.inr (.inr ⟨own, pure, sz, xs, blk, base, tot, h1, h2, h3.mono hs he (fun _ => rfl) fun ho ht hg => hs.ownNot _ hg ⟨i, base, sz, tot, by rw [← ho]; exact h2, ht⟩⟩))
  · have hi' : ¬ i < σ.length := by rw [← hs.len]; exact hi
    rw [List.getElem?_append_right (by omega), List.getElem?_append_right (by omega), hs.len, List.getElem?_replicate, List.getElem?_replicate]
    split
    · exact .inr (.inl ⟨rfl, rfl⟩)
    · exact .inl ⟨rfl, rfl⟩
end
end Go.VM
