/- The machine over plain values: regions whole; the store without what nothing names. No condition beyond those stated. -/
import Derived.Test.YtifalphladcdcaaGreatVmAH
import Derived.LoopN
set_option linter.unusedVariables false
set_option linter.unusedSimpArgs false
namespace Go.VM
section
variable {P : Program} {X : Cx} {C : Oracle}

theorem fzList_ok : ∀ (pre σ τ : Store), Frz (pre ++ σ) (fzList pre.length σ τ)
  | pre, [], τ => by unfold fzList; exact Frz.nil _
  | pre, o :: σ, [] => by unfold fzList; split <;> first | exact Frz.nil _ | simp_all
  | pre, o :: σ, q :: τ => by
    have ih := fzList_ok (pre ++ [o]) σ τ
    simp only [List.length_append, List.length_cons, List.length_nil, List.append_assoc, List.cons_append, List.nil_append] at ih
    unfold fzList
    split
    · rename_i sz xs σ' _ _ τ' h1 h2
      cases h1; cases h2
      intro p hp
      rcases List.mem_cons.1 hp with rfl | hp
      · exact ⟨true, sz, xs, by simp, rfl⟩
      · exact ih p hp
    · rename_i h1 h2
      cases h1; cases h2
      exact ih
    · exact Frz.nil _

theorem fz_ok {D : Dir} {Γ : Nat → Prop} {σ τ : Store} {H : Array Obj} (h : SR D Γ σ H) : ∃ D' Γ', SR D' Γ' (fz σ τ) H ∧ Ext D Γ H D' Γ' H := h.frz (by simpa using fzList_ok [] σ τ)

theorem orders_spec {ops : Array Oper} {fs : List Foot} (h : okOrders ops fs = true) :
    fs.Pairwise (fun f g => (!loose ops.toList (befores ops.toList []) f.at_ g.at_ || (free f g && ((ops[f.at_]?).any fun x => (ops[g.at_]?).any fun y => x.apart ops y))) = true) ∧
    ∀ (j : Nat) (o : Oper), ops[j]? = some o → ∀ e ∈ o.after.toList, Region.binds .any e = true → e.on < j := by
  unfold okOrders at h
  simp only [Bool.and_eq_true] at h
  refine ⟨allPairs_pairwise h.1, fun j o hj e he hb => ?_⟩
  have h2 := List.all_eq_true.1 h.2 (o, j) (by
    rw [List.mem_iff_getElem?]
    exact ⟨j, by rw [List.getElem?_zipIdx, Array.getElem?_toList, hj]; simp⟩)
  have := List.all_eq_true.1 h2 e he
  rw [hb] at this
  simpa using this

theorem region_ok (hX : X.OK P) (hC : OS P C) (hm : P.follows .mixedOrders = true) {ops : Array Oper} {draw : Bool} {s s' : S} (h : runRegion P X C ops draw s = some s') {D : Dir} {Γ : Nat → Prop} {a : Act} {w : World} (hst : St D Γ s a w)
    {Q : Exit → Act → World → Prop} (hQ : ∀ a' w' D' Γ', St D' Γ' s' a' w' → Ext D Γ w.heap D' Γ' w'.heap → Kept w w' → a'.defers = a.defers → Q .normal a' w') (id : Nat) : (Code.region id ops draw).wp P Q a w := by
  -- one way through, from a store that is no worse
  have way : ∀ {τ : Store} {D1 : Dir} {Γ1 : Nat → Prop} {sF : S} {fs : List Foot}, SR D1 Γ1 τ w.heap → Ext D Γ w.heap D1 Γ1 w.heap → τ.length = s.σ.length →
      runSeq P X C ops.toList (plan X s.σ.length ops.toList) ⟨s.T, τ ++ List.replicate (total X ops.toList) .vir⟩ = some (sF, fs) → s' = sF → (draw = true → okOrders ops fs = true) → (Code.region id ops draw).wp P Q a w := by
    intro τ D1 Γ1 sF fs hs1 he1 hl hrun e hord
    subst e
    obtain ⟨hs2, he2⟩ := hs1.more (total X ops.toList)
    have hst2 : St (D1 ++ List.replicate (total X ops.toList) .vir) Γ1 ⟨s.T, τ ++ List.replicate (total X ops.toList) .vir⟩ a w := ⟨hs2, he2.tr hs1 (he1.tr hst.sr hst.tr)⟩
    cases draw with
    | false =>
      refine wp_region ?_
      rw [← Array.length_toList, ← plan_fst X s.σ.length ops.toList]
      exact runSeq_ok hX hC (fun p hp => plan_mem hp) hrun hst2 fun a' w' D' Γ' h1 h2 hk h3 => hQ a' w' D' Γ' h1 (he1.trans (he2.trans h2)) hk h3
    | true =>
      obtain ⟨hpw, hedge⟩ := orders_spec (hord rfl)
      refine wp_region_any hm ?_
      have hst3 : St (D1 ++ List.replicate (total X ops.toList) .vir) Γ1 ⟨s.T, τ ++ List.replicate (total X ops.toList) .vir⟩ a { w with drawn := w.drawn + 1 } := ⟨hst2.sr, hst2.tr⟩
      have hpl : (plan X s.σ.length ops.toList).length = ops.size := by
        have := congrArg List.length (plan_fst X s.σ.length ops.toList); simpa using this
      refine any_ok hX hC (d0 := a.defers) (D0 := D) (Γ0 := Γ) (W0 := w) hedge (fun a' w' D' Γ' h1 h2 hk h3 => hQ a' w' D' Γ' h1 h2 hk h3) ops.size (plan X s.σ.length ops.toList) (Array.replicate ops.size false) _ fs _ Γ1 a _ (by omega) (by simp) (fun p hp => ?_) (fun i hi => ?_) ?_ hrun hpw (fun i hi => ?_) hst3 (he1.trans he2) ⟨rfl, rfl, rfl⟩ rfl
      · have h1 := plan_mem hp
        have hlt : p.1 < ops.size := (Array.getElem?_eq_some_iff.1 h1).1
        exact ⟨h1, by simp [Array.getD_eq_getD_getElem?, hlt]⟩
      · have hlt : i < ops.size := by
          refine Classical.byContradiction fun hn => ?_
          simp [Array.getD_eq_getD_getElem?, hn] at hi
        have : i ∈ (plan X s.σ.length ops.toList).map (·.1) := by rw [plan_fst]; simp [hlt]
        obtain ⟨p, h1, h2⟩ := List.mem_map.1 this
        exact ⟨p, h1, h2⟩
      · have := List.pairwise_lt_range (n := ops.toList.length)
        rw [← plan_fst X s.σ.length ops.toList, List.pairwise_map] at this
        exact this
      · exfalso
        by_cases hlt : i < ops.size <;> simp [Array.getD_eq_getD_getElem?, hlt] at hi
  unfold runRegion at h
  simp only at h
  split at h
  · cases h
  · rename_i sF fs hrun
    split at h
    · rename_i hbad
      split at h
      · cases h
      · rename_i sG fs' hrun'
        split at h
        · rename_i hok
          cases h
          obtain ⟨D1, Γ1, h1, h2⟩ := fz_ok (τ := sF.σ) hst.sr
          refine way h1 h2 ?_ hrun' rfl fun _ => hok
          have q1 := h1.len
          have q2 := hst.sr.len
          have : ∀ (ws : List (Nat × Ob)) (σ : Store), (lay σ ws).length = σ.length := fun ws => setAll_len ws
          exact this _ _
        · cases h
    · rename_i hgood
      cases h
      refine way hst.sr (Ext.refl ..) rfl hrun rfl fun hd => ?_
      rw [hd] at hgood
      simpa using hgood

/-! ### The store without what nothing names -/
theorem addNew_spec : ∀ (xs l : List Nat), l.Nodup → (addNew l xs).Nodup ∧ ∃ r, addNew l xs = l ++ r
  | [], l, h => ⟨h, [], by simp [addNew]⟩
  | x :: xs, l, h => by
    unfold addNew
    split
    · exact addNew_spec xs l h
    · rename_i hx
      obtain ⟨h1, r, h2⟩ := addNew_spec xs (l ++ [x]) (by
        rw [List.nodup_append]
        refine ⟨h, by simp, fun a ha b hb e => ?_⟩
        simp at hb
        subst hb; subst e
        exact hx (by simpa using ha))
      exact ⟨h1, x :: r, by rw [h2]; simp⟩

theorem reach_spec (σ : Store) : ∀ (k i : Nat) (l : List Nat), l.Nodup → (reach σ k i l).Nodup ∧ ∃ r, reach σ k i l = l ++ r
  | 0, _, l, h => ⟨h, [], by simp [reach]⟩
  | k + 1, i, l, h => by
    unfold reach
    split
    · exact ⟨h, [], by simp⟩
    · rename_i id hid
      obtain ⟨h1, r1, e1⟩ := addNew_spec (idsOb σ[id]?) l h
      obtain ⟨h2, r2, e2⟩ := reach_spec σ k (i + 1) _ h1
      exact ⟨h2, r1 ++ r2, by rw [e2, e1, List.append_assoc]⟩

theorem tidy_spec (m : Nat) (σ : Store) (vs : List V) : (tidy m σ vs).Nodup ∧ ∀ i, i < m → (tidy m σ vs)[i]? = some i := by
  unfold tidy
  obtain ⟨h1, r1, e1⟩ := addNew_spec (vs.flatMap idsV) (List.range m) List.nodup_range
  obtain ⟨h2, r2, e2⟩ := reach_spec σ (σ.length + 1) 0 _ h1
  refine ⟨h2, fun i hi => ?_⟩
  rw [e2, e1, List.append_assoc, List.getElem?_append_left (by simpa using hi)]
  simp [hi]

theorem atOf_get {l : List Nat} {k j : Nat} (h : atOf l k = some j) : l[j]? = some k := by
  unfold atOf at h
  obtain ⟨hj, he, _⟩ := List.idxOf?_eq_some_iff.1 h
  rw [List.getElem?_eq_getElem hj]
  exact congrArg some (by first | exact he | exact eq_of_beq he)

/-- The same memory under fewer names. -/
theorem SR.tidied {D : Dir} {Γ : Nat → Prop} {σ : Store} {H : Array Obj} (hs : SR D Γ σ H) {l : List Nat} (hn : l.Nodup) : SR (img D l) Γ (tidyStore l σ) H ∧ (∀ (k : Nat) (s : Slot), D[k]? = some s → s ≠ .vir → ∀ j, atOf l k = some j → (img D l)[j]? = some s) ∧ ∀ b, ownB (img D l) b → ownB D b := by
  have hρ : ∀ (k : Nat) (s : Slot), D[k]? = some s → s ≠ .vir → ∀ j, atOf l k = some j → (img D l)[j]? = some s := fun k s h1 _ j h2 => img_get (atOf_get h2) h1
  refine ⟨⟨by simp [img, tidyStore], fun i => ?_, fun i j b base sz tot base' sz' tot' h1 h2 t1 t2 => ?_, hs.there⟩, hρ, fun b ⟨i, base, sz, tot, hi, ht⟩ => ?_⟩
  · simp only [tidyStore, List.getElem?_map]
    cases hi : l[i]? with
    | none => exact .inl ⟨rfl, by simp [img, hi]⟩
    | some id =>
      simp only [Option.map_some, List.getD_eq_getElem?_getD]
      rcases hs.ob id with ⟨h1, h2⟩ | ⟨h1, h2⟩ | ⟨h1, h2⟩ | ⟨own, pure, sz, xs, blk, base, tot, h1, h2, h3⟩
      · exact .inr (.inl ⟨by rw [h1]; rfl, by simp [img, hi, h2]⟩)
      · exact .inr (.inl ⟨by rw [h1]; rfl, img_get hi h2⟩)
      · exact .inr (.inr (.inl ⟨by rw [h1]; rfl, img_get hi h2⟩))
      · obtain ⟨xs', q1, q2⟩ := h3.ren hρ
        exact .inr (.inr (.inr ⟨own, pure, sz, xs', blk, base, tot, by rw [h1, Option.getD_some, q1], img_get hi h2, q2⟩))
  · obtain ⟨id1, q1, q2⟩ := img_inv h1 (by simp)
    obtain ⟨id2, q3, q4⟩ := img_inv h2 (by simp)
    have := hs.apart _ _ _ _ _ _ _ _ _ q2 q4 t1 t2
    subst this
    exact nodup_get hn q1 q3
  · obtain ⟨id, q1, q2⟩ := img_inv hi (by simp)
    exact ⟨id, base, sz, tot, q2, ht⟩
end
end Go.VM
