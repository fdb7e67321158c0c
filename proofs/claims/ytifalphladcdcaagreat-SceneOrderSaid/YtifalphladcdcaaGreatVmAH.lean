/- The machine over plain values: a region whose order is drawn. No condition beyond those stated. -/
import Derived.Test.YtifalphladcdcaaGreatVmAG
set_option linter.unusedVariables false
set_option linter.unusedSimpArgs false
namespace Go.VM
section
variable {P : Program} {X : Cx} {C : Oracle} {ops : Array Oper}

theorem runSeq_append {a b : List (Nat × Nat × Oper)} {s sF : S} {fs : List Foot} (h : runSeq P X C ops.toList (a ++ b) s = some (sF, fs)) :
    ∃ s1 fa fb, runSeq P X C ops.toList a s = some (s1, fa) ∧ runSeq P X C ops.toList b s1 = some (sF, fb) ∧ fs = fa ++ fb := by
  induction a generalizing s fs with
  | nil => exact ⟨s, [], fs, rfl, h, rfl⟩
  | cons p a ih =>
    obtain ⟨i, n, o⟩ := p
    simp only [List.cons_append, runSeq] at h ⊢
    split at h
    · cases h
    · rename_i s1 f h1
      split at h
      · cases h
      · rename_i s2 fs2 h2
        simp only [Option.some.injEq, Prod.mk.injEq] at h
        obtain ⟨rfl, rfl⟩ := h
        obtain ⟨s3, fa, fb, k1, k2, rfl⟩ := ih h2
        exact ⟨s3, f :: fa, fb, by rw [k1], k2, rfl⟩

theorem runSeq_join {a b : List (Nat × Nat × Oper)} {s s1 sF : S} {fa fb : List Foot} (h1 : runSeq P X C ops.toList a s = some (s1, fa)) (h2 : runSeq P X C ops.toList b s1 = some (sF, fb)) : runSeq P X C ops.toList (a ++ b) s = some (sF, fa ++ fb) := by
  induction a generalizing s fa with
  | nil => simp only [runSeq, Option.some.injEq, Prod.mk.injEq] at h1; obtain ⟨rfl, rfl⟩ := h1; exact h2
  | cons p a ih =>
    obtain ⟨i, n, o⟩ := p
    simp only [List.cons_append, runSeq] at h1 ⊢
    split at h1
    · cases h1
    · rename_i s2 f k1
      split at h1
      · cases h1
      · rename_i s3 fs3 k2
        simp only [Option.some.injEq, Prod.mk.injEq] at h1
        obtain ⟨rfl, rfl⟩ := h1
        rw [ih k2]; rfl

theorem runSeq_ats {a : List (Nat × Nat × Oper)} {s sF : S} {fs : List Foot} (h : runSeq P X C ops.toList a s = some (sF, fs)) : fs.map (·.at_) = a.map (·.1) := by
  induction a generalizing s fs with
  | nil => simp only [runSeq, Option.some.injEq, Prod.mk.injEq] at h; obtain ⟨_, rfl⟩ := h; rfl
  | cons p a ih =>
    obtain ⟨i, n, o⟩ := p
    simp only [runSeq] at h
    split at h
    · cases h
    · rename_i s1 f h1
      split at h
      · cases h
      · rename_i s2 fs2 h2
        simp only [Option.some.injEq, Prod.mk.injEq] at h
        obtain ⟨rfl, rfl⟩ := h
        obtain ⟨_, _, _, _, h3, _⟩ := runOp_local h1
        simp [ih h2, h3]

/-- An operation that may come ahead of all that stand before it. -/
theorem front_ok {i n : Nat} {x : Oper} {fx : Foot} {s2 : S} : ∀ {pre : List (Nat × Nat × Oper)} {s s1 : S} {fpre : List Foot}, runSeq P X C ops.toList pre s = some (s1, fpre) → runOp P X C ops.toList i n x s1 = some (s2, fx) →
    (∀ (k : Nat) (p : Nat × Nat × Oper) (f : Foot), pre[k]? = some p → fpre[k]? = some f → free f fx = true ∧ p.2.2.apart ops x = true) →
    ∃ s1', runOp P X C ops.toList i n x s = some (s1', fx) ∧ runSeq P X C ops.toList pre s1' = some (s2, fpre)
  | [], s, s1, fpre, h1, h2, _ => by
    simp only [runSeq, Option.some.injEq, Prod.mk.injEq] at h1
    obtain ⟨rfl, rfl⟩ := h1
    exact ⟨s2, h2, rfl⟩
  | (j, m, y) :: pre, s, s1, fpre, h1, h2, hc => by
    simp only [runSeq] at h1
    split at h1
    · cases h1
    · rename_i sa fp k1
      split at h1
      · cases h1
      · rename_i sb fps k2
        simp only [Option.some.injEq, Prod.mk.injEq] at h1
        obtain ⟨rfl, rfl⟩ := h1
        obtain ⟨sc, q1, q2⟩ := front_ok k2 h2 fun k p f e1 e2 => hc (k + 1) p f (by simpa using e1) (by simpa using e2)
        obtain ⟨c1, c2⟩ := hc 0 (j, m, y) fp rfl rfl
        obtain ⟨sd, r1, r2⟩ := swap_ok k1 q1 c1 c2
        exact ⟨sd, r1, by simp only [runSeq, r2, q2]⟩

theorem allPairs_pairwise {α : Type} {p : α → α → Bool} : ∀ {l : List α}, allPairs p l = true → l.Pairwise (fun a b => p a b = true)
  | [], _ => .nil
  | x :: l, h => by
    simp only [allPairs, Bool.and_eq_true, List.all_eq_true] at h
    exact .cons h.1 (allPairs_pairwise h.2)

/-! ### What surely comes ahead -/
theorem befores_acc : ∀ (l : List Oper) (acc : List (List Nat)), ∃ r, befores l acc = acc ++ r ∧ r.length = l.length
  | [], acc => ⟨[], by simp [befores], rfl⟩
  | o :: l, acc => by
    obtain ⟨r, h1, h2⟩ := befores_acc l (acc ++ [o.after.toList.flatMap fun e => if Region.binds .any e then e.on :: acc.getD e.on [] else []])
    exact ⟨_ :: r, by rw [befores, h1, List.append_assoc]; rfl, by simp [h2]⟩

theorem befores_get : ∀ (l : List Oper) (acc : List (List Nat)) (j : Nat) (o : Oper), l[j]? = some o → (∀ e ∈ o.after.toList, Region.binds .any e = true → e.on < acc.length + j) →
    (befores l acc)[acc.length + j]? = some (o.after.toList.flatMap fun e => if Region.binds .any e then e.on :: (befores l acc).getD e.on [] else [])
  | [], acc, j, o, h, _ => by simp at h
  | x :: l, acc, 0, o, h, he => by
    simp at h; subst h
    have hb : befores (x :: l) acc = befores l (acc ++ [x.after.toList.flatMap fun e => if Region.binds .any e then e.on :: acc.getD e.on [] else []]) := rfl
    obtain ⟨r, h1, _⟩ := befores_acc l (acc ++ [x.after.toList.flatMap fun e => if Region.binds .any e then e.on :: acc.getD e.on [] else []])
    rw [hb, h1, List.append_assoc, List.getElem?_append_right (by omega)]
    simp only [Nat.add_zero, Nat.sub_self, List.cons_append, List.nil_append, List.getElem?_cons_zero, Option.some.injEq]
    rw [List.flatMap_def, List.flatMap_def]
    refine congrArg List.flatten (List.map_congr_left fun e hm => ?_)
    split
    · rename_i hbd
      have := he e hm hbd
      rw [List.getD_eq_getElem?_getD, List.getD_eq_getElem?_getD, List.getElem?_append_left (by omega)]
    · rfl
  | x :: l, acc, j + 1, o, h, he => by
    have hb : befores (x :: l) acc = befores l (acc ++ [x.after.toList.flatMap fun e => if Region.binds .any e then e.on :: acc.getD e.on [] else []]) := rfl
    have := befores_get l (acc ++ [x.after.toList.flatMap fun e => if Region.binds .any e then e.on :: acc.getD e.on [] else []]) j o (by simpa using h) (fun e hm hbd => by have := he e hm hbd; simp; omega)
    rw [hb]
    simp only [List.length_append, List.length_cons, List.length_nil] at this
    rw [show acc.length + (j + 1) = acc.length + (0 + 1) + j by omega]
    exact this

theorem bf_mem {l : List Oper} (he : ∀ (j : Nat) (o : Oper), l[j]? = some o → ∀ e ∈ o.after.toList, Region.binds .any e = true → e.on < j) {j m : Nat} {o : Oper} (hj : l[j]? = some o) (hm : m ∈ (befores l []).getD j []) :
    ∃ e ∈ o.after.toList, Region.binds .any e = true ∧ (m = e.on ∨ m ∈ (befores l []).getD e.on []) := by
  have := befores_get l [] j o hj (fun e hm hb => by have := he j o hj e hm hb; simpa using this)
  simp only [List.length_nil, Nat.zero_add] at this
  rw [List.getD_eq_getElem?_getD, this, Option.getD_some] at hm
  obtain ⟨e, h1, h2⟩ := List.mem_flatMap.1 hm
  split at h2
  · rename_i hb
    rcases List.mem_cons.1 h2 with h2 | h2
    · exact ⟨e, h1, hb, .inl h2⟩
    · exact ⟨e, h1, hb, .inr h2⟩
  · simp at h2

theorem bf_lt {l : List Oper} (he : ∀ (j : Nat) (o : Oper), l[j]? = some o → ∀ e ∈ o.after.toList, Region.binds .any e = true → e.on < j) : ∀ (j m : Nat), m ∈ (befores l []).getD j [] → m < j := by
  intro j
  induction j using Nat.strongRecOn with
  | _ j ih =>
    intro m hm
    by_cases hj : j < l.length
    · obtain ⟨e, h1, hb, h2⟩ := bf_mem he (List.getElem?_eq_getElem hj) hm
      have := he j _ (List.getElem?_eq_getElem hj) e h1 hb
      rcases h2 with rfl | h2
      · exact this
      · have := ih e.on this m h2; omega
    · obtain ⟨r, h1, h2⟩ := befores_acc l []
      rw [List.getD_eq_getElem?_getD, h1, List.getElem?_eq_none (by simp [h2]; omega)] at hm
      simp at hm

/-- Whatever order is drawn: the region comes to the same. -/
theorem any_ok (hX : X.OK P) (hC : OS P C) {sF : S} {Q : Exit → Act → World → Prop} {d0 : List Deferred}
    (he : ∀ (j : Nat) (o : Oper), ops[j]? = some o → ∀ e ∈ o.after.toList, Region.binds .any e = true → e.on < j)
    {D0 : Dir} {Γ0 : Nat → Prop} {W0 : World}
    (hQ : ∀ a' w' D' Γ', St D' Γ' sF a' w' → Ext D0 Γ0 W0.heap D' Γ' w'.heap → Kept W0 w' → a'.defers = d0 → Q .normal a' w') :
    ∀ (fuel : Nat) (rem : List (Nat × Nat × Oper)) (listed : Array Bool) (s : S) (fs : List Foot) (D : Dir) (Γ : Nat → Prop) (a : Act) (w : World),
      rem.length ≤ fuel → listed.size = ops.size → (∀ p ∈ rem, ops[p.1]? = some p.2.2 ∧ listed.getD p.1 true = false) → (∀ i, listed.getD i true = false → ∃ p ∈ rem, p.1 = i) → rem.Pairwise (fun p q => p.1 < q.1) →
      runSeq P X C ops.toList rem s = some (sF, fs) → fs.Pairwise (fun f g => (!loose ops.toList (befores ops.toList []) f.at_ g.at_ || (free f g && ((ops[f.at_]?).any fun x => (ops[g.at_]?).any fun y => x.apart ops y))) = true) →
      (∀ i, listed.getD i false = true → ∀ m ∈ (befores ops.toList []).getD i [], listed.getD m false = true) →
      St D Γ s a w → Ext D0 Γ0 W0.heap D Γ w.heap → Kept W0 w → a.defers = d0 → wpAny P .any ops Q fuel listed a w := by
  have hnil : ∀ {rem : List (Nat × Nat × Oper)} {listed : Array Bool} {s : S} {fs : List Foot} {D : Dir} {Γ : Nat → Prop} {a : Act} {w : World}, rem = [] → runSeq P X C ops.toList rem s = some (sF, fs) → St D Γ s a w → Ext D0 Γ0 W0.heap D Γ w.heap → Kept W0 w → a.defers = d0 → Q .normal a w := by
    intro rem listed s fs D Γ a w e hr hst hext hk hd
    subst e
    simp only [runSeq, Option.some.injEq, Prod.mk.injEq] at hr
    obtain ⟨rfl, _⟩ := hr
    exact hQ a w D Γ hst hext hk hd
  intro fuel
  induction fuel with
  | zero =>
    intro rem listed s fs D Γ a w hl hsz hr1 hr2 hsort hrun hpw hcl hst hext hkp hd
    have e : rem = [] := List.eq_nil_of_length_eq_zero (by omega)
    refine ⟨?_, hnil (listed := listed) e hrun hst hext hkp hd⟩
    refine List.eq_nil_iff_forall_not_mem.2 fun i hi => ?_
    obtain ⟨h1, _⟩ := mem_ready.1 hi
    obtain ⟨p, hp, _⟩ := hr2 i h1
    rw [e] at hp; simp at hp
  | succ fuel ih =>
    intro rem listed s fs D Γ a w hl hsz hr1 hr2 hsort hrun hpw hcl hst hext hkp hd
    have hlist : ∀ i, i < ops.size → listed.getD i true = listed.getD i false := by
      intro i hi
      simp [Array.getD_eq_getD_getElem?, Array.getElem?_eq_getElem (show i < listed.size by omega)]
    refine ⟨fun hemp => ?_, fun i hi => ?_⟩
    · cases rem with
      | nil => exact hnil (listed := listed) rfl hrun hst hext hkp hd
      | cons p rem =>
        exfalso
        obtain ⟨h1, h2⟩ := hr1 p (by simp)
        have : p.1 ∈ Region.ready .any ops listed := by
          refine mem_ready.2 ⟨h2, p.2.2, h1, fun e hm hb => ?_⟩
          have hlt := he p.1 p.2.2 h1 e (Array.mem_toList_iff.2 hm) hb
          have hps : p.1 < ops.size := (Array.getElem?_eq_some_iff.1 h1).1
          rw [← hlist e.on (by omega)]
          refine Classical.byContradiction fun hn => ?_
          obtain ⟨q, hq, hqe⟩ := hr2 e.on (by simpa using hn)
          rcases List.mem_cons.1 hq with rfl | hq
          · omega
          · have := (List.pairwise_cons.1 hsort).1 q hq
            omega
        rw [hemp] at this; simp at this
    · obtain ⟨h1, o, ho, hedge⟩ := mem_ready.1 hi
      obtain ⟨p, hp, hpe⟩ := hr2 i h1
      obtain ⟨pre, post, hsplit⟩ := List.append_of_mem hp
      obtain ⟨j, nid, o'⟩ := p
      simp only at hpe
      subst hpe
      have ho' := (hr1 _ hp).1
      simp only at ho'
      rw [ho] at ho'; cases ho'
      have hjs : j < ops.size := (Array.getElem?_eq_some_iff.1 ho).1
      subst hsplit
      obtain ⟨s1, fpre, frest, k1, k2, rfl⟩ := runSeq_append hrun
      simp only [runSeq] at k2
      split at k2
      · cases k2
      · rename_i s2 fx kx
        split at k2
        · cases k2
        · rename_i s3 fpost kp
          simp only [Option.some.injEq, Prod.mk.injEq] at k2
          obtain ⟨rfl, rfl⟩ := k2
          have hbfl : ∀ m ∈ (befores ops.toList []).getD j [], listed.getD m false = true := by
            intro m hm
            obtain ⟨e, q1, q2, q3⟩ := bf_mem (fun j o h => he j o (by rw [← Array.getElem?_toList]; exact h)) (by rw [Array.getElem?_toList]; exact ho) hm
            have hlst := hedge e (Array.mem_toList_iff.1 q1) q2
            rcases q3 with rfl | q3
            · exact hlst
            · exact hcl e.on hlst m q3
          have hats := runSeq_ats k1
          have hxat : fx.at_ = j := by obtain ⟨_, _, _, _, h, _⟩ := runOp_local kx; exact h
          have hcond : ∀ (k : Nat) (p : Nat × Nat × Oper) (f : Foot), pre[k]? = some p → fpre[k]? = some f → free f fx = true ∧ p.2.2.apart ops o = true := by
            intro k p f e1 e2
            have hfat : f.at_ = p.1 := by
              have := congrArg (fun l => l[k]?) hats
              simp only [List.getElem?_map, e1, e2, Option.map_some, Option.some.injEq] at this
              exact this
            have hpm : p ∈ pre := List.mem_of_getElem? e1
            have hR := (List.pairwise_append.1 hpw).2.2 f (List.mem_of_getElem? e2) fx (by simp)
            obtain ⟨hp1, hp2⟩ := hr1 p (by simp [hpm])
            have hlt : p.1 < j := (List.pairwise_append.1 hsort).2.2 p hpm (j, nid, o) (by simp)
            have hps : p.1 < ops.size := by omega
            have hloose : loose ops.toList (befores ops.toList []) f.at_ fx.at_ = true := by
              rw [hfat, hxat]
              simp only [loose, Bool.and_eq_true, Bool.not_eq_true', List.contains_eq_mem, decide_eq_false_iff_not]
              refine ⟨fun hm => ?_, fun hm => ?_⟩
              · have := hbfl p.1 hm
                rw [← hlist p.1 hps, hp2] at this; cases this
              · have := bf_lt (fun j o h => he j o (by rw [← Array.getElem?_toList]; exact h)) _ _ hm
                omega
            rw [hloose] at hR
            simp only [Bool.not_true, Bool.false_or, Bool.and_eq_true] at hR
            refine ⟨hR.1, ?_⟩
            have := hR.2
            rw [hfat, hxat, hp1, ho] at this
            simpa using this
          obtain ⟨s1', r1, r2⟩ := front_ok k1 kx hcond
          refine runOp_ok hX hC ho r1 hst fun a' w' D' Γ' hst' he' hk' hd' => ?_
          have hgd : ∀ m b, (listed.setIfInBounds j true).getD m b = if m = j then true else listed.getD m b := by
            intro m b
            simp only [Array.getD_eq_getD_getElem?, Array.getElem?_setIfInBounds]
            by_cases e : m = j
            · subst e; simp [show m < listed.size by omega]
            · rw [if_neg (fun h => e h.symm), if_neg e]
          have hnej : ∀ p ∈ pre ++ post, p.1 ≠ j := by
            intro p hp
            rcases List.mem_append.1 hp with hp | hp
            · have : p.1 < j := (List.pairwise_append.1 hsort).2.2 p hp (j, nid, o) (by simp)
              omega
            · have : j < p.1 := (List.pairwise_cons.1 (List.pairwise_append.1 hsort).2.1).1 p hp
              omega
          refine ih (pre ++ post) (listed.setIfInBounds j true) s1' (fpre ++ fpost) D' Γ' a' w' (by simp at hl ⊢; omega) (by simpa using hsz) (fun p hp => ?_) (fun m hm => ?_) ?_ (runSeq_join r2 kp) ?_ (fun m hm q hq => ?_) hst' (hext.trans he') (hkp.trans hk') (hd'.trans hd)
          · have hp' : p ∈ pre ++ (j, nid, o) :: post := by
              rcases List.mem_append.1 hp with hp | hp
              · simp [hp]
              · simp [hp]
            exact ⟨(hr1 p hp').1, by rw [hgd, if_neg (hnej p hp)]; exact (hr1 p hp').2⟩
          · rw [hgd] at hm
            split at hm
            · cases hm
            · rename_i hne
              obtain ⟨p, hp, hpe⟩ := hr2 m hm
              refine ⟨p, ?_, hpe⟩
              rcases List.mem_append.1 hp with hp | hp
              · simp [hp]
              · rcases List.mem_cons.1 hp with rfl | hp
                · exact absurd hpe.symm hne
                · simp [hp]
          · exact hsort.sublist (List.Sublist.append (List.Sublist.refl pre) (List.sublist_cons_self (j, nid, o) post))
          · exact hpw.sublist (List.Sublist.append (List.Sublist.refl fpre) (List.sublist_cons_self fx fpost))
          · rw [hgd] at hm ⊢
            split
            · rfl
            · split at hm
              · rename_i e; subst e; exact hbfl q hq
              · exact hcl m hm q hq
end
end Go.VM
