/- The machine over plain values: what goes into a row is freed of names; stores. No condition beyond those stated. -/
import Derived.Test.YtifalphladcdcaaGreatVmS
set_option linter.unusedVariables false
set_option linter.unusedSimpArgs false
namespace Go.VM

def Frz (σ : Store) (ws : List (Nat × Ob)) : Prop := ∀ p ∈ ws, ∃ own sz xs, σ[p.1]? = some (.cells own true sz xs) ∧ p.2 = .cells false true sz xs

theorem Frz.nil (σ : Store) : Frz σ [] := fun p h => by cases h

theorem Frz.append {σ : Store} {a b : List (Nat × Ob)} (ha : Frz σ a) (hb : Frz σ b) : Frz σ (a ++ b) := fun p h => by
  rcases List.mem_append.1 h with h | h
  · exact ha p h
  · exact hb p h

theorem Frz.tail {σ : Store} {p : Nat × Ob} {ws : List (Nat × Ob)} (h : Frz σ (p :: ws)) : Frz (σ.set p.1 p.2) ws := by
  intro q hq
  obtain ⟨own, sz, xs, h1, h2⟩ := h p (by simp)
  obtain ⟨own', sz', xs', h3, h4⟩ := h q (by simp [hq])
  by_cases e : p.1 = q.1
  · rw [← e, h1] at h3
    cases h3
    exact ⟨false, sz, xs, by rw [← e, get_set h1, h2], h4⟩
  · exact ⟨own', sz', xs', by rw [List.getElem?_set_ne e]; exact h3, h4⟩

theorem lay_cons (σ : Store) (p : Nat × Ob) (ws : List (Nat × Ob)) : lay σ (p :: ws) = lay (σ.set p.1 p.2) ws := rfl
theorem lay_append (σ : Store) (a b : List (Nat × Ob)) : lay σ (a ++ b) = lay (lay σ a) b := by simp [lay, List.foldl_append]

theorem lay_other : ∀ {σ : Store} {ws : List (Nat × Ob)} {id : Nat}, (∀ p ∈ ws, p.1 ≠ id) → (lay σ ws)[id]? = σ[id]?
  | _, [], _, _ => rfl
  | σ, p :: ws, id, h => by
    rw [lay_cons, lay_other (fun q hq => h q (by simp [hq])), List.getElem?_set_ne (h p (by simp))]

theorem lay_frz : ∀ {σ : Store} {ws : List (Nat × Ob)}, Frz σ ws → (∀ p ∈ ws, (lay σ ws)[p.1]? = some p.2) ∧ (∀ (id sz : Nat) (xs : List (List V)), σ[id]? = some (.cells false true sz xs) → (lay σ ws)[id]? = some (.cells false true sz xs))
  | _, [], _ => ⟨fun p h => by simp at h, fun _ _ _ h => h⟩
  | σ, p :: ws, h => by
    obtain ⟨h1, h2⟩ := lay_frz h.tail
    obtain ⟨own, sz, xs, g1, g2⟩ := h p (by simp)
    have hp : (lay (σ.set p.1 p.2) ws)[p.1]? = some p.2 := by
      have := h2 p.1 sz xs (by rw [← g2]; exact get_set g1)
      rw [this, g2]
    refine ⟨fun q hq => ?_, fun id sz' xs' hi => ?_⟩
    · rw [lay_cons]
      rcases List.mem_cons.1 hq with rfl | hq
      · exact hp
      · exact h1 q hq
    · rw [lay_cons]
      by_cases e : p.1 = id
      · subst e
        rw [g1] at hi; cases hi
        rw [hp, g2]
      · exact h2 _ _ _ (by rw [List.getElem?_set_ne e]; exact hi)

theorem SR.frz {H : Array Obj} : ∀ {ws : List (Nat × Ob)} {σ : Store} {D : Dir} {Γ : Nat → Prop}, SR D Γ σ H → Frz σ ws → ∃ D' Γ', SR D' Γ' (lay σ ws) H ∧ Ext D Γ H D' Γ' H
  | [], σ, D, Γ, h, _ => ⟨D, Γ, h, Ext.refl ..⟩
  | p :: ws, σ, D, Γ, h, hf => by
    obtain ⟨own, sz, xs, g1, g2⟩ := hf p (by simp)
    obtain ⟨D1, Γ1, h1, e1⟩ := h.freeze g1
    rw [← g2] at h1
    obtain ⟨D2, Γ2, h2, e2⟩ := SR.frz h1 hf.tail
    exact ⟨D2, Γ2, h2, e1.trans e2⟩

/-- A cell freed of names, in any store in which what was named is written no more. -/
def PurOK (σ : Store) (ws : List (Nat × Ob)) (c c' : V) : Prop :=
  ∀ σ' : Store, (∀ p ∈ ws, σ'[p.1]? = some p.2) → (∀ (id sz : Nat) (xs : List (List V)), σ[id]? = some (.cells false true sz xs) → σ'[id]? = some (.cells false true sz xs)) →
    ∀ (D : Dir) (Γ : Nat → Prop) (H : Array Obj) (v : Value), SR D Γ σ' H → LR D Γ H c v → PR Γ H c' v

theorem purLeaf_inv {σ : Store} {c : V} {k : V → List (Nat × Ob) → M} {r : V × List (Nat × Ob)} (h : (purLeaf c k).run σ = some r) : ∃ c' ws, (k c' ws).run σ = some r ∧ Frz σ ws ∧ PurOK σ ws c c' := by
  cases c with
  | hs id off len =>
    simp only [purLeaf] at h
    obtain ⟨o, ho, h⟩ := run_get h
    split at h
    · rename_i own sz xs
      split at h
      · rename_i hle
        refine ⟨_, _, h, ?_, ?_⟩
        · split
          · intro p hp
            simp only [List.mem_singleton] at hp
            subst hp
            exact ⟨own, sz, xs, ho, rfl⟩
          · exact Frz.nil σ
        · intro σ' h1 h2 D Γ H v hs hl
          have hz : σ'[id]? = some (.cells false true sz xs) := by
            cases own with
            | true => exact h1 (id, .cells false true sz xs) (by simp)
            | false => exact h2 _ _ _ ho
          obtain ⟨blk, base, tot, hd, hor⟩ := hs.live hz
          obtain ⟨a, cap, rfl, hc, ht⟩ := hl.hs_inv hd
          by_cases h0 : 0 < tot
          · have hG : Γ blk := by
              obtain ⟨_, hor⟩ := hor
              rcases hor with ⟨h9, _⟩ | ⟨_, cells, T, fz, _, _, _, _, _, _, g8⟩
              · omega
              · exact g8 rfl
            exact hor.list hle hc ht hG fun _ hb => hb
          · have : xs = [] := by
              obtain ⟨_, hor⟩ := hor
              rcases hor with ⟨_, h9⟩ | ⟨h9, _⟩
              · exact h9
              · omega
            subst this
            have hl0 : len = 0 := by simp at hle; omega
            subst hl0
            rw [List.take_zero]
            exact .list0 _ _ _ fun e => Classical.byContradiction fun hc0 => by have := (ht hc0).1; rw [e] at this; cases this
      · exact (run_fail h).elim
    · exact (run_fail h).elim
  | ptr | agg | tup => exact (run_fail h).elim
  | fn f cs =>
    cases cs with
    | nil =>
      refine ⟨_, _, h, Frz.nil σ, fun σ' _ _ D Γ H v hs hl => ?_⟩
      cases hl with
      | pr h => exact h
      | fn arr hl0 _ =>
        have : arr = #[] := Array.eq_empty_of_size_eq_zero hl0
        subst this
        exact .fn f
    | cons c cs => exact (run_fail h).elim
  | _ =>
    refine ⟨_, _, h, Frz.nil σ, fun σ' _ _ D Γ H v hs hl => ?_⟩
    cases hl with | pr h => exact h

theorem PurOK.mono {σ : Store} {ws ws' : List (Nat × Ob)} {c c' : V} (h : PurOK σ ws c c') (hs : ∀ p ∈ ws, p ∈ ws') : PurOK σ ws' c c' :=
  fun σ' h1 h2 => h σ' (fun p hp => h1 p (hs p hp)) h2

theorem pur_inv {σ : Store} {r : V × List (Nat × Ob)} : ∀ {cs : List V} {k : List V → List (Nat × Ob) → M}, (pur cs k).run σ = some r →
    ∃ cs' ws, (k cs' ws).run σ = some r ∧ Frz σ ws ∧ cs'.length = cs.length ∧ ∀ (i : Nat) (c c' : V), cs[i]? = some c → cs'[i]? = some c' → PurOK σ ws c c'
  | [], k, h => ⟨[], [], h, Frz.nil σ, rfl, fun i c c' h1 => by simp at h1⟩
  | c :: cs, k, h => by
    simp only [pur] at h
    obtain ⟨c1, ws1, h, f1, p1⟩ := purLeaf_inv h
    obtain ⟨cs2, ws2, h, f2, l2, p2⟩ := pur_inv h
    refine ⟨_, _, h, f1.append f2, by simp [l2], fun i d d' h1 h2 => ?_⟩
    cases i with
    | zero => simp at h1 h2; subst h1; subst h2; exact p1.mono fun p hp => by simp [hp]
    | succ i => simp at h1 h2; exact (p2 i d d' h1 h2).mono fun p hp => by simp [hp]

/-- .. with what is nil told as a list. -/
theorem purW_inv {σ : Store} {r : V × List (Nat × Ob)} {cs : List V} (w : List V) (k : List V → List (Nat × Ob) → M) (h : (pur cs fun c ws => k (wid w c) ws).run σ = some r) :
    ∃ cs' ws, (k cs' ws).run σ = some r ∧ Frz σ ws ∧ cs'.length = cs.length ∧ ∀ (i : Nat) (c c' : V), cs[i]? = some c → cs'[i]? = some c' → PurOK σ ws c c' := by
  obtain ⟨cs', ws, h1, h2, h3, h4⟩ := pur_inv h
  refine ⟨_, ws, h1, h2, by rw [wid_len, h3], fun i c c' e1 e2 => ?_⟩
  obtain ⟨u, d, e3, rfl⟩ := wid_get e2
  exact fun σ' k1 k2 D Γ H v hs hl => (h4 i c d e1 e3 σ' k1 k2 D Γ H v hs hl).wid1 u

theorem flatten_inv {sz : Nat} : ∀ {xs : List (List V)}, (∀ x ∈ xs, x.length = sz) → ∀ {k : Nat} {c : V}, xs.flatten[k]? = some c → ∃ j r x, k = j * sz + r ∧ r < sz ∧ xs[j]? = some x ∧ x[r]? = some c
  | [], _, k, c, h => by simp at h
  | x :: xs, hx, k, c, h => by
    have h1 := hx x (by simp)
    rw [List.flatten_cons] at h
    by_cases hk : k < x.length
    · rw [List.getElem?_append_left hk] at h
      exact ⟨0, k, x, by omega, by omega, rfl, h⟩
    · rw [List.getElem?_append_right (by omega)] at h
      obtain ⟨j, r, y, e, hr, hy, hc⟩ := flatten_inv (xs := xs) (fun z hz => hx z (by simp [hz])) h
      exact ⟨j + 1, r, y, by rw [Nat.add_mul]; omega, hr, hy, hc⟩

theorem row_lt {sz i j r : Nat} (hr : r < sz) (hij : j < i) : j * sz + r < i * sz := by
  have : (j + 1) * sz ≤ i * sz := Nat.mul_le_mul_right _ hij
  rw [Nat.add_mul] at this; omega

theorem splice_get {cs vs : List V} {off : Nat} (h : off + vs.length ≤ cs.length) (r : Nat) : (splice cs off vs)[r]? = if r < off then cs[r]? else if r < off + vs.length then vs[r - off]? else cs[r]? := by
  unfold splice
  by_cases h1 : r < off
  · rw [if_pos h1, List.append_assoc, List.getElem?_append_left (by simp; omega), List.getElem?_take_of_lt h1]
  · rw [if_neg h1]
    by_cases h2 : r < off + vs.length
    · rw [if_pos h2, List.getElem?_append_left (by simp; omega), List.getElem?_append_right (by simp; omega)]
      congr 1; simp; omega
    · rw [if_neg h2, List.getElem?_append_right (by simp; omega), List.getElem?_drop]
      congr 1; simp; omega

theorem splice_len {cs vs : List V} {off : Nat} (h : off + vs.length ≤ cs.length) : (splice cs off vs).length = cs.length := by
  unfold splice; simp; omega

section
variable {P : Program} {D : Dir} {Γ : Nat → Prop} {σ : Store} {w : World}

/-- One's own row, of which some cells of one element are written. -/
theorem SR.splice (hs : SR D Γ σ w.heap) {id : Nat} {pure : Bool} {sz : Nat} {xs : List (List V)} (hi : σ[id]? = some (.cells true pure sz xs)) {i : Nat} {x : List V} (hx : xs[i]? = some x)
    {vc : List V} {off : Nat} (hle : off + vc.length ≤ x.length) {vs : List Value} (hl : vs.length = vc.length)
    (hc : ∀ (k : Nat) (c : V) (u : Value), vc[k]? = some c → vs[k]? = some u → if pure then PR Γ w.heap c u else LR D Γ w.heap c u)
    (h1 : ∀ u ∈ vs, u.oneCell' = true) {blk base tot : Nat} (hd : D[id]? = some (.live blk base sz tot true)) :
    ∃ w', (storeCells ⟨blk, base + i * sz + off, none⟩ vs).run P w = .ok () w' ∧ Kept w w' ∧ SR D Γ (σ.set id (.cells true pure sz (xs.set i (splice x off vc)))) w'.heap ∧ Ext D Γ w.heap D Γ w'.heap := by
  obtain ⟨blk', base', tot', hd', hor⟩ := hs.live hi
  rw [hd] at hd'; cases hd'
  obtain ⟨hxs, hor⟩ := hor
  have hilt : i < xs.length := (List.getElem?_eq_some_iff.1 hx).1
  have hxl : x.length = sz := hxs x (List.mem_of_getElem? hx)
  rcases hor with ⟨_, h9⟩ | ⟨g0, cells, T, fz, g1, g2, g3, g4, g5, g6, g7⟩
  · subst h9; simp at hilt
  · have hfz := g3 rfl
    subst hfz
    have hin : i * sz + sz ≤ xs.length * sz := by
      have : (i + 1) * sz ≤ xs.length * sz := Nat.mul_le_mul_right _ hilt
      rw [Nat.add_mul] at this; omega
    have hrun := run_storeCells_at P blk (base + i * sz + off) T vs 0 cells w g1 (by omega) h1
    simp only [Nat.add_zero] at hrun
    refine ⟨_, hrun, ⟨rfl, rfl, rfl⟩, ?_⟩
    refine SR.write hs (H' := (w.setRow blk (cells.toList.take (base + i * sz + off) ++ vs ++ cells.toList.drop (base + i * sz + off + vs.length)).toArray).heap) hi hd g1
      (cells' := (cells.toList.take (base + i * sz + off) ++ vs ++ cells.toList.drop (base + i * sz + off + vs.length)).toArray) (T := T) (fz := (0, 0)) ?_ g0 ?_ ?_ ?_ ?_ ?_ ?_
    · simp; omega
    · intro y hy
      rcases List.mem_or_eq_of_mem_set hy with hy | rfl
      · exact hxs y hy
      · rw [splice_len hle, hxl]
    · simpa using g4
    · intro k c hk
      obtain ⟨j, r, y, rfl, hr, hy, hc'⟩ := flatten_inv (sz := sz) (fun y hy => by
        rcases List.mem_or_eq_of_mem_set hy with hy | rfl
        · exact hxs y hy
        · rw [splice_len hle, hxl]) hk
      have old : ∀ y, xs[j]? = some y → y[r]? = some c → ∃ v, cells[base + (j * sz + r)]? = some v ∧ if pure then PR Γ w.heap c v else LR D Γ w.heap c v := by
        intro y hy hc'
        exact g5 _ c (by rw [flatten_row hxs hy hr]; exact hc')
      have out : (base + (j * sz + r) < base + i * sz + off ∨ base + i * sz + off + vs.length ≤ base + (j * sz + r)) →
          (cells.toList.take (base + i * sz + off) ++ vs ++ cells.toList.drop (base + i * sz + off + vs.length)).toArray[base + (j * sz + r)]? = cells[base + (j * sz + r)]? := by
        intro ho
        simp only [List.getElem?_toArray]
        have hlen : (cells.toList.take (base + i * sz + off)).length = base + i * sz + off := by simp; omega
        rcases ho with ho | ho
        · rw [List.append_assoc, List.getElem?_append_left (by omega), List.getElem?_take_of_lt ho, Array.getElem?_toList]
        · rw [List.getElem?_append_right (by simp only [List.length_append, hlen]; omega), List.getElem?_drop]
          simp only [List.length_append, hlen]
          rw [show base + i * sz + off + vs.length + (base + (j * sz + r) - (base + i * sz + off + vs.length)) = base + (j * sz + r) by omega, Array.getElem?_toList]
      rcases set_get hy with ⟨e, rfl⟩ | ⟨e, hy⟩
      · subst e
        rw [splice_get hle] at hc'
        split at hc'
        · obtain ⟨v, hv, hp⟩ := old x hx hc'
          exact ⟨v, by rw [out (by omega)]; exact hv, hp⟩
        · split at hc'
          · rename_i h2 h3
            have hlt : r - off < vs.length := by omega
            refine ⟨vs[r - off], ?_, hc _ c _ hc' (List.getElem?_eq_getElem hlt)⟩
            simp only [List.getElem?_toArray]
            have hlen : (cells.toList.take (base + i * sz + off)).length = base + i * sz + off := by simp; omega
            rw [List.getElem?_append_left (by simp only [List.length_append, hlen]; omega), List.getElem?_append_right (by omega), hlen,
              show base + (i * sz + r) - (base + i * sz + off) = r - off by omega, List.getElem?_eq_getElem hlt]
          · obtain ⟨v, hv, hp⟩ := old x hx hc'
            exact ⟨v, by rw [out (by omega)]; exact hv, hp⟩
      · obtain ⟨v, hv, hp⟩ := old y hy hc'
        refine ⟨v, ?_, hp⟩
        rw [out ?_]; exact hv
        rcases Nat.lt_or_gt_of_ne e with h2 | h2
        · have : (i + 1) * sz ≤ j * sz := Nat.mul_le_mul_right _ h2
          rw [Nat.add_mul] at this
          right; omega
        · have := row_lt hr h2
          left; omega
    · intro b hb; exact setRow_other w blk b _ hb
    · exact setRow_heap w blk cells _ T (0, 0) g1
    · simp [World.setRow]

theorem store_ok {X : Cx} (hX : X.OK P) (hs : SR D Γ σ w.heap) {T : List V} {a : Act} (hT : TR D Γ w.heap T a.tmps) {nid : Nat} {o : Oper} {t : Nat} {ad vl : Operand} (ho : o.op = .store t ad vl) {v : V} {ws : List (Nat × Ob)}
    (hr : (op1 P X T nid o).run σ = some (v, ws)) : ∃ x w', Gives P a o w x w' ∧ Post D Γ σ w.heap v ws x w'.heap := by
  simp only [op1, ho] at hr
  have hev := hT.ev ad
  have hvl := hT.ev vl
  split at hr
  · rename_i ti id i off vc hti hp hc
    rw [hp] at hev
    obtain ⟨hvs, hvr⟩ := hvl.cells hc
    obtain ⟨inf, d, z, hi, hu, hz, hzl, hsz, hby, hk⟩ := tiOf_some (hX.ty _ _ hti)
    obtain ⟨ob, hob, hr⟩ := run_get hr
    split at hr
    · rename_i pure sz xs
      split at hr
      · rename_i x hx
        split at hr
        · rename_i hle
          obtain ⟨hl1, hl2⟩ := hle
          have h1 : ∀ u ∈ (a.eval vl).cells.toList, u.oneCell' = true := by
            intro u hu'
            obtain ⟨k, hk', hku⟩ := List.getElem_of_mem hu'
            have hk'' : k < (a.eval vl).cells.size := by simpa using hk'
            have e1 : (a.eval vl).cells[k]? = some u := by
              rw [Array.getElem?_eq_getElem hk'']
              simp at hku; rw [hku]
            have hkl : k < vc.length := by omega
            exact (hvr k vc[k] u (List.getElem?_eq_getElem hkl) e1).oneCell
          have run : ∀ {w' : World} {ad' : Addr}, a.eval ad = .pointer (some ad') → (storeCells ad' (a.eval vl).cells.toList).run P w = .ok () w' → Kept w w' → Gives P a o w undef w' := by
            intro w' ad' h2 h3 hk'
            refine ⟨hk', .inr ⟨?_, rfl⟩⟩
            simp [execOp, ho, Instr.storeAt, Instr.sureAddr, h2, storeVar, Sem.run_bind, run_sizeOf hi, hvs, hl1, hsz, h3]
          split at hr
          · -- a row: freed of names first
            rename_i hpure
            subst hpure
            obtain ⟨vc', ws1, hr, f1, l1, p1⟩ := purW_inv (X.wz t) (fun vc' ws => if ws.any (·.1 == id) then M.fail else M.done .undef (ws ++ [(id, .cells true true sz (xs.set i (splice x off vc')))])) hr
            split at hr
            · exact (run_fail hr).elim
            · rename_i hany
              cases run_done hr
              obtain ⟨D1, Γ1, hs1, e1⟩ := hs.frz f1
              have hne : ∀ p ∈ ws1, p.1 ≠ id := by
                intro p hp' e
                exact hany (List.any_eq_true.2 ⟨p, hp', by simp [e]⟩)
              have hob1 : (lay σ ws1)[id]? = some (.cells true true sz xs) := by rw [lay_other hne]; exact hob
              obtain ⟨blk, base, tot, hd1, _⟩ := hs1.live hob1
              have hpt := ((e1.vr hs hev).ptr).ptr_inv hd1
              obtain ⟨k1, k2⟩ := lay_frz f1
              obtain ⟨w', hrun, hkp, hs2, e2⟩ := SR.splice (P := P) hs1 hob1 hx (vc := vc') (off := off) (vs := (a.eval vl).cells.toList) (by omega) (by simp; omega) (fun k c u h2 h3 => by
                simp only [if_true]
                have hlt : k < vc.length := by have := (List.getElem?_eq_some_iff.1 h2).1; omega
                exact p1 k _ c (List.getElem?_eq_getElem hlt) h2 _ k1 k2 D1 Γ1 w.heap u hs1 (e1.lr hs (hvr k _ u (List.getElem?_eq_getElem hlt) (by rw [← Array.getElem?_toList]; exact h3)))) h1 hd1
              refine ⟨undef, w', run hpt hrun hkp, D1, Γ1, .one (.any _), ?_, e1.trans e2⟩
              rw [lay_append]; exact hs2
          · rename_i hpure
            have hpure : pure = false := by simpa using hpure
            subst hpure
            cases run_done hr
            obtain ⟨blk, base, tot, hd1, _⟩ := hs.live hob
            have hpt := (hev.ptr).ptr_inv hd1
            obtain ⟨w', hrun, hkp, hs2, e2⟩ := SR.splice (P := P) hs hob hx (vc := vc) (off := off) (vs := (a.eval vl).cells.toList) (by omega) (by simp; omega) (fun k c u h2 h3 => by
                simp only [Bool.false_eq_true, if_false]
                exact hvr k c u h2 (by rw [← Array.getElem?_toList]; exact h3)) h1 hd1
            exact ⟨undef, w', run hpt hrun hkp, D, Γ, .one (.any _), hs2, e2⟩
        · exact (run_fail hr).elim
      · exact (run_fail hr).elim
    · exact (run_fail hr).elim
  · exact (run_fail hr).elim
end
end Go.VM
