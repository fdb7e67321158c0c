/- The machine over plain values: tests against nil, places, cuts, lengths. No condition beyond those stated. -/
import Derived.Test.YtifalphladcdcaaGreatVmUA
set_option linter.unusedVariables false
set_option linter.unusedSimpArgs false
namespace Go.VM
section
variable {P : Program} {D : Dir} {Γ : Nat → Prop} {σ : Store} {w : World}

theorem kind_slice {t e : Nat} {ti : TI} (h : tiOf P t = some ti) (hk : ti.kind = .slice e) : P.underlying t = some (.slice e) := by
  obtain ⟨i, d, z, hi, hd, _, _, _, _, hkk⟩ := tiOf_some h
  rw [hk] at hkk
  cases d <;> simp [kindOf] at hkk
  subst hkk; exact hd
theorem kind_array {t n e : Nat} {ti : TI} (h : tiOf P t = some ti) (hk : ti.kind = .array n e) : P.underlying t = some (.array n e) := by
  obtain ⟨i, d, z, hi, hd, _, _, _, _, hkk⟩ := tiOf_some h
  rw [hk] at hkk
  cases d <;> simp [kindOf] at hkk
  obtain ⟨rfl, rfl⟩ := hkk; exact hd
theorem kind_ptr {t e : Nat} {ti : TI} (h : tiOf P t = some ti) (hk : ti.kind = .ptr e) : P.underlying t = some (.pointer e) := by
  obtain ⟨i, d, z, hi, hd, _, _, _, _, hkk⟩ := tiOf_some h
  rw [hk] at hkk
  cases d <;> simp [kindOf] at hkk
  subst hkk; exact hd
theorem kind_int {t : Nat} {k : IntKind} {ti : TI} (h : tiOf P t = some ti) (hk : ti.kind = .int k) : P.underlying t = some (.int k) := by
  obtain ⟨i, d, z, hi, hd, _, _, _, _, hkk⟩ := tiOf_some h
  rw [hk] at hkk
  cases d <;> simp [kindOf] at hkk
  subst hkk; exact hd
theorem kind_struct {t : Nat} {fs : List (Nat × Nat)} {ti : TI} (h : tiOf P t = some ti) (hk : ti.kind = .struct fs) : ∃ gs : Array Field, P.underlying t = some (.struct gs) ∧ fs = gs.toList.map fun f => (f.offset, f.type) := by
  obtain ⟨i, d, z, hi, hd, _, _, _, _, hkk⟩ := tiOf_some h
  rw [hk] at hkk
  cases d <;> simp [kindOf] at hkk
  rename_i gs
  exact ⟨gs, hd, hkk.symm⟩

theorem nilAns_inv {op : BinOp} {b : Bool} {r : V × List (Nat × Ob)} (h : (nilAns op b).run σ = some r) : (op = .eql ∧ r = (.bool b, [])) ∨ (op = .neq ∧ r = (.bool !b, [])) := by
  cases op <;> simp only [nilAns] at h <;> first | exact .inl ⟨rfl, run_done h⟩ | exact .inr ⟨rfl, run_done h⟩ | exact (run_fail h).elim

theorem nil_fin {op : BinOp} {b : Bool} {r : V × List (Nat × Ob)} (h : (nilAns op b).run σ = some r) {t : Nat} {x y : Value} {ox oy : Operand} (hs : SR D Γ σ w.heap)
    (hx : ∀ z, x ≠ .nilIface ∧ x ≠ .agg z) (he : ∀ w, (Op.equal t x y).run P w = .ok b w) (hsh : (∃ a l c, x = .slice a l c ∧ y = .slice none 0 0) ∨ (∃ a, x = .pointer a ∧ y = .pointer none)) :
    ∃ u, (do eqGuard op t ox oy x y; binOp op t x y : Sem Value).run P w = .ok u w ∧ Post D Γ σ w.heap r.1 r.2 u w.heap := by
  rcases hsh with ⟨a, l, c, rfl, rfl⟩ | ⟨a, rfl, rfl⟩ <;> rcases nilAns_inv h with ⟨rfl, rfl⟩ | ⟨rfl, rfl⟩
  all_goals first
    | exact ⟨.bool b, by simp [eqGuard, binOp, he], Post.still hs (vr_pr (.bool _))⟩
    | exact ⟨.bool !b, by simp [eqGuard, binOp, he], Post.still hs (vr_pr (.bool _))⟩

theorem eq_slice {t e : Nat} (ht : P.underlying t = some (.slice e)) (a : Option Addr) (l c : Nat) (w : World) : (Op.equal t (.slice a l c) (.slice none 0 0)).run P w = .ok a.isNone w := by
  have key : ∀ d, (Op.equalIn (d + 1) t (.slice a l c) (.slice none 0 0)).run P w = .ok a.isNone w := by
    intro d
    rw [Op.equalIn, Sem.run_bind, run_und ht]
    cases a <;> rfl
  exact key 9999

theorem eq_ptr {t e : Nat} (ht : P.underlying t = some (.pointer e)) (a : Option Addr) (w : World) : (Op.equal t (.pointer a) (.pointer none)).run P w = .ok a.isNone w := by
  have key : ∀ d, (Op.equalIn (d + 1) t (.pointer a) (.pointer none)).run P w = .ok a.isNone w := by
    intro d
    rw [Op.equalIn, Sem.run_bind, run_und ht]
    cases a <;> rfl
  exact key 9999

theorem boEq_ok {X : Cx} (hX : X.OK P) (hs : SR D Γ σ w.heap) {op : BinOp} {t : Nat} {x y : V} {a b : Value} (ha : VR D Γ w.heap x a) (hb : VR D Γ w.heap y b) (ox oy : Operand) (hxy : ∀ v, oy = .const v → True) {r : V × List (Nat × Ob)}
    (h : (boEq P X op t x y).run σ = some r) : ∃ u, (do eqGuard op t ox oy a b; binOp op t a b : Sem Value).run P w = .ok u w ∧ Post D Γ σ w.heap r.1 r.2 u w.heap := by
  unfold boEq at h
  split at h
  · rename_i b' hag
    unfold aggEq at hag
    split at hag
    · rename_i xs ys
      split at hag
      · cases hag
      · rename_i hgt
        obtain ⟨arr, rfl, _⟩ := ha.agg
        obtain ⟨arr', rfl, _⟩ := hb.agg
        have he := eqV_ok hX w 8 t _ _ hag ha hb 9992
        rcases nilAns_inv h with ⟨rfl, rfl⟩ | ⟨rfl, rfl⟩
        · exact ⟨.bool b', by rw [Sem.run_bind, run_eqGuard_agg _ _ _ _ _ _ _ hgt, Result.andThen_ok, run_eql_struct, he]; rfl, Post.still hs (vr_pr (.bool _))⟩
        · exact ⟨.bool !b', by rw [Sem.run_bind, run_eqGuard_agg _ _ _ _ _ _ _ hgt, Result.andThen_ok, run_neq_struct, he]; rfl, Post.still hs (vr_pr (.bool _))⟩
    · cases hag
  rename_i hno
  clear hno
  split at h
  · rename_i a' b' h1 h2
    have e1 := reify_vr h1 ha
    have e2 := reify_vr h2 hb
    subst e1; subst e2
    obtain ⟨v, hv, rfl⟩ := mDone_inv h
    simp only [Option.map_eq_some_iff] at hv
    obtain ⟨u, hu, rfl⟩ := hv
    have hrun := pureRun_ok hu w
    refine ⟨u, ?_, Post.still hs (.one (ar_ofConst ..))⟩
    have hg : ∀ w : World, (eqGuard op t ox oy a' b').run P w = (eqGuard op t (.const a') (.const b') a' b').run P w := by
      intro w
      have n1 : a' ≠ .nilIface := by intro e; subst e; cases x <;> simp [reify, reLeaf] at h1
      unfold eqGuard
      cases a' <;> first | exact absurd rfl n1 | rfl | (cases b' <;> rfl)
    rw [Sem.run_bind] at hrun ⊢
    rw [hg]; exact hrun
  · split at h
    · rename_i ti e hti hy
      have ht := kind_slice (hX.ty _ _ hti) rfl
      have hb' := hb.nilS
      subst hb'
      split at h
      · rename_i b' hb'
        have fin : ∀ (sl : Option Addr) (l c : Nat), a = .slice sl l c → sl.isNone = b' → ∃ u, (do eqGuard op t ox oy a (.slice none 0 0); binOp op t a (.slice none 0 0) : Sem Value).run P w = .ok u w ∧ Post D Γ σ w.heap r.1 r.2 u w.heap := by
          intro sl l c e1 e2
          subst e1
          exact nil_fin h hs (fun z => ⟨by simp, by simp⟩) (fun w => by rw [eq_slice ht, e2]) (.inl ⟨sl, l, c, rfl, rfl⟩)
        cases x <;> simp only [isNilS] at hb' <;> try cases hb'
        · exact fin none 0 0 ha.nilS rfl
        · have := (VR.cells ha rfl).1
          cases ha with | one ha => cases ha with | leaf ha => cases ha with | pr ha => cases ha with | ne ad cap => exact fin _ _ _ rfl rfl
        · rename_i sz xs
          cases xs with
          | nil => simp at hb'
          | cons z zs =>
            simp at hb'
            subst hb'
            cases ha with | one ha => cases ha with | leaf ha => cases ha with | pr ha => cases ha with | list => exact fin _ _ _ rfl rfl
      · exact (run_fail h).elim
    · rename_i ti e hti hy
      have ht := kind_ptr (hX.ty _ _ hti) rfl
      have hb' := hb.nilP
      subst hb'
      have fin : ∀ (p : Option Addr), a = .pointer p → ∀ {r : V × List (Nat × Ob)}, (nilAns op p.isNone).run σ = some r → ∃ u, (do eqGuard op t ox oy a (.pointer none); binOp op t a (.pointer none) : Sem Value).run P w = .ok u w ∧ Post D Γ σ w.heap r.1 r.2 u w.heap := by
        intro p e1 r h
        subst e1
        exact nil_fin h hs (fun z => ⟨by simp, by simp⟩) (fun w => eq_ptr ht p w) (.inr ⟨p, rfl, rfl⟩)
      split at h
      · exact fin none ha.nilP h
      · have hpp := ha.pp
        cases hpp with | pp => exact fin _ rfl h
      · rename_i id i off
        obtain ⟨own, pure, sz, xs, hob, h⟩ := live_inv h
        obtain ⟨blk, base, tot, hd, _⟩ := hs.live hob
        exact fin _ ((ha.ptr).ptr_inv hd) h
      · exact (run_fail h).elim
    · exact (run_fail h).elim
end
end Go.VM
