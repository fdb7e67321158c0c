/- The machine over plain values: numbers, tests, parts, places. No condition beyond those stated. -/
import Derived.Test.YtifalphladcdcaaGreatVmT
set_option linter.unusedVariables false
set_option linter.unusedSimpArgs false
namespace Go.VM
section
variable {P : Program} {D : Dir} {Γ : Nat → Prop} {σ : Store} {w : World}

abbrev OpOK (P : Program) (D : Dir) (Γ : Nat → Prop) (σ : Store) (w : World) (X : Cx) (T : List V) (a : Act) (nid : Nat) (o : Oper) : Prop :=
  ∀ {v : V} {ws : List (Nat × Ob)}, (op1 P X T nid o).run σ = some (v, ws) → ∃ x w', Gives P a o w x w' ∧ Post D Γ σ w.heap v ws x w'.heap

theorem still {a : Act} {o : Oper} {x : Value} (hr : (execOp a.eval o).run P w = .ok (.value x) w) (hs : SR D Γ σ w.heap) {v : V} (hv : VR D Γ w.heap v x) :
    ∃ x w', Gives P a o w x w' ∧ Post D Γ σ w.heap v [] x w'.heap := ⟨x, w, ⟨Kept.refl w, .inl hr⟩, Post.still hs hv⟩

theorem vr_pr {c : V} {v : Value} {H : Array Obj} (h : PR Γ H c v) : VR D Γ H c v := .one (.leaf (.pr h))

theorem move_ok {X : Cx} (hs : SR D Γ σ w.heap) {T : List V} {a : Act} (hT : TR D Γ w.heap T a.tmps) {nid : Nat} {o : Oper} {x : Operand} (ho : o.op = .move x ∨ o.op = .assign x) : OpOK P D Γ σ w X T a nid o := by
  intro v ws hr
  rcases ho with ho | ho <;> (simp only [op1, ho] at hr; cases run_done hr; exact still (by simp [execOp, ho]) hs (hT.ev x))

theorem pick_ok {X : Cx} (hs : SR D Γ σ w.heap) {T : List V} {a : Act} (hT : TR D Γ w.heap T a.tmps) {nid : Nat} {o : Oper} {c x y : Operand} (ho : o.op = .pick c x y) : OpOK P D Γ σ w X T a nid o := by
  intro v ws hr
  simp only [op1, ho] at hr
  have hc := hT.ev c
  split at hr
  · rename_i t ht
    rw [ht] at hc
    cases run_done hr
    have := hc.bool
    cases t
    · exact still (by simp [execOp, ho, this, asBool]) hs (hT.ev y)
    · exact still (by simp [execOp, ho, this, asBool]) hs (hT.ev x)
  · exact (run_fail hr).elim

theorem mDone_inv {v : Option V} {r : V × List (Nat × Ob)} (h : (mDone v).run σ = some r) : ∃ u, v = some u ∧ r = (u, []) := by
  unfold mDone at h
  split at h
  · exact ⟨_, rfl, run_done h⟩
  · exact (run_fail h).elim

theorem pureRun_ok {α : Type} {s : Sem α} {a : α} (h : pureRun P s = some a) (w : World) : s.run P w = .ok a w := by
  induction s with
  | pure b => simp only [pureRun, Option.some.injEq] at h; subst h; rfl
  | program k ih => simp only [pureRun] at h; exact ih _ h
  | _ => simp only [pureRun] at h; cases h

theorem reLeaf_lr {c : V} {u v : Value} {H : Array Obj} (h : reLeaf c = some u) (hl : LR D Γ H c v) : u = v := by
  cases c <;> simp only [reLeaf, Option.some.injEq] at h <;> first | (subst h; cases hl with | pr hl => cases hl; rfl) | cases h

theorem reLeafs_lr : ∀ {cs : List V} {us : List Value} {H : Array Obj} {vs : List Value}, reLeafs cs = some us → vs.length = cs.length → (∀ (k : Nat) (c : V) (v : Value), cs[k]? = some c → vs[k]? = some v → LR D Γ H c v) → us = vs
  | [], us, H, vs, h, hl, _ => by
    simp only [reLeafs, Option.some.injEq] at h; subst h
    exact (List.eq_nil_of_length_eq_zero hl).symm
  | c :: cs, us, H, vs, h, hl, hh => by
    simp only [reLeafs] at h
    split at h
    · rename_i u us' h1 h2
      cases h
      cases vs with
      | nil => simp at hl
      | cons v vs =>
        rw [reLeaf_lr h1 (hh 0 c v rfl rfl), reLeafs_lr h2 (by simpa using hl) fun k c v h3 h4 => hh (k + 1) c v h3 h4]
    · cases h

theorem reify_vr {c : V} {u v : Value} {H : Array Obj} (h : reify c = some u) (hl : VR D Γ H c v) : u = v := by
  cases c with
  | agg cs =>
    obtain ⟨arr, rfl, hsz, hh⟩ := hl.agg
    simp only [reify, Option.map_eq_some_iff] at h
    obtain ⟨us, h1, h2⟩ := h
    subst h2
    rw [reLeafs_lr (D := D) (Γ := Γ) (H := H) (vs := arr.toList) h1 (by simpa using hsz) fun k c v h3 h4 => hh k c v h3 (by rw [← Array.getElem?_toList]; exact h4)]
  | bool b => simp only [reify, reLeaf, Option.some.injEq] at h; rw [← h, hl.bool]
  | int k n => simp only [reify, reLeaf, Option.some.injEq] at h; rw [← h, hl.int]
  | str s => simp only [reify, reLeaf, Option.some.injEq] at h; rw [← h, hl.str]
  | _ => simp [reify, reLeaf] at h

theorem live_inv {id : Nat} {k : M} {r : V × List (Nat × Ob)} (h : (live id k).run σ = some r) : ∃ own pure sz xs, σ[id]? = some (.cells own pure sz xs) ∧ k.run σ = some r := by
  obtain ⟨o, ho, h⟩ := run_get h
  split at h
  · exact ⟨_, _, _, _, ho, h⟩
  · exact (run_fail h).elim

theorem bin_ok {op : BinOp} {x y v : V} (h : bin op x y = some v) {t : Nat} {a b : Value} {H : Array Obj} (ha : VR D Γ H x a) (hb : VR D Γ H y b) (ox oy : Operand) (w : World) :
    ∃ u, (do eqGuard op t ox oy a b; binOp op t a b : Sem Value).run P w = .ok u w ∧ VR D Γ H v u := by
  have hx : ∃ k n, x = .int k n := by
    cases x <;> first | exact ⟨_, _, rfl⟩ | (cases op <;> simp [bin] at h)
  have hy : ∃ k n, y = .int k n := by
    obtain ⟨k, n, rfl⟩ := hx
    cases y <;> first | exact ⟨_, _, rfl⟩ | (cases op <;> simp [bin] at h)
  obtain ⟨k, n, rfl⟩ := hx
  obtain ⟨k', m, rfl⟩ := hy
  have ea := ha.int
  have eb := hb.int
  subst ea; subst eb
  have hg : ∀ w : World, (eqGuard op t ox oy (.int k n) (.int k' m)).run P w = .ok () w := by
    intro w; cases op <;> simp [eqGuard]
  have fin : ∀ {u : Value}, (binOp op t (.int k n) (.int k' m)).run P w = .ok u w → VR D Γ H v u → ∃ u, (do eqGuard op t ox oy (.int k n) (.int k' m); binOp op t (.int k n) (.int k' m) : Sem Value).run P w = .ok u w ∧ VR D Γ H v u :=
    fun h1 h2 => ⟨_, by rw [Sem.run_bind, hg]; exact h1, h2⟩
  cases op <;> simp only [bin] at h
  case shl =>
    split at h
    · cases h
    · rename_i h0; cases h
      exact fin (u := .int k (k.wrap (n * 2 ^ (min m.toNat k.bits)))) (by simp [binOp, Op.shift, h0]) (vr_pr (.int _ _))
  case shr =>
    split at h
    · cases h
    · rename_i h0; cases h
      exact fin (u := .int k (n.fdiv (2 ^ (min m.toNat k.bits)))) (by simp [binOp, Op.shift, h0]) (vr_pr (.int _ _))
  case add =>
    split at h
    · rename_i hk; subst hk; cases h
      exact fin (u := .int k (k.wrap (n + m))) (by simp [binOp, Op.intArith]) (vr_pr (.int _ _))
    · cases h
  case sub =>
    split at h
    · rename_i hk; subst hk; cases h
      exact fin (u := .int k (k.wrap (n - m))) (by simp [binOp, Op.intArith]) (vr_pr (.int _ _))
    · cases h
  case mul =>
    split at h
    · rename_i hk; subst hk; cases h
      exact fin (u := .int k (k.wrap (n * m))) (by simp [binOp, Op.intArith]) (vr_pr (.int _ _))
    · cases h
  case and =>
    split at h
    · rename_i hk; subst hk; cases h
      exact fin (u := .int k (k.wrap (BitVec.ofInt k.bits n &&& BitVec.ofInt k.bits m).toNat)) (by simp [binOp, Op.intBits]) (vr_pr (.int _ _))
    · cases h
  case or =>
    split at h
    · rename_i hk; subst hk; cases h
      exact fin (u := .int k (k.wrap (BitVec.ofInt k.bits n ||| BitVec.ofInt k.bits m).toNat)) (by simp [binOp, Op.intBits]) (vr_pr (.int _ _))
    · cases h
  case xor =>
    split at h
    · rename_i hk; subst hk; cases h
      exact fin (u := .int k (k.wrap (BitVec.ofInt k.bits n ^^^ BitVec.ofInt k.bits m).toNat)) (by simp [binOp, Op.intBits]) (vr_pr (.int _ _))
    · cases h
  case andNot =>
    split at h
    · rename_i hk; subst hk; cases h
      exact fin (u := .int k (k.wrap (BitVec.ofInt k.bits n &&& ~~~ BitVec.ofInt k.bits m).toNat)) (by simp [binOp, Op.intBits]) (vr_pr (.int _ _))
    · cases h
  case eql =>
    split at h
    · rename_i hk; subst hk; cases h
      exact fin (u := .bool (n == m)) (by simp [binOp, Op.intCmp]) (vr_pr (.bool _))
    · cases h
  case neq =>
    split at h
    · rename_i hk; subst hk; cases h
      exact fin (u := .bool (n != m)) (by simp [binOp, Op.intCmp]) (vr_pr (.bool _))
    · cases h
  case lss =>
    split at h
    · rename_i hk; subst hk; cases h
      exact fin (u := .bool (decide (n < m))) (by simp [binOp, Op.intCmp]) (vr_pr (.bool _))
    · cases h
  case leq =>
    split at h
    · rename_i hk; subst hk; cases h
      exact fin (u := .bool (decide (n ≤ m))) (by simp [binOp, Op.intCmp]) (vr_pr (.bool _))
    · cases h
  case gtr =>
    split at h
    · rename_i hk; subst hk; cases h
      exact fin (u := .bool (decide (n > m))) (by simp [binOp, Op.intCmp]) (vr_pr (.bool _))
    · cases h
  case geq =>
    split at h
    · rename_i hk; subst hk; cases h
      exact fin (u := .bool (decide (n ≥ m))) (by simp [binOp, Op.intCmp]) (vr_pr (.bool _))
    · cases h
  case quo =>
    split at h
    · rename_i hk; subst hk
      split at h
      · cases h
      · rename_i h0; cases h
        exact fin (u := .int k (k.wrap (n.tdiv m))) (by simp [binOp, Op.intDiv, h0]) (vr_pr (.int _ _))
    · cases h
  case rem =>
    split at h
    · rename_i hk; subst hk
      split at h
      · cases h
      · rename_i h0; cases h
        exact fin (u := .int k (n.tmod m)) (by simp [binOp, Op.intDiv, h0]) (vr_pr (.int _ _))
    · cases h
end
end Go.VM
