/- The machine over plain values: each operation but calls answers as the model does. No condition beyond those stated. -/
import Derived.Test.YtifalphladcdcaaGreatVmO
set_option linter.unusedVariables false
set_option linter.unusedSimpArgs false
namespace Go.VM

def Gives (P : Program) (a : Act) (o : Oper) (w : World) (x : Value) (w' : World) : Prop :=
  Kept w w' ∧ ((execOp a.eval o).run P w = .ok (.value x) w' ∨ ((execOp a.eval o).run P w = .ok .skip w' ∧ x = undef))

/-- What a table's row says of the program. -/
theorem tiOf_some {P : Program} {t : Nat} {ti : TI} (h : tiOf P t = some ti) : ∃ i d z, P.info? t = some i ∧ P.underlying t = some d ∧ i.zero = some z ∧ leafs? z = some ti.zero ∧
    i.size = ti.size ∧ i.bytes = ti.bytes ∧ kindOf d = ti.kind := by
  unfold tiOf at h
  split at h
  · rename_i i d hi hd
    split at h
    · rename_i z hz
      split at h
      · rename_i l hl
        cases h
        exact ⟨i, d, z, hi, hd, hz, hl, rfl, rfl, rfl⟩
      · cases h
    · cases h
  · cases h

section
variable {P : Program} {D : Dir} {Γ : Nat → Prop} {σ : Store} {w : World} {H : Array Obj}

theorem run_und {t : Nat} {d : TypeDesc} (h : P.underlying t = some d) (w : World) : (underlying t).run P w = .ok d w := by
  unfold underlying; simp [Sem.run_bind, h]

theorem run_sizeOf {t : Nat} {i : TypeInfo} (h : P.info? t = some i) (w : World) : (sizeOf t).run P w = .ok i.size w := by
  unfold sizeOf typeInfo; simp [Sem.run_bind, h]

theorem run_zeroValue {t : Nat} {i : TypeInfo} {z : Value} (h : P.info? t = some i) (hz : i.zero = some z) (w : World) : (zeroValue t).run P w = .ok z w := by
  unfold zeroValue typeInfo; simp [Sem.run_bind, h, hz]

theorem isRow_kind {d : TypeDesc} {ti : TI} (h : kindOf d = ti.kind) : d.isRow = ti.agg := by
  unfold TI.agg
  rw [← h]
  cases d <;> rfl

theorem run_isAgg {t : Nat} {d : TypeDesc} {ti : TI} (h : P.underlying t = some d) (hk : kindOf d = ti.kind) (w : World) : (isAgg t).run P w = .ok ti.agg w := by
  unfold isAgg
  rw [Sem.run_bind, run_und h, ← isRow_kind hk]
  cases d <;> rfl

/-- The cells of a kind's zero. -/
theorem leafs_ok {z : Value} {l : List V} (h : leafs? z = some l) : z.cells.size = l.length ∧ ∀ (k : Nat) (c : V) (v : Value), l[k]? = some c → z.cells[k]? = some v → PR Γ H c v := by
  cases z with
  | agg cs =>
    simp only [leafs?] at h
    split at h
    · rename_i hall
      cases h
      refine ⟨by simp [Value.cells], fun k c v h1 h2 => ?_⟩
      simp only [Value.cells] at h2
      simp only [List.getElem?_map, Array.getElem?_toList, h2, Option.map_some, Option.some.injEq] at h1
      subst h1
      exact pr_ofLeaf _ _ _ (Array.all_eq_true_iff_forall_mem.1 hall _ (Array.mem_of_getElem? h2))
    · cases h
  | tuple cs => simp [leafs?, Value.oneCell'] at h
  | _ =>
    simp only [leafs?, Value.oneCell', if_true, Option.some.injEq] at h
    subst h
    refine ⟨rfl, fun k c v h1 h2 => ?_⟩
    simp only [Value.cells] at h2
    cases k with
    | zero => simp at h1 h2; subst h1; subst h2; exact pr_ofLeaf _ _ _ rfl
    | succ k => simp at h1

/-- A part of a struct's or an array's cells. -/
theorem part_ok {t : Nat} {ti : TI} (hti : tiOf P t = some ti) {cs : List V} {off : Nat} {v : V} (hv : partV ti cs off = some v) {arr : Array Value} (hl : arr.size = cs.length)
    (h : ∀ (k : Nat) (c : V) (u : Value), cs[k]? = some c → arr[k]? = some u → LR D Γ H c u) : ∃ x, (part t arr off).run P w = .ok x w ∧ VR D Γ H v x := by
  obtain ⟨i, d, z, hi, hd, hz, hzl, hs, hb, hk⟩ := tiOf_some hti
  unfold partV at hv
  unfold part
  simp only [Sem.run_bind, run_isAgg hd hk, Result.andThen_ok]
  by_cases ha : ti.agg = true
  · simp only [ha, if_true] at hv ⊢
    split at hv
    · rename_i hle
      cases hv
      refine ⟨.agg (arr.extract off (off + ti.size)), by simp [Sem.run_bind, run_sizeOf hi, hs], .one (.agg _ (by simp; omega) fun k c u h1 h2 => ?_)⟩
      have hk' : k < ti.size := by
        have := (List.getElem?_eq_some_iff.1 h1).1; simp at this; omega
      rw [List.getElem?_take_of_lt hk', List.getElem?_drop] at h1
      rw [Array.getElem?_extract] at h2
      split at h2
      · exact h _ _ _ h1 h2
      · cases h2
    · cases hv
  · simp only [Bool.not_eq_true] at ha
    simp only [ha, Bool.false_eq_true, if_false] at hv ⊢
    have hlt := (List.getElem?_eq_some_iff.1 hv).1
    have e : arr[off]? = some arr[off] := Array.getElem?_eq_getElem (by omega)
    exact ⟨arr[off], by simp [e], .one (.leaf (h _ _ _ hv e))⟩

/-- Cells that are read out of memory. -/
theorem loadVar_ok {t : Nat} {ti : TI} (hti : tiOf P t = some ti) {cs : List V} {off : Nat} {v : V} (hv : partV ti cs off = some v) {b o : Nat}
    (h : ∀ (k : Nat) (c : V), off ≤ k → k < cs.length → cs[k]? = some c → ∃ u, w.cell? ⟨b, o + (k - off), none⟩ = some u ∧ LR D Γ H c u) : ∃ x, (loadVar t ⟨b, o, none⟩).run P w = .ok x w ∧ VR D Γ H v x := by
  obtain ⟨i, d, z, hi, hd, hz, hzl, hs, hb, hk⟩ := tiOf_some hti
  unfold partV at hv
  by_cases ha : ti.agg = true
  · simp only [ha, if_true] at hv
    split at hv
    · rename_i hle
      cases hv
      have hex : ∀ k, k < ti.size → ∃ u, w.cell? ⟨b, o + k, none⟩ = some u ∧ ∀ c, cs[off + k]? = some c → LR D Γ H c u := by
        intro k hk'
        have hlt : off + k < cs.length := by omega
        obtain ⟨u, hu, hl⟩ := h (off + k) cs[off + k] (by omega) hlt (List.getElem?_eq_getElem hlt)
        rw [Nat.add_sub_cancel_left] at hu
        refine ⟨u, hu, fun c hc => ?_⟩
        rw [List.getElem?_eq_getElem hlt] at hc; cases hc; exact hl
      let g : Nat → Value := fun k => if hk' : k < ti.size then (hex k hk').choose else undef
      have hg : ∀ k (hk' : k < ti.size), w.cell? ⟨b, o + k, none⟩ = some (g k) ∧ ∀ c, cs[off + k]? = some c → LR D Γ H c (g k) := by
        intro k hk'
        have := (hex k hk').choose_spec
        simp only [g, hk', dif_pos]
        exact this
      have hrun := run_loadVar_mid (P := P) w b o t ((List.range ti.size).map g) d (fun j u hj => by
        have hj' : j < ti.size := by have := (List.getElem?_eq_some_iff.1 hj).1; simpa using this
        simp [hj'] at hj
        rw [← hj]; exact (hg j hj').1) hd (by rw [isRow_kind hk]; exact ha) (by simp [hi, hs])
      refine ⟨_, hrun, .one (.agg _ (by simp; omega) fun k c u h1 h2 => ?_)⟩
      have hk' : k < ti.size := by have := (List.getElem?_eq_some_iff.1 h1).1; simp at this; omega
      rw [List.getElem?_take_of_lt hk', List.getElem?_drop] at h1
      simp [hk'] at h2
      rw [← h2]
      exact (hg k hk').2 c h1
    · cases hv
  · simp only [Bool.not_eq_true] at ha
    simp only [ha, Bool.false_eq_true, if_false] at hv
    have hlt := (List.getElem?_eq_some_iff.1 hv).1
    obtain ⟨u, hu, hl⟩ := h off v (Nat.le_refl _) hlt hv
    rw [Nat.sub_self, Nat.add_zero] at hu
    exact ⟨u, by unfold loadVar; simp [Sem.run_bind, run_isAgg hd hk, ha, hu], .one (.leaf hl)⟩

theorem cell_of {blk o : Nat} {cells : Array Value} {T fz} (hb : w.heap[blk]? = some (.cells cells T fz)) : w.cell? ⟨blk, o, none⟩ = cells[o]? := by
  simp [World.cell?, hb]

/-- An element's cells, by their place. -/
theorem OR.row {blk base tot : Nat} {own pure : Bool} {sz : Nat} {xs : List (List V)} (h : OR D Γ w.heap blk base tot own pure sz xs) {i : Nat} {x : List V} (hi : xs[i]? = some x) (k : Nat) (c : V) (hc : x[k]? = some c) :
    ∃ u, w.cell? ⟨blk, base + i * sz + k, none⟩ = some u ∧ LR D Γ w.heap c u := by
  obtain ⟨hx, h⟩ := h
  have hlen : x.length = sz := hx x (List.mem_of_getElem? hi)
  have hk : k < sz := by have := (List.getElem?_eq_some_iff.1 hc).1; omega
  rcases h with ⟨_, h⟩ | ⟨_, cells, T, fz, g1, g2, g3, g4, g5, g6⟩
  · subst h; simp at hi
  · obtain ⟨u, hu, hp⟩ := g5 (i * sz + k) c (by rw [flatten_row hx hi hk]; exact hc)
    refine ⟨u, by rw [cell_of g1, Nat.add_assoc]; exact hu, ?_⟩
    cases pure
    · simp only [Bool.false_eq_true, if_false] at hp; exact hp
    · simp only [if_true] at hp; exact .pr hp

theorem load_ok {X : Cx} (hX : X.OK P) (hs : SR D Γ σ w.heap) {T : List V} {a : Act} (hT : TR D Γ w.heap T a.tmps) {nid : Nat} {o : Oper} {t : Nat} {ad : Operand} (ho : o.op = .load t ad) {v : V} {ws : List (Nat × Ob)}
    (hr : (op1 P X T nid o).run σ = some (v, ws)) : ∃ x w', Gives P a o w x w' ∧ Post D Γ σ w.heap v ws x w'.heap := by
  simp only [op1, ho] at hr
  have hev := hT.ev ad
  split at hr
  · rename_i ti id i off hti hp
    rw [hp] at hev
    have hti := hX.ty _ _ hti
    obtain ⟨ob, hob, hr⟩ := run_get hr
    split at hr
    · rename_i own pure sz xs
      split at hr
      · rename_i x hx
        simp only [mDone] at hr
        split at hr
        · rename_i v' hv'
          cases run_done hr
          obtain ⟨blk, base, tot, hd, hor⟩ := hs.live hob
          have hpt := (hev.ptr).ptr_inv hd
          obtain ⟨y, hy, hvy⟩ := loadVar_ok (P := P) (w := w) (D := D) (Γ := Γ) (H := w.heap) hti hv' (b := blk) (o := base + i * sz + off) (fun k c h1 h2 h3 => by
            obtain ⟨u, hu, hl⟩ := hor.row hx k c h3
            refine ⟨u, ?_, hl⟩
            rw [show base + i * sz + off + (k - off) = base + i * sz + k by omega]; exact hu)
          refine ⟨y, w, ⟨Kept.refl w, .inl ?_⟩, Post.still hs hvy⟩
          simp [execOp, ho, Instr.loadAt, Instr.sureAddr, hpt, hy]
        · exact (run_fail hr).elim
      · exact (run_fail hr).elim
    · exact (run_fail hr).elim
  · rename_i ti cs hti hp
    rw [hp] at hev
    have hti := hX.ty _ _ hti
    simp only [mDone] at hr
    split at hr
    · rename_i v' hv'
      cases run_done hr
      have hpp := hev.pp
      cases hq : a.eval ad with
      | pointer pa =>
        rw [hq] at hpp
        cases hpp with
        | pp _ blk off cells T' fz vals hO hb hlen hcell hpr =>
          obtain ⟨y, hy, hvy⟩ := loadVar_ok (P := P) (w := w) (D := D) (Γ := Γ) (H := w.heap) hti hv' (b := blk) (o := off) (fun k c h1 h2 h3 => by
            have hk : k < vals.length := by omega
            refine ⟨vals[k], ?_, .pr (hpr k c _ h3 (List.getElem?_eq_getElem hk))⟩
            rw [cell_of hb, Nat.sub_zero, hcell k hk, List.getElem?_eq_getElem hk])
          refine ⟨y, w, ⟨Kept.refl w, .inl ?_⟩, Post.still hs hvy⟩
          simp [execOp, ho, Instr.loadAt, Instr.sureAddr, hq, hy]
      | _ => rw [hq] at hpp; cases hpp
    · exact (run_fail hr).elim
  · exact (run_fail hr).elim
end
end Go.VM
