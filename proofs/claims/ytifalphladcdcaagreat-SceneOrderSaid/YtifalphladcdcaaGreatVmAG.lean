/- The machine over plain values: operations that may come in either order. No condition beyond those stated. -/
import Derived.Test.YtifalphladcdcaaGreatVmAF
set_option linter.unusedVariables false
set_option linter.unusedSimpArgs false
namespace Go.VM

theorem parts_congr {T T' : List V} {ps : Array (Nat × Operand)} (h : ∀ x ∈ (ps.toList.map (·.2)), ev T x = ev T' x) : parts? T ps = parts? T' ps := by
  unfold parts?
  exact List.map_congr_left fun p hp => by rw [h p.2 (List.mem_map.2 ⟨p, hp, rfl⟩)]

theorem op1_congr {P : Program} {X : Cx} {T T' : List V} {nid : Nat} {o : Oper} (h : ∀ x ∈ o.op.operands, ev T x = ev T' x) : op1 P X T nid o = op1 P X T' nid o := by
  obtain ⟨dst, op, ty, pos, after, guard⟩ := o
  cases op <;> simp only [Op.operands] at h <;> simp only [op1]
  case move x => rw [h x (by simp)]
  case assign x => rw [h x (by simp)]
  case pick c a b => rw [h c (by simp), h a (by simp), h b (by simp)]
  case box t x => rw [h x (by simp)]
  case build t ps => rw [parts_congr fun x hx => h x (by simpa using hx)]
  case buildSlice t n ps => rw [parts_congr fun x hx => h x (by simpa using hx)]
  case load t x => rw [h x (by simp)]
  case store t x y => rw [h x (by simp), h y (by simp)]
  case nilCheck x => rw [h x (by simp)]
  case binOp op t x y u => rw [h x (by simp), h y (by simp)]
  case unOp op t x => rw [h x (by simp)]
  case convert s d x => rw [h x (by simp)]
  case makeFunc f first captured =>
    cases f <;> simp only
    have e1 : captured.toList.map (ev T) = captured.toList.map (ev T') := List.map_congr_left fun x hx => h x (by simp at hx ⊢; exact .inr hx)
    have e2 : captured.toList.all (fun x => isLeaf (ev T x)) = captured.toList.all (fun x => isLeaf (ev T' x)) := by
      have e2 := congrArg (fun l => l.all isLeaf) e1
      simp only [List.all_map] at e2
      exact e2
    rw [e1, e2]
  case makeSlice t l c => rw [h l (by simp), h c (by simp)]
  case slice t x lo hi mx =>
    cases mx <;> simp only
    have e1 : lo.map (ev T) = lo.map (ev T') := by cases lo <;> simp; exact h _ (by simp)
    have e2 : hi.map (ev T) = hi.map (ev T') := by cases hi <;> simp; exact h _ (by simp)
    rw [h x (by simp), e1, e2]
  case fieldAddr s x f => rw [h x (by simp)]
  case field s x f => rw [h x (by simp)]
  case indexAddr t x i => rw [h x (by simp), h i (by simp)]
  case index t x i => rw [h x (by simp), h i (by simp)]
  case extract x i => rw [h x (by simp)]
  case call c =>
    obtain ⟨cal, args, tys⟩ := c
    have ha : ∀ x ∈ args.toList, ev T x = ev T' x := fun x hx => h x (by simp [Call.operands]; exact .inr (by simpa using hx))
    have hm : args.toList.map (ev T) = args.toList.map (ev T') := List.map_congr_left ha
    cases cal with
    | builtin b =>
      cases b <;> simp only
      · split
        · rename_i s x t t' e1 e2
          rw [ha s (by rw [e1]; simp), ha x (by rw [e1]; simp)]
        · rfl
      · split
        · rename_i x t e1 e2
          rw [ha x (by rw [e1]; simp)]
        · rfl
      · rw [hm]
      · rw [hm]
    | _ => rfl

theorem opM_congr {P : Program} {X : Cx} {C : Oracle} {T T' : List V} {nid : Nat} {o : Oper} (h : ∀ x ∈ o.op.operands, ev T x = ev T' x) : opM P X C T nid o = opM P X C T' nid o := by
  have h1 := op1_congr (P := P) (X := X) (nid := nid) h
  unfold opM
  split
  · rename_i f args tys ho
    rw [ho] at h
    have ha : args.toList.map (ev T) = args.toList.map (ev T') := List.map_congr_left fun x hx => h x (by simp [Op.operands, Call.operands]; exact .inr (by simpa using hx))
    rw [h f (by simp [Op.operands, Call.operands]), ha]
  · exact h1

theorem run_local {σ τ : Store} : ∀ {m : M}, (∀ id ∈ m.reads σ, τ[id]? = σ[id]?) → m.run τ = m.run σ ∧ m.reads τ = m.reads σ
  | .fail, _ => ⟨rfl, rfl⟩
  | .done v ws, _ => ⟨rfl, rfl⟩
  | .get id k, h => by
    have hid : τ[id]? = σ[id]? := h id (by simp [M.reads])
    simp only [M.run, M.reads, hid]
    cases ho : σ[id]? with
    | none => exact ⟨rfl, rfl⟩
    | some o =>
      have := run_local (m := k o) (σ := σ) (τ := τ) fun id' hi => h id' (by simp only [M.reads, ho]; exact List.mem_cons_of_mem _ hi)
      exact ⟨this.1, congrArg (List.cons id) this.2⟩

/-- An operation looks at some slots and rows alone, and writes some alone. -/
theorem runOp_local {P : Program} {X : Cx} {C : Oracle} {ops : Array Oper} {i nid : Nat} {o : Oper} {s s' : S} {f : Foot} (h : runOp P X C ops.toList i nid o s = some (s', f)) :
    ∃ u ws, s' = ⟨putV s.T o.dst u, lay s.σ ws⟩ ∧ f.wr = ws.map (·.1) ∧ f.at_ = i ∧ ∀ (T2 : List V) (σ2 : Store), (∀ t ∈ o.looksAt ops, T2[t]? = s.T[t]?) → (∀ id ∈ f.rd, σ2[id]? = s.σ[id]?) →
      runOp P X C ops.toList i nid o ⟨T2, σ2⟩ = some (⟨putV T2 o.dst u, lay σ2 ws⟩, f) := by
  have hwant : ∀ (T2 : List V), (∀ t ∈ o.looksAt ops, T2[t]? = s.T[t]?) → wantV ops.toList T2 o = wantV ops.toList s.T o := by
    intro T2 hT
    unfold wantV
    cases hg : o.guard with
    | none => rfl
    | some jw =>
      obtain ⟨j, want⟩ := jw
      simp only
      cases hp : ops.toList[j]? with
      | none => rfl
      | some p =>
        simp only
        cases hd : p.dst with
        | none => rfl
        | some d =>
          simp only
          rw [hT d (by
            unfold Oper.looksAt
            refine List.mem_append_right _ ?_
            rw [Array.getElem?_toList] at hp
            simp [hg, hp, hd])]
  have hev : ∀ (T2 : List V), (∀ t ∈ o.looksAt ops, T2[t]? = s.T[t]?) → ∀ x ∈ o.op.operands, ev T2 x = ev s.T x := by
    intro T2 hT x hx
    cases x with
    | tmp t =>
      simp only [ev, List.getD_eq_getElem?_getD]
      rw [hT t (List.mem_append_left _ (List.mem_filterMap.2 ⟨.tmp t, by simpa using hx, rfl⟩))]
    | _ => rfl
  unfold runOp at h
  split at h
  · cases h
  · rename_i hw
    cases h
    refine ⟨.tup [], [], rfl, rfl, rfl, fun T2 σ2 hT _ => ?_⟩
    unfold runOp
    rw [hwant T2 hT, hw]; rfl
  · rename_i hw
    split at h
    · cases h
    · rename_i v ws hr
      cases h
      refine ⟨v, ws, rfl, rfl, rfl, fun T2 σ2 hT hσ => ?_⟩
      have e1 := opM_congr (P := P) (X := X) (C := C) (nid := nid) (hev T2 hT)
      obtain ⟨e2, e3⟩ := run_local (τ := σ2) hσ
      unfold runOp
      simp only [hwant T2 hT, hw, e1, e2, e3, hr]

theorem lay_mem {ws : List (Nat × Ob)} : ∀ {σ : Store} {id : Nat}, id ∉ ws.map (·.1) → (lay σ ws)[id]? = σ[id]? := fun h => lay_other fun p hp e => h (List.mem_map.2 ⟨p, hp, e⟩)

theorem lay_set {ws : List (Nat × Ob)} : ∀ {σ : Store} {i : Nat} {o : Ob}, i ∉ ws.map (·.1) → lay (σ.set i o) ws = (lay σ ws).set i o := by
  induction ws with
  | nil => intros; rfl
  | cons p ws ih =>
    intro σ i o h
    simp only [List.map_cons, List.mem_cons, not_or] at h
    rw [lay_cons, lay_cons, List.set_comm _ _ (fun e => h.1 e), ih h.2]

theorem lay_comm {a b : List (Nat × Ob)} : ∀ {σ : Store}, (∀ x ∈ a.map (·.1), x ∉ b.map (·.1)) → lay (lay σ a) b = lay (lay σ b) a := by
  induction a with
  | nil => intros; rfl
  | cons p a ih =>
    intro σ h
    rw [lay_cons, ih (fun x hx => h x (by simp only [List.map_cons]; exact List.mem_cons_of_mem _ hx)), lay_set (h p.1 (by simp)), lay_cons]

theorem meets_no {a b : List Nat} (h : meets a b = false) : ∀ x ∈ a, x ∉ b := by
  intro x hx hb
  unfold meets at h
  have := List.any_eq_false.1 h x hx
  simp [hb] at this

/-- Two operations that may come in either order, the other way round. -/
theorem swap_ok {P : Program} {X : Cx} {C : Oracle} {ops : Array Oper} {i j n m : Nat} {x y : Oper} {s s1 s2 : S} {f g : Foot} (h1 : runOp P X C ops.toList i n x s = some (s1, f)) (h2 : runOp P X C ops.toList j m y s1 = some (s2, g))
    (hfree : free f g = true) (hap : x.apart ops y = true) : ∃ s1', runOp P X C ops.toList j m y s = some (s1', g) ∧ runOp P X C ops.toList i n x s1' = some (s2, f) := by
  obtain ⟨u, ws, rfl, fw, _, loc1⟩ := runOp_local h1
  obtain ⟨v, zs, rfl, gw, _, loc2⟩ := runOp_local h2
  obtain ⟨a1, a2, a3⟩ := Oper.apart_spec hap
  simp only [free, Bool.and_eq_true, Bool.not_eq_true'] at hfree
  obtain ⟨⟨f1, f2⟩, f3⟩ := hfree
  have f1 := meets_no f1
  have f2 := meets_no f2
  have f3 := meets_no f3
  have put_get : ∀ {T : List V} {d : Option Tmp} {v : V} {t : Nat}, (∀ e, d = some e → e ≠ t) → (putV T d v)[t]? = T[t]? := by
    intro T d v t hd
    cases d with
    | none => rfl
    | some e => exact List.getElem?_set_ne (hd e rfl)
  have q1 := loc2 s.T s.σ (fun t ht => (put_get fun e he e' => a1 e he (e' ▸ ht)).symm) (fun id hid => by
    rw [fw] at f1
    exact (lay_mem fun hm => f1 id hm hid).symm)
  have q2 := loc1 (putV s.T y.dst v) (lay s.σ zs) (fun t ht => put_get fun e he e' => a3 e he (e' ▸ ht)) (fun id hid => by
    rw [gw] at f3
    exact lay_mem fun hm => f3 id hid hm)
  refine ⟨_, q1, ?_⟩
  rw [q2]
  congr 2
  · congr 1
    · cases hx : x.dst with
      | none => rfl
      | some d =>
        cases hy : y.dst with
        | none => rfl
        | some e =>
          simp only [putV]
          exact List.set_comm _ _ fun he => a2 d hx (by rw [hy, he])
    · exact (lay_comm fun id hid hm => f2 id (by rw [fw]; exact hid) (by rw [gw]; exact hm)).symm
end Go.VM
