/- The machine over plain values: new variables, structs, rows, function values. No condition beyond those stated. -/
import Derived.Test.YtifalphladcdcaaGreatVmX
import Derived.Laws.MakeOwn
set_option linter.unusedVariables false
set_option linter.unusedSimpArgs false
namespace Go.VM
section
variable {P : Program} {D : Dir} {Γ : Nat → Prop} {σ : Store} {w : World}

theorem alloc1_inv {nid : Nat} {v : V} {o : Ob} {ws : List (Nat × Ob)} {r : V × List (Nat × Ob)} (h : (alloc1 nid v o ws).run σ = some r) : σ[nid]? = some .vir ∧ r = (v, ws ++ [(nid, o)]) := by
  obtain ⟨ob, hob, h⟩ := run_get h
  split at h
  · exact ⟨hob, run_done h⟩
  · exact (run_fail h).elim

/-- A variable of one element. -/
theorem SR.var (hs : SR D Γ σ w.heap) {nid : Nat} (hn : σ[nid]? = some .vir) {cs : List V} (hpos : 0 < cs.length) {arr : Array Value} (T : TypeId) (hl : arr.size = cs.length)
    (h : ∀ (k : Nat) (c : V) (v : Value), cs[k]? = some c → arr[k]? = some v → LR D Γ w.heap c v) :
    Post D Γ σ w.heap (.ptr nid 0 0) [(nid, .cells true false cs.length [cs])] (.pointer (some ⟨w.heap.size, 0, none⟩)) (w.heap.push (.cells arr T)) := by
  obtain ⟨h1, h2⟩ := hs.alloc hn false cs.length [cs] arr T (by simp) (by simp [hl]) (by intro e; omega) (fun k c hk => by
    simp at hk
    have hlt : k < arr.size := by have := (List.getElem?_eq_some_iff.1 hk).1; omega
    exact ⟨arr[k], Array.getElem?_eq_getElem hlt, by simp only [Bool.false_eq_true, if_false]; exact h k c _ hk (Array.getElem?_eq_getElem hlt)⟩)
  refine ⟨_, _, .one (.leaf ?_), h1, h2⟩
  have := LR.ptr (D := D.set nid (.live w.heap.size 0 cs.length arr.size true)) (Γ := Γ) (H := w.heap.push (.cells arr T)) (id := nid) (i := 0) (off := 0) (get_set (hs.virD hn))
  simpa using this

theorem alloc_ok {X : Cx} (hX : X.OK P) (hs : SR D Γ σ w.heap) {T : List V} {a : Act} {nid : Nat} {o : Oper} {t : Nat} (ho : o.op = .alloc t) : OpOK P D Γ σ w X T a nid o := by
  intro v ws hr
  simp only [op1, ho] at hr
  split at hr
  · rename_i ti hti
    split at hr
    · rename_i hle
      obtain ⟨hn, hr⟩ := alloc1_inv hr
      cases hr
      obtain ⟨i, d, z, hi, hd, hz, hzl, hsz, hb, hk⟩ := tiOf_some (hX.ty _ _ hti)
      obtain ⟨l1, l2⟩ := leafs_ok (Γ := Γ) (H := w.heap) hzl
      refine ⟨.pointer (some ⟨w.heap.size, 0, none⟩), w.alloc (.cells z.cells t), ⟨⟨rfl, rfl, rfl⟩, .inl ?_⟩, ?_⟩
      · simp only [execOp, ho, Instr.alloc, Sem.run_bind, run_zeroValue hi hz, Result.andThen_ok, newVar, newRow, run_newObj, Sem.run_pure]; rfl
      · have := hs.var hn (cs := ti.zero) (by omega) (arr := z.cells) t l1 (fun k c v h1 h2 => .pr (l2 k c v h1 h2))
        rw [hle.1] at this
        exact this
    · exact (run_fail hr).elim
  · exact (run_fail hr).elim

theorem box_ok {X : Cx} (hs : SR D Γ σ w.heap) {T : List V} {a : Act} (hT : TR D Γ w.heap T a.tmps) {nid : Nat} {o : Oper} {t : Nat} {x : Operand} (ho : o.op = .box t x) : OpOK P D Γ σ w X T a nid o := by
  intro v ws hr
  simp only [op1, ho] at hr
  split at hr
  · rename_i cs hcs
    split at hr
    · rename_i hpos
      obtain ⟨hn, hr⟩ := alloc1_inv hr
      cases hr
      obtain ⟨l1, l2⟩ := (hT.ev x).cells hcs
      refine ⟨.pointer (some ⟨w.heap.size, 0, none⟩), w.alloc (.cells (a.eval x).cells t), ⟨⟨rfl, rfl, rfl⟩, .inl ?_⟩, hs.var hn hpos t l1 l2⟩
      simp only [execOp, ho, Instr.box, Sem.run_bind, Result.andThen_ok, newVar, newRow, run_newObj, Sem.run_pure]; rfl
    · exact (run_fail hr).elim
  · exact (run_fail hr).elim

theorem makeFunc_ok {X : Cx} (hs : SR D Γ σ w.heap) {T : List V} {a : Act} (hT : TR D Γ w.heap T a.tmps) {nid : Nat} {o : Oper} {f : Nat} {first captured : Array Operand} (ho : o.op = .makeFunc (.func f) first captured) : OpOK P D Γ σ w X T a nid o := by
  intro v ws hr
  simp only [op1, ho] at hr
  split at hr
  · rename_i h0
    obtain ⟨h0, hall⟩ := h0
    cases run_done hr
    have hleaf : ∀ x ∈ captured, ∀ v, VR D Γ w.heap (ev T x) v → LR D Γ w.heap (ev T x) v := by
      intro x hx v hv
      have hl := List.all_eq_true.1 hall x (Array.mem_toList_iff.2 hx)
      generalize ev T x = c at hl hv
      cases hv with
      | one hv => cases hv with
        | any => simp [isLeaf] at hl
        | leaf hv => exact hv
        | agg => simp [isLeaf] at hl
      | tup => simp [isLeaf] at hl
    have : first = #[] := Array.eq_empty_of_size_eq_zero h0
    subst this
    refine still (x := .func (.func f) #[] (captured.map a.eval)) (by simp [execOp, ho, Instr.makeFunc]) hs (.one (.leaf (.fn _ (by simp) fun k c v h1 h2 => ?_)))
    simp only [List.getElem?_map, Array.getElem?_toList, Array.getElem?_map] at h1 h2
    cases hq : captured[k]? with
    | none => rw [hq] at h1; simp at h1
    | some y =>
      rw [hq] at h1 h2
      simp only [Option.map_some, Option.some.injEq] at h1 h2
      subst h1; subst h2
      exact hleaf y (Array.mem_of_getElem? hq) _ (hT.ev y)
  · exact (run_fail hr).elim

/-- What lies in an array behind some cells of it were written. -/
theorem fold_get (off : Nat) : ∀ (vs : List Value) (j : Nat) (arr : Array Value) (k : Nat), off + j + vs.length ≤ arr.size →
    ((vs.zipIdx j).foldl (fun cs (p : Value × Nat) => cs.setIfInBounds (off + p.2) p.1) arr)[k]? = if off + j ≤ k ∧ k < off + j + vs.length then vs[k - (off + j)]? else arr[k]?
  | [], j, arr, k, h => by simp; intro h1 h2; omega
  | v :: vs, j, arr, k, h => by
    simp only [List.zipIdx_cons, List.foldl_cons, List.length_cons] at h ⊢
    rw [fold_get off vs (j + 1) _ k (by simp; omega)]
    by_cases h1 : off + (j + 1) ≤ k ∧ k < off + (j + 1) + vs.length
    · rw [if_pos h1, if_pos (by omega)]
      rw [show k - (off + j) = (k - (off + (j + 1))) + 1 by omega, List.getElem?_cons_succ]
    · rw [if_neg h1]
      by_cases h2 : k = off + j
      · subst h2
        rw [if_pos (by omega), Nat.sub_self, List.getElem?_cons_zero, Array.getElem?_setIfInBounds]
        simp; omega
      · rw [if_neg (by omega), Array.getElem?_setIfInBounds_ne (by omega)]

theorem fold_size (off : Nat) : ∀ (vs : List Value) (j : Nat) (arr : Array Value), ((vs.zipIdx j).foldl (fun cs (p : Value × Nat) => cs.setIfInBounds (off + p.2) p.1) arr).size = arr.size
  | [], j, arr => rfl
  | v :: vs, j, arr => by simp only [List.zipIdx_cons, List.foldl_cons]; rw [fold_size off vs]; simp

theorem fold_cells (off : Nat) (v : Value) (arr : Array Value) : v.cells.zipIdx.foldl (fun cs (p : Value × Nat) => cs.setIfInBounds (off + p.2) p.1) arr = (v.cells.toList.zipIdx 0).foldl (fun cs (p : Value × Nat) => cs.setIfInBounds (off + p.2) p.1) arr := by
  rw [← Array.foldl_toList, Array.toList_zipIdx]

theorem fill_ok {H : Array Obj} {place : Nat → Option (Nat × Nat)} : ∀ {ps : List (Nat × V)} {cs cs' : List V} {arr : Array Value} {qs : List (Nat × Value)}, fillV place cs ps = some cs' → arr.size = cs.length →
    (∀ (k : Nat) (c : V) (v : Value), cs[k]? = some c → arr[k]? = some v → LR D Γ H c v) → ps.length = qs.length → (∀ (k i j : Nat) (c : V) (v : Value), ps[k]? = some (i, c) → qs[k]? = some (j, v) → i = j ∧ VR D Γ H c v) →
    ∃ arr', Instr.fill place arr qs = some arr' ∧ arr'.size = cs'.length ∧ ∀ (k : Nat) (c : V) (v : Value), cs'[k]? = some c → arr'[k]? = some v → LR D Γ H c v
  | [], cs, cs', arr, qs, h, hl, hh, hq, hv => by
    simp only [fillV, Option.some.injEq] at h
    subst h
    have : qs = [] := List.eq_nil_of_length_eq_zero (by simpa using hq.symm)
    subst this
    exact ⟨arr, rfl, hl, hh⟩
  | (i, c) :: ps, cs, cs', arr, qs, h, hl, hh, hq, hv => by
    cases qs with
    | nil => simp at hq
    | cons q qs =>
      obtain ⟨j, v⟩ := q
      obtain ⟨rfl, hcv⟩ := hv 0 i j c v rfl rfl
      simp only [fillV] at h
      split at h
      · rename_i off size vc hp hc
        split at h
        · rename_i hle
          obtain ⟨l1, l2⟩ := hcv.cells hc
          simp only [Instr.fill, hp]
          rw [if_neg (by simp only [ne_eq, Bool.or_eq_true, decide_eq_true_eq, not_or]; exact ⟨fun hn => hn (by omega), by omega⟩), fold_cells]
          refine fill_ok h (by rw [fold_size, splice_len (by omega), hl]) (fun k c' u h1 h2 => ?_) (by simpa using hq) (fun k i j c v h1 h2 => hv (k + 1) i j c v (by simpa using h1) (by simpa using h2))
          rw [splice_get (by omega)] at h1
          rw [fold_get _ _ _ _ _ (by simp; omega)] at h2
          simp only [Nat.add_zero, Array.length_toList] at h2
          split at h1
          · rw [if_neg (by omega)] at h2; exact hh k c' u h1 h2
          · split at h1
            · rw [if_pos (by omega), Array.getElem?_toList] at h2
              exact l2 _ _ _ h1 h2
            · rw [if_neg (by omega)] at h2; exact hh k c' u h1 h2
        · cases h
      · cases h

theorem parts_ok {T : List V} {a : Act} (hT : TR D Γ w.heap T a.tmps) (ps : Array (Nat × Operand)) :
    (parts? T ps).length = (ps.map fun (i, x) => (i, a.eval x)).toList.length ∧ ∀ (k i j : Nat) (c : V) (v : Value), (parts? T ps)[k]? = some (i, c) → (ps.map fun (i, x) => (i, a.eval x)).toList[k]? = some (j, v) → i = j ∧ VR D Γ w.heap c v := by
  refine ⟨by simp [parts?], fun k i j c v h1 h2 => ?_⟩
  simp only [parts?, List.getElem?_map, Array.toList_map, Array.getElem?_toList] at h1 h2
  cases hq : ps[k]? with
  | none => rw [hq] at h1; simp at h1
  | some p =>
    rw [hq] at h1 h2
    simp only [Option.map_some, Option.some.injEq, Prod.mk.injEq] at h1 h2
    obtain ⟨rfl, rfl⟩ := h1
    obtain ⟨rfl, rfl⟩ := h2
    exact ⟨rfl, hT.ev _⟩

theorem run_mapM {α β : Type} (f : α → Sem β) (g : α → β) (w : World) : ∀ (l : List α), (∀ x ∈ l, (f x).run P w = .ok (g x) w) → (l.mapM f).run P w = .ok (l.map g) w
  | [], _ => by simp
  | x :: l, h => by
    rw [List.mapM_cons, Sem.run_bind, h x (by simp), Result.andThen_ok, Sem.run_bind, run_mapM f g w l (fun y hy => h y (by simp [hy]))]
    rfl

theorem build_ok {X : Cx} (hX : X.OK P) (hs : SR D Γ σ w.heap) {T : List V} {a : Act} (hT : TR D Γ w.heap T a.tmps) {nid : Nat} {o : Oper} {t : Nat} {ps : Array (Nat × Operand)} (ho : o.op = .build t ps) : OpOK P D Γ σ w X T a nid o := by
  intro v ws hr
  simp only [op1, ho] at hr
  split at hr
  · rename_i ti hti
    split at hr
    · rename_i hpl
      split at hr
      · rename_i cs hf
        cases run_done hr
        obtain ⟨i, d, z, hi, hd, hz, hzl, hsz, hb, hk⟩ := tiOf_some (hX.ty _ _ hti)
        obtain ⟨l1, l2⟩ := leafs_ok (Γ := Γ) (H := w.heap) hzl
        obtain ⟨p1, p2⟩ := parts_ok hT ps
        cases d with
        | struct fs =>
          rw [← hk] at hpl hf
          simp only [kindOf, placesOK, List.all_eq_true] at hpl
          have hsome : ∀ f ∈ fs.toList, ∃ ti, X.ty f.type = some ti := by
            intro f hf'
            have := hpl (f.offset, f.type) (List.mem_map.2 ⟨f, hf', rfl⟩)
            exact Option.isSome_iff_exists.1 this
          let g : Field → Nat × Nat := fun f => (f.offset, ((X.ty f.type).map (·.size)).getD 0)
          have hrun : (fs.mapM fun f => do pure (f.offset, ← sizeOf f.type) : Sem (Array (Nat × Nat))).run P w = .ok (fs.toList.map g).toArray w := by
            rw [Array.mapM_eq_mapM_toList, Sem.run_map, run_mapM _ g w fs.toList]
            · rfl
            · intro f hf'
              obtain ⟨tf, htf⟩ := hsome f hf'
              obtain ⟨i', d', z', hi', _, _, _, hsz', _⟩ := tiOf_some (hX.ty _ _ htf)
              simp [run_sizeOf hi', g, htf, hsz']
          have hplace : ∀ i : Nat, VM.places X (kindOf (.struct fs)) i = (fs.toList.map g).toArray[i]? := by
            intro i
            simp only [VM.places, kindOf, List.getElem?_map, List.getElem?_toArray]
            cases hq : fs.toList[i]? with
            | none => rfl
            | some f =>
              obtain ⟨tf, htf⟩ := hsome f (List.mem_of_getElem? hq)
              simp [g, htf]
          have hfun : VM.places X (kindOf (.struct fs)) = fun i => (fs.toList.map g).toArray[i]? := funext hplace
          rw [hfun] at hf
          obtain ⟨arr', f1, f2, f3⟩ := fill_ok hf l1 (fun k c v h1 h2 => .pr (l2 k c v h1 h2)) p1 p2
          exact still (x := .agg arr') (by simp only [execOp, ho, Instr.build, Sem.run_bind, run_zeroValue hi hz, Result.andThen_ok, run_und hd, hrun, f1, Sem.run_pure]) hs (.one (.agg arr' f2 f3))
        | array n e =>
          rw [← hk] at hpl hf
          simp only [kindOf, placesOK] at hpl
          obtain ⟨te, hte⟩ := Option.isSome_iff_exists.1 hpl
          obtain ⟨i', d', z', hi', _, _, _, hsz', _⟩ := tiOf_some (hX.ty _ _ hte)
          have hfun : VM.places X (kindOf (.array n e)) = fun i => some (i * i'.size, i'.size) := by
            funext i; simp [VM.places, kindOf, hte, hsz']
          rw [hfun] at hf
          obtain ⟨arr', f1, f2, f3⟩ := fill_ok hf l1 (fun k c v h1 h2 => .pr (l2 k c v h1 h2)) p1 p2
          exact still (x := .agg arr') (by simp only [execOp, ho, Instr.build, Sem.run_bind, run_zeroValue hi hz, Result.andThen_ok, run_und hd, run_sizeOf hi', f1, Sem.run_pure]) hs (.one (.agg arr' f2 f3))
        | _ => rw [← hk] at hpl; simp [kindOf, placesOK] at hpl
      · exact (run_fail hr).elim
    · exact (run_fail hr).elim
  · exact (run_fail hr).elim
end
end Go.VM
