/- The machine over plain values as a tree of its decisions: operations, regions, bodies. No condition beyond those stated. -/
import Derived.Test.YtifalphladcdcaaGreatVmAM
set_option linter.unusedVariables false
set_option linter.unusedSimpArgs false
namespace Go.VM

/-- A call, what is handed over being known. -/
def callK (C : Oracle) (g nid n : Nat) (s : Imp) (a : List V) (obs : List Ob) : M := match C g a obs with
  | none => .fail
  | some (r, σ') =>
    if obs.length ≤ σ'.length ∧ σ'.length ≤ obs.length + n ∧ s.ids.length = obs.length ∧ s.ids.all (fun id => s.sn.all (·.1 != id)) then
      let ids := s.ids ++ (List.range (σ'.length - obs.length)).map (nid + ·)
      virs nid (σ'.length - obs.length) fun ok =>
      if ok then .done (renV (fun k => ids[k]?) r)
        (if s.ids.isEmpty && scalar r && σ'.isEmpty then [] else s.sn ++ ids.zip (σ'.map (renOb fun k => ids[k]?)))
      else .fail
    else .fail

theorem callM_eq (C : Oracle) (rw' : Nat → Bool) (g : Nat) (args : List V) (nid n : Nat) : callM C rw' g args nid n = impArgs rw' 0 ⟨[], []⟩ args fun s a => impObs 40 0 s fun s' obs => callK C g nid n s' a obs := rfl

theorem callK_probe {C : Oracle} {g nid n : Nat} {s : Imp} {a : List V} {σ : Store} {x : V} {ws : List (Nat × Ob)} {r : V × Store} (h : (obsM s a).run σ = some (x, ws)) (hr : C g a (ws.map (·.2)) = some r) :
    (impObs 40 0 s fun s' obs => callK C g nid n s' a obs).run σ = (impObs 40 0 s fun s' obs => callK (fun _ _ _ => some r) g nid n s' a obs).run σ ∧
    (impObs 40 0 s fun s' obs => callK C g nid n s' a obs).reads σ = (impObs 40 0 s fun s' obs => callK (fun _ _ _ => some r) g nid n s' a obs).reads σ := by
  rcases thr_impObs σ 40 0 s with key | ⟨s1, obs, pre, key⟩
  · rw [show (obsM s a).run σ = none from key _] at h; cases h
  · have e := (key fun _ obs => .done (.tup a) (obs.map fun o => (0, o))).1
    rw [show (obsM s a).run σ = _ from e] at h
    simp only [M.run, Option.some.injEq, Prod.mk.injEq] at h
    obtain ⟨rfl, rfl⟩ := h
    simp only [List.map_map, Function.comp_def, List.map_id'] at hr
    have k1 := key fun s' obs => callK C g nid n s' a obs
    have k2 := key fun s' obs => callK (fun _ _ _ => some r) g nid n s' a obs
    have hz : callK C g nid n s1 a obs = callK (fun _ _ _ => some r) g nid n s1 a obs := by simp only [callK, hr]
    rw [hz] at k1
    exact ⟨by rw [k1.1, k2.1], by rw [k1.2, k2.2]⟩

/-- A call as a tree. -/
def callOpT (C : Oracle) (rw' : Nat → Bool) (g : Nat) (args : List V) (nid n : Nat) (σ : Store) : DT Ans :=
  (impArgsT σ rw' 0 ⟨[], []⟩ args).bind fun x => match (obsM x.1 x.2.1).run σ with
    | some (_, ws) => .ask (C g x.2.1 (ws.map (·.2))) fun r => (ofM (impObs 40 0 x.1 fun s' obs => callK (fun _ _ _ => some r) g nid n s' x.2.1 obs) σ).bind fun y => .ret (y.1, y.2.1, x.2.2 ++ y.2.2)
    | none => .none

theorem callOpT_run {C : Oracle} {rw' : Nat → Bool} {g : Nat} {args : List V} {nid n : Nat} {σ : Store} {r : Ans} (h : (callOpT C rw' g args nid n σ).run = some r) : full (callM C rw' g args nid n) σ = some r := by
  unfold callOpT at h
  rw [DT.run_bind] at h
  cases hd : (impArgsT σ rw' 0 ⟨[], []⟩ args).run with
  | none => rw [hd] at h; cases h
  | some x =>
    obtain ⟨s, a, pre⟩ := x
    rw [hd] at h
    simp only [Option.bind_some] at h
    have e := says_impArgs σ rw' args 0 ⟨[], []⟩ _ _ _ hd fun s a => impObs 40 0 s fun s' obs => callK C g nid n s' a obs
    cases ho : (obsM s a).run σ with
    | none => rw [ho] at h; simp [DT.run] at h
    | some y =>
      obtain ⟨v, ws⟩ := y
      rw [ho] at h
      cases hr : C g a (ws.map (·.2)) with
      | none => simp only [hr, DT.run] at h; cases h
      | some r' =>
        simp only [hr, DT.run] at h
        rw [DT.run_bind, ofM_run] at h
        have k := callK_probe (nid := nid) (n := n) ho hr
        unfold full at h ⊢
        rw [callM_eq, e.1, e.2, k.1, k.2]
        cases hz : (impObs 40 0 s fun s' obs => callK (fun _ _ _ => some r') g nid n s' a obs).run σ with
        | none => rw [hz] at h; cases h
        | some q =>
          rw [hz] at h
          simpa [DT.run] using h

/-- A row's elements, and whether the cut fits it. -/
def elemsT (sz : Nat) (v : V) (σ : Store) : DT (List (List V) × List Nat) := match v with
  | .hs id off len => match σ[id]? with
    | some (.cells _ true sz' xs) => match decide (sz' = sz) with
      | true => .test (decide (off + len ≤ xs.length)) (.ret ((xs.drop off).take len, [id])) .none
      | false => .none
    | _ => .none
  | .list sz' xs => match decide (sz' = sz) with
    | true => .ret (xs, [])
    | false => .none
  | .nilS | .emp | .ne => .ret ([], [])
  | _ => .none

theorem elemsT_run {sz : Nat} {v : V} {σ : Store} {xs : List (List V)} {pre : List Nat} (h : (elemsT sz v σ).run = some (xs, pre)) (k : List (List V) → M) :
    (elems sz v k).run σ = (k xs).run σ ∧ (elems sz v k).reads σ = pre ++ (k xs).reads σ := by
  unfold elemsT at h
  split at h
  · rename_i id off len
    split at h
    · rename_i own sz' ys ho
      split at h
      · rename_i hc
        simp only [DT.run] at h
        split at h
        · rename_i hb
          simp only [Option.some.injEq, Prod.mk.injEq] at h
          obtain ⟨rfl, rfl⟩ := h
          have hb' := And.intro (of_decide_eq_true hc) (of_decide_eq_true hb)
          constructor
          · simp only [elems, M.run, ho]; rw [if_pos hb']
          · simp only [elems, M.reads, ho]; rw [if_pos hb']; rfl
        · cases h
      · simp [DT.run] at h
    · simp [DT.run] at h
  · rename_i sz' ys
    split at h
    · rename_i hb
      simp only [DT.run, Option.some.injEq, Prod.mk.injEq] at h
      obtain ⟨rfl, rfl⟩ := h
      have hb' := of_decide_eq_true hb
      constructor
      · simp only [elems]; rw [if_pos hb']
      · simp only [elems]; rw [if_pos hb']; rfl
    · simp [DT.run] at h
  all_goals first
    | (simp only [DT.run, Option.some.injEq, Prod.mk.injEq] at h; obtain ⟨rfl, rfl⟩ := h; exact ⟨rfl, rfl⟩)
    | simp [DT.run] at h

/-- An append as a tree. -/
def appendT (ti : TI) (nid : Nat) (s x : V) (σ : Store) : DT Ans :=
  (elemsT ti.size x σ).bind fun e => match σ[nid]? with
    | some .vir => match s with
      | .nilS | .emp => match decide (0 < ti.size ∧ ti.zero.length = ti.size) with
        | false => .none
        | true => .test (decide (e.1.length * ti.bytes ≤ 2 ^ 47 ∧ e.1.length ≤ 2 ^ 47)) (.ret (.hs nid 0 e.1.length, [(nid, .cells true true ti.size e.1)], e.2 ++ [nid])) .none
      | .hs id off len => match σ[id]? with
        | some (.cells true true sz xs) => match decide (0 < ti.size ∧ ti.zero.length = ti.size ∧ sz = ti.size ∧ id ≠ nid) with
          | false => .none
          | true => .test (decide (off + len ≤ xs.length ∧ (len + e.1.length) * ti.bytes ≤ 2 ^ 47 ∧ len + e.1.length ≤ 2 ^ 47))
            (.ret (.hs nid 0 (len + e.1.length), [(id, .dead), (nid, .cells true true sz ((xs.drop off).take len ++ e.1))], e.2 ++ [nid, id])) .none
        | _ => .none
      | _ => .none
    | _ => .none

theorem appendT_run {ti : TI} {nid : Nat} {s x : V} {σ : Store} {r : Ans} (h : (appendT ti nid s x σ).run = some r) : full (appendM ti nid s x) σ = some r := by
  unfold appendT at h
  rw [DT.run_bind] at h
  cases hd : (elemsT ti.size x σ).run with
  | none => rw [hd] at h; cases h
  | some e =>
    obtain ⟨new, pre⟩ := e
    rw [hd] at h
    simp only [Option.bind_some] at h
    unfold full appendM
    rw [(elemsT_run hd _).1, (elemsT_run hd _).2]
    cases ho : σ[nid]? with
    | none => rw [ho] at h; simp [DT.run] at h
    | some o =>
      rw [ho] at h
      cases o with
      | vir =>
        simp only [M.run, M.reads, ho]
        simp only at h
        split at h
        · split at h
          · simp [DT.run] at h
          · rename_i hc
            have hc := of_decide_eq_true hc
            simp only [DT.run] at h
            split at h
            · rename_i hb; have hb := of_decide_eq_true hb; rw [if_pos ⟨hc.1, hc.2, hb.1, hb.2⟩]; simpa [M.run, M.reads] using h
            · cases h
        · split at h
          · simp [DT.run] at h
          · rename_i hc
            have hc := of_decide_eq_true hc
            simp only [DT.run] at h
            split at h
            · rename_i hb; have hb := of_decide_eq_true hb; rw [if_pos ⟨hc.1, hc.2, hb.1, hb.2⟩]; simpa [M.run, M.reads] using h
            · cases h
        · rename_i id off len
          split at h
          · rename_i sz xs hid
            split at h
            · simp [DT.run] at h
            · rename_i hc
              have hc := of_decide_eq_true hc
              simp only [DT.run] at h
              split at h
              · rename_i hb
                have hb := of_decide_eq_true hb
                simp only [M.run, M.reads, hid]
                rw [if_pos ⟨hc.1, hc.2.1, hc.2.2.1, hb.1, hb.2.1, hb.2.2, hc.2.2.2⟩]
                simpa [M.run, M.reads] using h
              · cases h
          · simp [DT.run] at h
        · simp [DT.run] at h
      | dead => simp [DT.run] at h
      | cells a b c d => simp [DT.run] at h

/-! ### What is laid into a row that may be read as a list -/
def SaysP {α : Type} (σ : Store) (d : DT (α × List (Nat × Ob) × List Nat)) (F : (α → List (Nat × Ob) → M) → M) : Prop :=
  ∀ a ws pre, d.run = some (a, ws, pre) → ∀ k, (F k).run σ = (k a ws).run σ ∧ (F k).reads σ = pre ++ (k a ws).reads σ
def purLeafT (σ : Store) (c : V) : DT (V × List (Nat × Ob) × List Nat) := match c with
  | .hs id off len => match σ[id]? with
    | some (.cells own true sz xs) => .test (decide (off + len ≤ xs.length)) (.ret (.list sz ((xs.drop off).take len), (if own then [(id, .cells false true sz xs)] else []), [id])) .none
    | _ => .none
  | .ptr .. | .agg _ | .tup _ => .none
  | .fn _ (_ :: _) => .none
  | c => .ret (c, [], [])
theorem saysP_leaf (σ : Store) (c : V) : SaysP σ (purLeafT σ c) (purLeaf c) := by
  intro a ws pre h k
  cases c with
  | hs id off len =>
    simp only [purLeafT] at h
    split at h
    · rename_i own sz xs ho
      simp only [DT.run] at h
      split at h
      · rename_i hb
        simp only [Option.some.injEq, Prod.mk.injEq] at h
        obtain ⟨rfl, rfl, rfl⟩ := h
        have hb' := of_decide_eq_true hb
        simp only [purLeaf, M.run, M.reads, ho, if_pos hb']
        exact ⟨trivial, rfl⟩
      · cases h
    · simp [DT.run] at h
  | ptr a b c => simp [purLeafT, DT.run] at h
  | agg cs => simp [purLeafT, DT.run] at h
  | tup cs => simp [purLeafT, DT.run] at h
  | fn f cs => cases cs with
    | nil => simp only [purLeafT, DT.run, Option.some.injEq, Prod.mk.injEq] at h; obtain ⟨rfl, rfl, rfl⟩ := h; exact ⟨rfl, rfl⟩
    | cons c cs => simp [purLeafT, DT.run] at h
  | _ => simp only [purLeafT, DT.run, Option.some.injEq, Prod.mk.injEq] at h; obtain ⟨rfl, rfl, rfl⟩ := h; exact ⟨rfl, rfl⟩
def purT (σ : Store) : List V → DT (List V × List (Nat × Ob) × List Nat)
  | [] => .ret ([], [], [])
  | c :: cs => (purLeafT σ c).bind fun x => (purT σ cs).bind fun y => .ret (x.1 :: y.1, x.2.1 ++ y.2.1, x.2.2 ++ y.2.2)
theorem saysP_pur (σ : Store) : ∀ (cs : List V), SaysP σ (purT σ cs) (pur cs)
  | [] => by
    intro a ws pre h k
    simp only [purT, DT.run, Option.some.injEq, Prod.mk.injEq] at h
    obtain ⟨rfl, rfl, rfl⟩ := h
    exact ⟨rfl, rfl⟩
  | c :: cs => by
    intro a ws pre h k
    simp only [purT, DT.run_bind] at h
    cases h1 : (purLeafT σ c).run with
    | none => rw [h1] at h; cases h
    | some x =>
      rw [h1] at h
      simp only [Option.bind_some] at h
      cases h2 : (purT σ cs).run with
      | none => rw [h2] at h; cases h
      | some y =>
        rw [h2] at h
        simp only [Option.bind_some, DT.run, Option.some.injEq, Prod.mk.injEq] at h
        obtain ⟨rfl, rfl, rfl⟩ := h
        have e1 := saysP_leaf σ c _ _ _ h1 fun c' ws => pur cs fun cs' ws' => k (c' :: cs') (ws ++ ws')
        have e2 := saysP_pur σ cs _ _ _ h2 fun cs' ws' => k (x.1 :: cs') (x.2.1 ++ ws')
        simp only [pur]
        exact ⟨by rw [e1.1, e2.1], by rw [e1.2, e2.2, List.append_assoc]⟩
def setElemsT (wz : List V) (σ : Store) (sz : Nat) : List (List V) → List (Nat × V) → DT (List (List V) × List (Nat × Ob) × List Nat)
  | xs, [] => .ret (xs, [], [])
  | xs, (i, v) :: rest => match cellsOf v with
    | some vc => match decide (vc.length = sz ∧ i < xs.length) with
      | true => (purT σ vc).bind fun x => (setElemsT wz σ sz (xs.set i (wid wz x.1)) rest).bind fun y => .ret (y.1, x.2.1 ++ y.2.1, x.2.2 ++ y.2.2)
      | false => .none
    | none => .none
theorem saysP_setElems (wz : List V) (σ : Store) (sz : Nat) : ∀ (ps : List (Nat × V)) (xs : List (List V)), SaysP σ (setElemsT wz σ sz xs ps) (setElems wz sz xs ps)
  | [], xs => by
    intro a ws pre h k
    simp only [setElemsT, DT.run, Option.some.injEq, Prod.mk.injEq] at h
    obtain ⟨rfl, rfl, rfl⟩ := h
    exact ⟨rfl, rfl⟩
  | (i, v) :: rest, xs => by
    intro a ws pre h k
    simp only [setElemsT] at h
    split at h
    · rename_i vc hv
      split at h
      · rename_i hc
        have hc' := of_decide_eq_true hc
        rw [DT.run_bind] at h
        cases h1 : (purT σ vc).run with
        | none => rw [h1] at h; cases h
        | some x =>
          rw [h1] at h
          simp only [Option.bind_some, DT.run_bind] at h
          cases h2 : (setElemsT wz σ sz (xs.set i (wid wz x.1)) rest).run with
          | none => rw [h2] at h; cases h
          | some y =>
            rw [h2] at h
            simp only [Option.bind_some, DT.run, Option.some.injEq, Prod.mk.injEq] at h
            obtain ⟨rfl, rfl, rfl⟩ := h
            have e1 := saysP_pur σ vc _ _ _ h1 fun vc' ws => setElems wz sz (xs.set i (wid wz vc')) rest fun xs' ws' => k xs' (ws ++ ws')
            have e2 := saysP_setElems wz σ sz rest (xs.set i (wid wz x.1)) _ _ _ h2 fun xs' ws' => k xs' (x.2.1 ++ ws')
            simp only [setElems, hv, if_pos hc']
            exact ⟨by rw [e1.1, e2.1], by rw [e1.2, e2.2, List.append_assoc]⟩
      · simp [DT.run] at h
    · simp [DT.run] at h

/-- The ends of a cut, before it is known whether they fit. -/
def boundsT? (len : Nat) (lo hi : Option V) : Option (Int × Int) := match (match hi with | some v => intOf? v | none => some (len : Int)), (match lo with | some v => intOf? v | none => some 0) with
  | some h, some l => some (l, h)
  | _, _ => none

theorem boundsT_ok {len : Nat} {lo hi : Option V} {l h : Int} (hb : boundsT? len lo hi = some (l, h)) (hl : 0 ≤ l ∧ l ≤ h ∧ h ≤ len) : bounds? len lo hi = some (l.toNat, h.toNat) := by
  have go : ∀ (a b : Option Int), (match a, b with | some h, some l => some (l, h) | _, _ => none) = some (l, h) → a = some h ∧ b = some l := by
    intro a b hab
    cases a with
    | none => cases hab
    | some a => cases b with
      | none => cases hab
      | some b => cases hab; exact ⟨rfl, rfl⟩
  obtain ⟨h1, h2⟩ := go _ _ hb
  unfold bounds?
  split
  · rename_i x y e1 e2
    have e1' := h1.symm.trans e1
    have e2' := h2.symm.trans e2
    cases e1'; cases e2'
    rw [if_pos hl]
  · rename_i hn
    exact absurd h2 (hn _ _ h1)

def opT (P : Program) (X : Cx) (C : Oracle) (T : List V) (nid : Nat) (o : Oper) (σ : Store) : DT Ans :=
  match o.op with
  | .pick c a b => match ev T c with
    | .bool t => .test t (.ret (ev T a, [], [])) (.ret (ev T b, [], []))
    | _ => .none
  | .indexAddr t x ix => match X.ty t, ev T x, ev T ix with
    | some { kind := .slice e, .. }, .list sz xs, .int _ i => match X.ty e with
      | some te => match decide (sz = te.size ∧ 0 < te.size) with
        | true => .test (decide (0 ≤ i)) (.look (sz * 100000 + e) xs[i.toNat]? fun x => .ret (.pp x, [], [])) .none
        | false => .none
      | none => .none
    | some { kind := .slice e, .. }, .hs id off len, .int _ i => match X.ty e, σ[id]? with
      | some te, some (.cells _ _ sz _) => match decide (sz = te.size ∧ 0 < te.size) with
        | true => .test (decide (0 ≤ i ∧ i < len)) (.ret (.ptr id (off + i.toNat) 0, [], [id])) .none
        | false => .none
      | _, _ => .none
    | _, _, _ => ofM (opM P X C T nid o) σ
  | .load t a => match X.ty t, ev T a with
    | some ti, .ptr id i off => match σ[id]? with
      | some (.cells _ _ sz xs) => .look (sz * 100000 + t) xs[i]? fun x => match partV ti x off with
        | some v => .ret (v, [], [id])
        | none => .none
      | _ => .none
    | _, _ => ofM (opM P X C T nid o) σ
  | .store t a v => match X.ty t, ev T a, cellsOf (ev T v) with
    | some ti, .ptr id i off, some vc => match σ[id]? with
      | some (.cells true true sz xs) => .look (sz * 100000 + t) xs[i]? fun x => match decide (vc.length = ti.size ∧ off + ti.size ≤ x.length) with
        | true => (purT σ vc).bind fun y => match y.2.1.any (·.1 == id) with
          | true => .none
          | false => .ret (.undef, y.2.1 ++ [(id, .cells true true sz (xs.set i (splice x off (wid (X.wz t) y.1))))], id :: y.2.2)
        | false => .none
      | some (.cells true false sz xs) => .look (sz * 100000 + t) xs[i]? fun x => match decide (vc.length = ti.size ∧ off + ti.size ≤ x.length) with
        | true => .ret (.undef, [(id, .cells true false sz (xs.set i (splice x off vc)))], [id])
        | false => .none
      | _ => .none
    | _, _, _ => .none
  | .buildSlice t len ps => match X.ty t with
    | some { kind := .slice e, .. } => match X.ty e with
      | some te => match decide (len * te.size ≤ 2 ^ 24 ∧ te.zero.length = te.size ∧ 0 < te.size) with
        | true => (setElemsT (X.wz e) σ te.size (List.replicate len (wid (X.wz e) te.zero)) (parts? T ps)).bind fun y => match σ[nid]? with
          | some .vir => .ret (.hs nid 0 len, y.2.1 ++ [(nid, .cells true true te.size y.1)], y.2.2 ++ [nid])
          | _ => .none
        | false => .none
      | none => .none
    | _ => .none
  | .makeSlice t l c => match X.ty t, ev T l, ev T c with
    | some { kind := .slice e, .. }, .int .i64 n, .int .i64 m => match X.ty e, σ[nid]? with
      | some te, some .vir => match decide (te.zero.length = te.size ∧ 0 < te.size) with
        | true => .test (decide (0 ≤ n ∧ n ≤ m ∧ m ≤ 2 ^ 47 ∧ m * te.bytes ≤ 2 ^ 47))
          (.ret (.hs nid 0 n.toNat, [(nid, .cells true true te.size (List.replicate n.toNat (wid (X.wz e) te.zero)))], [nid])) .none
        | false => .none
      | _, _ => .none
    | _, _, _ => .none
  | .slice t x lo hi none => match X.ty t with
    | some { kind := .slice e, .. } => match X.ty e, ev T x with
      | some te, .hs id off len => match boundsT? len (lo.map (ev T)) (hi.map (ev T)), σ[id]? with
        | some (l, h), some (.cells _ _ sz _) => match decide (sz = te.size) with
          | true => .test (decide (0 ≤ l ∧ l ≤ h ∧ h ≤ len)) (.ret (.hs id (off + l.toNat) (h.toNat - l.toNat), [], [id])) .none
          | false => .none
        | _, _ => .none
      | some te, .list sz xs => match boundsT? xs.length (lo.map (ev T)) (hi.map (ev T)) with
        | some (l, h) => match decide (sz = te.size) with
          | true => .test (decide (0 ≤ l ∧ l ≤ h ∧ h ≤ xs.length)) (.ret (.list sz ((xs.drop l.toNat).take (h.toNat - l.toNat)), [], [])) .none
          | false => .none
        | _ => .none
      | _, _ => ofM (opM P X C T nid o) σ
    | _ => .none
  | .binOp op t x y s => match op, ev T x, ev T y with
    | .shl, .int k a, .int _ b => .test (decide (b < 0)) .none (.ret (.int k (k.wrap (a * 2 ^ (min b.toNat k.bits))), [], []))
    | .shr, .int k a, .int _ b => .test (decide (b < 0)) .none (.ret (.int k (a.fdiv (2 ^ (min b.toNat k.bits))), [], []))
    | .quo, .int k a, .int k' b => if k = k' then .test (decide (b = 0)) .none (.ret (.int k (k.wrap (a.tdiv b)), [], [])) else .none
    | .rem, .int k a, .int k' b => if k = k' then .test (decide (b = 0)) .none (.ret (.int k (a.tmod b), [], [])) else .none
    | .eql, .list _ xs, .nilS => match X.ty t with
      | some { kind := .slice _, .. } => .test (decide (0 < xs.length)) (.ret (.bool false, [], [])) .none
      | _ => .none
    | .neq, .list _ xs, .nilS => match X.ty t with
      | some { kind := .slice _, .. } => .test (decide (0 < xs.length)) (.ret (.bool true, [], [])) .none
      | _ => .none
    | _, _, _ => ofM (opM P X C T nid o) σ
  | .call { callee := .value f, args, .. } => match ev T f with
    | .fn g caps => if (X.fn g).isSome then callOpT C (X.rw g) g (args.toList.map (ev T) ++ caps) nid (cnt X o) σ else .none
    | _ => .none
  | .call { callee := .builtin .append, args, argTypes, .. } => match args.toList, argTypes.toList with
    | [s, x], [t, t'] => match X.ty t, X.ty t' with
      | some { kind := .slice e, .. }, some { kind := .slice _, .. } => match X.ty e with
        | some te => appendT te nid (ev T s) (ev T x) σ
        | none => .none
      | _, _ => .none
    | _, _ => .none
  | .index t x ix => match ev T x, ev T ix with
    | .str s, .int _ i => (match P.underlying t with
      | some .string => (match X.ty t with
        | some { kind := .other, .. } => .test (decide (0 ≤ i ∧ i.toNat < s.size)) (.ret (.int .u8 (byteAt s i.toNat), [], [])) .none
        | _ => .none)
      | _ => .none)
    | _, _ => ofM (opM P X C T nid o) σ
  | _ => ofM (opM P X C T nid o) σ

theorem opT_run (P : Program) (X : Cx) (C : Oracle) (T : List V) (nid : Nat) (o : Oper) (σ : Store) {r : Ans} (h : (opT P X C T nid o σ).run = some r) : full (opM P X C T nid o) σ = some r := by
  unfold opT at h
  split at h
  · rename_i c a b ho
    unfold full opM op1
    rw [ho]
    simp only
    split at h
    · rename_i t hc
      simp only [hc]
      cases t <;> simp [DT.run] at h <;> subst h <;> simp [M.run, M.reads]
    · simp [DT.run] at h
  · rename_i t x ix ho
    split at h
    · rename_i e _ sz xs k i h1 h2 h3
      unfold full opM op1
      rw [ho]
      simp only [h1, h2, h3]
      split at h
      · rename_i te hte
        simp only [hte]
        split at h
        · rename_i hc
          simp only [DT.run] at h
          split at h
          · rename_i hb
            rw [if_pos ⟨of_decide_eq_true hb, of_decide_eq_true hc⟩]
            cases hy : xs[i.toNat]? with
            | some y =>
              simp only [hy, DT.run, Option.some.injEq] at h
              subst h
              rfl
            | none => simp [hy, DT.run] at h
          · cases h
        · simp [DT.run] at h
      · simp [DT.run] at h
    · rename_i e _ id off len k i h1 h2 h3
      unfold full opM op1
      rw [ho]
      simp only [h1, h2, h3]
      split at h
      · rename_i te own pure sz xs hte hid
        simp only [hte]
        split at h
        · rename_i hc
          have hc' := of_decide_eq_true hc
          simp only [DT.run] at h
          split at h
          · rename_i hb
            have hb' := of_decide_eq_true hb
            rw [if_pos ⟨hb'.1, hb'.2, hc'.2⟩]
            simp only [M.run, M.reads, hid, hc'.1, if_true]
            exact h
          · cases h
        · simp [DT.run] at h
      · simp [DT.run] at h
    · rw [ofM_run] at h; exact h
  · rename_i t a ho
    split at h
    · rename_i ti id i off h1 h2
      unfold full opM op1
      rw [ho]
      simp only [h1, h2]
      split at h
      · rename_i own pure sz xs hid
        simp only [M.run, M.reads, hid]
        cases hy : xs[i]? with
        | none => simp [hy, DT.run] at h
        | some y =>
          simp only [hy, DT.run] at h
          split at h
          · rename_i v hv
            simp only [hv, mDone, M.run, M.reads]
            exact h
          · simp [DT.run] at h
      · simp [DT.run] at h
    · rw [ofM_run] at h; exact h
  · rename_i t a v ho
    split at h
    · rename_i ti id i off vc h1 h2 h3
      unfold full opM op1
      rw [ho]
      simp only [h1, h2, h3]
      split at h
      · rename_i sz xs hid
        cases hy : xs[i]? with
        | none => simp [hy, DT.run] at h
        | some y =>
          simp only [hy, DT.run] at h
          split at h
          · rename_i hc
            have hc' := of_decide_eq_true hc
            rw [DT.run_bind] at h
            cases h5 : (purT σ vc).run with
            | none => rw [h5] at h; cases h
            | some q =>
              rw [h5] at h
              simp only [Option.bind_some] at h
              have e1 := saysP_pur σ vc _ _ _ h5 fun vc' ws => if ws.any (·.1 == id) then M.fail else M.done .undef (ws ++ [(id, .cells true true sz (xs.set i (splice y off (wid (X.wz t) vc'))))])
              split at h
              · simp [DT.run] at h
              · rename_i hz
                simp only [M.run, M.reads, hid, hy, if_pos hc', if_true]
                rw [e1.1, e1.2]
                simp only [hz, Bool.false_eq_true, if_false, M.run, M.reads, List.append_nil]
                simpa [DT.run] using h
          · simp [DT.run] at h
      · rename_i sz xs hid
        cases hy : xs[i]? with
        | none => simp [hy, DT.run] at h
        | some y =>
          simp only [hy, DT.run] at h
          split at h
          · rename_i hc
            have hc' := of_decide_eq_true hc
            simp only [M.run, M.reads, hid, hy, if_pos hc']
            exact h
          · simp [DT.run] at h
      · simp [DT.run] at h
    · simp [DT.run] at h
  · rename_i t len ps ho
    split at h
    · rename_i zz e h1
      split at h
      · rename_i te hte
        split at h
        · rename_i hc
          have hc' := of_decide_eq_true hc
          rw [DT.run_bind] at h
          cases h5 : (setElemsT (X.wz e) σ te.size (List.replicate len (wid (X.wz e) te.zero)) (parts? T ps)).run with
          | none => rw [h5] at h; cases h
          | some q =>
            rw [h5] at h
            simp only [Option.bind_some] at h
            split at h
            · rename_i hv
              have e1 := saysP_setElems (X.wz e) σ te.size (parts? T ps) (List.replicate len (wid (X.wz e) te.zero)) _ _ _ h5 fun xs ws => alloc1 nid (.hs nid 0 len) (.cells true true te.size xs) ws
              unfold full opM op1
              rw [ho]
              simp only [h1, hte, if_pos hc']
              rw [e1.1, e1.2]
              simp only [alloc1, M.run, M.reads, hv]
              simpa [DT.run] using h
            · simp [DT.run] at h
        · simp [DT.run] at h
      · simp [DT.run] at h
    · simp [DT.run] at h
  · rename_i t l c ho
    split at h
    · rename_i e _ n m h1 h2 h3
      unfold full opM op1
      rw [ho]
      simp only [h1, h2, h3]
      split at h
      · rename_i te hte hid
        simp only [hte]
        split at h
        · rename_i hc
          have hc' := of_decide_eq_true hc
          simp only [DT.run] at h
          split at h
          · rename_i hb
            have hb' := of_decide_eq_true hb
            rw [if_pos ⟨hb'.1, hb'.2.1, hb'.2.2.1, hb'.2.2.2, hc'.1, hc'.2⟩]
            simp only [alloc1, M.run, M.reads, hid]
            exact h
          · cases h
        · simp [DT.run] at h
      · simp [DT.run] at h
    · simp [DT.run] at h
  · rename_i t x lo hi ho
    split at h
    · rename_i e _ h1
      split at h
      · rename_i te id off len h2 h3
        split at h
        · rename_i l hh own pure sz xs hb hid
          split at h
          · rename_i hc
            have hc' := of_decide_eq_true hc
            simp only [DT.run] at h
            split at h
            · rename_i hd
              unfold full opM op1
              rw [ho]
              simp only [sliceM, h1, h2, h3, boundsT_ok hb (of_decide_eq_true hd), M.run, M.reads, hid, hc', if_true]
              exact h
            · cases h
          · simp [DT.run] at h
        · simp [DT.run] at h
      · rename_i te sz xs h2 h3
        split at h
        · rename_i l hh hb
          split at h
          · rename_i hc
            have hc' := of_decide_eq_true hc
            simp only [DT.run] at h
            split at h
            · rename_i hd
              unfold full opM op1
              rw [ho]
              subst hc'
              simp only [sliceM, h1, h2, h3, boundsT_ok hb (of_decide_eq_true hd), if_true, M.run, M.reads]
              exact h
            · cases h
          · simp [DT.run] at h
        · simp [DT.run] at h
      · rw [ofM_run] at h; exact h
    · simp [DT.run] at h
  · rename_i op t x y sh ho
    split at h
    · rename_i k a _ b h1 h2
      simp only [DT.run] at h
      split at h
      · cases h
      · rename_i hb
        have hb' : ¬ b < 0 := of_decide_eq_false hb
        unfold full opM op1
        rw [ho]
        simp only [h1, h2, bin, hb', if_false, M.run, M.reads]
        exact h
    · rename_i k a _ b h1 h2
      simp only [DT.run] at h
      split at h
      · cases h
      · rename_i hb
        have hb' : ¬ b < 0 := of_decide_eq_false hb
        unfold full opM op1
        rw [ho]
        simp only [h1, h2, bin, hb', if_false, M.run, M.reads]
        exact h
    · rename_i k a k' b h1 h2
      split at h
      · rename_i hk
        simp only [DT.run] at h
        split at h
        · cases h
        · rename_i hb
          have hb' : ¬ b = 0 := of_decide_eq_false hb
          unfold full opM op1
          rw [ho]
          simp only [h1, h2, bin, hk, if_true, hb', if_false, M.run, M.reads]
          subst hk
          exact h
      · simp [DT.run] at h
    · rename_i k a k' b h1 h2
      split at h
      · rename_i hk
        simp only [DT.run] at h
        split at h
        · cases h
        · rename_i hb
          have hb' : ¬ b = 0 := of_decide_eq_false hb
          unfold full opM op1
          rw [ho]
          simp only [h1, h2, bin, hk, if_true, hb', if_false, M.run, M.reads]
          subst hk
          exact h
      · simp [DT.run] at h
    · rename_i sz xs h1 h2
      split at h
      · rename_i e _ hty
        simp only [DT.run] at h
        split at h
        · rename_i hb
          have hb' := of_decide_eq_true hb
          cases xs with
          | nil => simp at hb'
          | cons a as =>
            unfold full opM op1
            rw [ho]
            simp only [h1, h2, bin, boEq, aggEq, reify, reLeaf, hty, isNilS, nilAns, M.run, M.reads]
            exact h
        · cases h
      · simp [DT.run] at h
    · rename_i sz xs h1 h2
      split at h
      · rename_i e _ hty
        simp only [DT.run] at h
        split at h
        · rename_i hb
          have hb' := of_decide_eq_true hb
          cases xs with
          | nil => simp at hb'
          | cons a as =>
            unfold full opM op1
            rw [ho]
            simp only [h1, h2, bin, boEq, aggEq, reify, reLeaf, hty, isNilS, nilAns, M.run, M.reads]
            exact h
        · cases h
      · simp [DT.run] at h
    · rw [ofM_run] at h; exact h
  · rename_i f args _ _ ho
    split at h
    · rename_i g caps hf
      split at h
      · rename_i hg
        unfold opM
        rw [ho]
        simp only [hf, hg, if_true]
        exact callOpT_run h
      · simp [DT.run] at h
    · simp [DT.run] at h
  · rename_i args argTypes _ ho
    split at h
    · rename_i s x t t' h1 h2
      split at h
      · rename_i e _ h3 h4
        split at h
        · rename_i te h5
          unfold full opM op1
          rw [ho]
          simp only [h1, h2, h3, h4, h5]
          have := appendT_run h
          unfold full at this
          exact this
        · simp [DT.run] at h
      · simp [DT.run] at h
    · simp [DT.run] at h
  · rename_i t x ix ho
    split at h
    · rename_i s k i h1 h2
      split at h
      · rename_i hu
        split at h
        · rename_i h3
          simp only [DT.run] at h
          split at h
          · rename_i hb
            unfold full opM op1
            rw [ho]
            simp only [h1, h2, h3, hu, if_pos (of_decide_eq_true hb), M.run, M.reads]
            simpa using h
          · cases h
        · simp [DT.run] at h
      · simp [DT.run] at h
    · rw [ofM_run] at h; exact h
  · rw [ofM_run] at h; exact h

/-- A list whose spine is laid out before it is handed on. -/
def forceL {α β : Type} : List α → (List α → β) → β
  | [], k => k []
  | x :: xs, k => forceL xs fun ys => k (x :: ys)
theorem forceL_eq {α β : Type} : ∀ (l : List α) (k : List α → β), forceL l k = k l
  | [], _ => rfl
  | _ :: xs, k => forceL_eq xs _

/-- A slot whose truth value is known by now. -/
def withG (s : S) (d : Nat) (b : Bool) : S := ⟨s.T.set d (.bool b), s.σ⟩
theorem withG_eq {s : S} {d : Nat} {b : Bool} (h : s.T[d]? = some (.bool b)) : withG s d b = s := by
  obtain ⟨T, σ⟩ := s
  unfold withG
  congr 1
  refine List.ext_getElem? fun i => ?_
  rw [List.getElem?_set]
  split
  · rename_i hi
    subst hi
    split
    · exact h.symm
    · rename_i hl
      exact (List.getElem?_eq_none (Nat.le_of_not_lt hl)).symm
  · rfl

def goOp (P : Program) (X : Cx) (C : Oracle) (i nid : Nat) (o : Oper) (s : S) : DT (S × Foot) :=
  (opT P X C s.T nid o s.σ).bind fun r => forceL (putV s.T o.dst r.1) fun T => .ret (⟨T, lay s.σ r.2.1⟩, ⟨i, r.2.2, r.2.1.map (·.1)⟩)
def noOp (i : Nat) (o : Oper) (s : S) : DT (S × Foot) := forceL (putV s.T o.dst (.tup [])) fun T => .ret (⟨T, s.σ⟩, ⟨i, [], []⟩)

def runOpT (P : Program) (X : Cx) (C : Oracle) (ops : List Oper) (i nid : Nat) (o : Oper) (s : S) : DT (S × Foot) :=
  match o.guard with
  | none => goOp P X C i nid o s
  | some (j, want) => match ops[j]? with
    | none => .none
    | some p => match p.dst with
      | none => .none
      | some d => match s.T[d]? with
        | some (.bool b) => match want with
          | true => .test b (goOp P X C i nid o (withG s d true)) (noOp i o (withG s d false))
          | false => .test b (noOp i o (withG s d true)) (goOp P X C i nid o (withG s d false))
        | some (.tup []) => noOp i o s
        | _ => .none

theorem runOpT_run (P : Program) (X : Cx) (C : Oracle) (ops : List Oper) (i nid : Nat) (o : Oper) (s : S) {r : S × Foot} (h : (runOpT P X C ops i nid o s).run = some r) : runOp P X C ops i nid o s = some r := by
  have hgo : ∀ {r}, (goOp P X C i nid o s).run = some r → wantV ops s.T o = some true → runOp P X C ops i nid o s = some r := by
    intro r h hw
    unfold goOp at h
    simp only [forceL_eq] at h
    rw [DT.run_bind] at h
    cases hd : (opT P X C s.T nid o s.σ).run with
    | none => rw [hd] at h; cases h
    | some q =>
      rw [hd] at h
      have hf := opT_run P X C s.T nid o s.σ hd
      unfold full at hf
      unfold runOp
      rw [hw]
      simp only
      split at hf
      · rename_i v ws hm
        cases hf
        simp only [Option.bind_some, DT.run, Option.some.injEq] at h
        subst h
        rw [hm]
      · cases hf
  have hno : ∀ {r}, (noOp i o s).run = some r → wantV ops s.T o = some false → runOp P X C ops i nid o s = some r := by
    intro r h hw
    unfold noOp at h
    simp only [forceL_eq] at h
    unfold runOp
    rw [hw]
    exact h
  unfold runOpT at h
  split at h
  · rename_i hg; exact hgo h (by unfold wantV; rw [hg])
  · rename_i j want hg
    split at h
    · simp [DT.run] at h
    · rename_i p hp
      split at h
      · simp [DT.run] at h
      · rename_i d hd
        split at h
        · rename_i b hb
          have hw : wantV ops s.T o = some (b == want) := by unfold wantV; rw [hg]; simp only [hp, hd, hb]
          cases want <;> cases b <;> simp only [DT.run, withG_eq hb] at h
          · exact hgo h hw
          · exact hno h hw
          · exact hno h hw
          · exact hgo h hw
        · rename_i hb
          exact hno h (by unfold wantV; rw [hg]; simp only [hp, hd, hb])
        · simp [DT.run] at h

def runSeqT (P : Program) (X : Cx) (C : Oracle) (ops : List Oper) : List (Nat × Nat × Oper) → S → List Foot → DT (S × List Foot)
  | [], s, acc => .ret (s, acc.reverse)
  | (i, nid, o) :: rest, s, acc => (runOpT P X C ops i nid o s).bind fun r => runSeqT P X C ops rest r.1 (r.2 :: acc)

theorem runSeqT_run (P : Program) (X : Cx) (C : Oracle) (ops : List Oper) : ∀ (l : List (Nat × Nat × Oper)) (s : S) (acc : List Foot) {r : S × List Foot}, (runSeqT P X C ops l s acc).run = some r →
    ∃ fs, runSeq P X C ops l s = some (r.1, fs) ∧ r.2 = acc.reverse ++ fs
  | [], s, acc, r, h => by
    simp only [runSeqT, DT.run, Option.some.injEq] at h
    subst h
    exact ⟨[], rfl, by simp⟩
  | (i, nid, o) :: rest, s, acc, r, h => by
    simp only [runSeqT, DT.run_bind] at h
    cases hd : (runOpT P X C ops i nid o s).run with
    | none => rw [hd] at h; cases h
    | some q =>
      rw [hd] at h
      obtain ⟨fs, h1, h2⟩ := runSeqT_run P X C ops rest q.1 (q.2 :: acc) h
      refine ⟨q.2 :: fs, ?_, by simp [h2]⟩
      obtain ⟨s', f⟩ := q
      simp only [runSeq, runOpT_run P X C ops i nid o s hd, h1]

/-- Which operations surely come ahead of each one, as bits. -/
def bitsOf (acc : List Nat) (m : Nat) (e : Edge) : Nat := match Region.binds .any e with
  | true => m ||| 2 ^ e.on ||| acc.getD e.on 0
  | false => m
def beforesN : List Oper → List Nat → List Nat
  | [], acc => acc
  | o :: os, acc => beforesN os (acc ++ [o.after.toList.foldl (bitsOf acc) 0])

theorem bits_ok {acc : List (List Nat)} {accN : List Nat} (h : ∀ j i, (acc.getD j []).contains i = (accN.getD j 0).testBit i) (i : Nat) : ∀ (es : List Edge) (m : Nat) (l : List Nat), l.contains i = m.testBit i →
    (l ++ es.flatMap fun e => if Region.binds .any e then e.on :: acc.getD e.on [] else []).contains i = (es.foldl (bitsOf accN) m).testBit i
  | [], m, l, hl => by simpa using hl
  | e :: es, m, l, hl => by
    rw [List.flatMap_cons, ← List.append_assoc, List.foldl_cons]
    apply bits_ok h i es
    unfold bitsOf
    cases hb : Region.binds .any e with
    | false => simpa using hl
    | true =>
      have h' := h e.on i
      rw [List.contains_eq_mem] at h' hl ⊢
      simp only [if_true, Nat.testBit_or, Nat.testBit_two_pow, ← h', ← hl, List.mem_append, List.mem_cons, Bool.decide_or]
      rw [Bool.or_assoc]
      congr 2
      exact decide_eq_decide.2 eq_comm

theorem befores_ok : ∀ (l : List Oper) (acc : List (List Nat)) (accN : List Nat), acc.length = accN.length → (∀ j i, (acc.getD j []).contains i = (accN.getD j 0).testBit i) →
    ∀ j i, ((befores l acc).getD j []).contains i = ((beforesN l accN).getD j 0).testBit i
  | [], acc, accN, _, h => h
  | o :: os, acc, accN, hl, h => by
    simp only [befores, beforesN]
    refine befores_ok os _ _ (by simp [hl]) fun j i => ?_
    have key := bits_ok h i o.after.toList 0 [] (by simp)
    rw [List.nil_append] at key
    by_cases hj : j < acc.length
    · have h' := h j i
      simp only [List.getD_eq_getElem?_getD] at h' ⊢
      rw [List.getElem?_append_left hj, List.getElem?_append_left (hl ▸ hj)]
      exact h'
    · by_cases hj' : j = acc.length
      · subst hj'
        simp only [List.getD_eq_getElem?_getD]
        rw [List.getElem?_append_right (Nat.le_refl _), List.getElem?_append_right (by omega)]
        simpa [hl] using key
      · simp only [List.getD_eq_getElem?_getD]
        rw [List.getElem?_eq_none (by simp; omega), List.getElem?_eq_none (by simp; omega)]
        simp

def okN (ops : Array Oper) (bf : List Nat) (fs : List Foot) : Bool :=
  allPairs (fun f g => (bf.getD g.at_ 0).testBit f.at_ || ((bf.getD f.at_ 0).testBit g.at_ ||
    (free f g && ((ops[f.at_]?).any fun x => (ops[g.at_]?).any fun y => x.apart ops y)))) fs
def okOrdersN (ops : Array Oper) (fs : List Foot) : Bool :=
  okN ops (beforesN ops.toList []) fs &&
  ops.toList.zipIdx.all fun p => p.1.after.toList.all fun e => !Region.binds .any e || decide (e.on < p.2)

theorem okOrdersN_eq (ops : Array Oper) (fs : List Foot) : okOrdersN ops fs = okOrders ops fs := by
  have h := befores_ok ops.toList [] [] rfl (by simp)
  unfold okOrdersN okOrders okN
  simp only
  congr 1
  congr 1
  funext f g
  simp only [loose, h, Bool.not_and, Bool.not_not, Bool.or_assoc]

def runRegionT (P : Program) (X : Cx) (C : Oracle) (ops : Array Oper) (draw : Bool) (s : S) : DT S :=
  let l := ops.toList
  (runSeqT P X C l (plan X s.σ.length l) ⟨s.T, s.σ ++ List.replicate (total X l) .vir⟩ []).bind fun r =>
    match draw with
    | false => .ret r.1
    | true => .feet r.2 fun fs => match okOrdersN ops fs with
      | true => .ret r.1
      | false => (runSeqT P X C l (plan X s.σ.length l) ⟨s.T, fz s.σ r.1.σ ++ List.replicate (total X l) .vir⟩ []).bind fun r' =>
        .feet r'.2 fun fs' => match okOrdersN ops fs' with
        | true => .ret r'.1
        | false => .none

theorem runRegionT_run (P : Program) (X : Cx) (C : Oracle) (ops : Array Oper) (draw : Bool) (s : S) {r : S} (h : (runRegionT P X C ops draw s).run = some r) : runRegion P X C ops draw s = some r := by
  unfold runRegionT at h
  simp only [DT.run_bind, okOrdersN_eq] at h
  unfold runRegion
  simp only
  cases hd : (runSeqT P X C ops.toList (plan X s.σ.length ops.toList) ⟨s.T, s.σ ++ List.replicate (total X ops.toList) .vir⟩ []).run with
  | none => rw [hd] at h; cases h
  | some q =>
    rw [hd] at h
    obtain ⟨fs, h1, h2⟩ := runSeqT_run P X C _ _ _ _ hd
    simp only [List.reverse_nil, List.nil_append] at h2
    rw [h1]
    simp only [Option.bind_some] at h ⊢
    rw [h2] at h
    cases draw with
    | false => simpa [DT.run] using h
    | true =>
      simp only [DT.run, Bool.true_and] at h ⊢
      cases hk : okOrders ops fs with
      | true =>
        rw [hk] at h
        simpa [DT.run] using h
      | false =>
        rw [hk] at h
        simp only [DT.run_bind, Bool.not_false, if_true] at h ⊢
        cases hd' : (runSeqT P X C ops.toList (plan X s.σ.length ops.toList) ⟨s.T, fz s.σ q.1.σ ++ List.replicate (total X ops.toList) .vir⟩ []).run with
        | none => rw [hd'] at h; cases h
        | some q' =>
          rw [hd'] at h
          obtain ⟨fs', h1', h2'⟩ := runSeqT_run P X C _ _ _ _ hd'
          simp only [List.reverse_nil, List.nil_append] at h2'
          rw [h1']
          simp only [Option.bind_some, DT.run] at h ⊢
          rw [h2'] at h
          cases hk' : okOrders ops fs' with
          | true => rw [hk'] at h; simpa [DT.run] using h
          | false => rw [hk'] at h; simp [DT.run] at h

/-! ### A state that is laid out before it is handed on -/
noncomputable section
variable {β : Type}
def forceN (n : Nat) : (Nat → β) → β := Nat.rec (motive := fun _ => (Nat → β) → β) (fun k => k 0) (fun _ ih k => ih fun x => k (Nat.succ x)) n
theorem forceN_eq (n : Nat) : ∀ k : Nat → β, forceN n k = k n := by
  induction n with
  | zero => intro k; rfl
  | succ n ih => intro k; exact ih fun x => k (Nat.succ x)
def forceB (b : Bool) (k : Bool → β) : β := match b with
  | true => k true
  | false => k false
theorem forceB_eq (b : Bool) (k : Bool → β) : forceB b k = k b := by cases b <;> rfl
def forceLeaf (v : V) (k : V → β) : β := match v with
  | .hs id off len => forceN id fun id => k (.hs id off len)
  | .ptr id i off => forceN id fun id => k (.ptr id i off)
  | .undef => k .undef
  | .bool b => k (.bool b)
  | .int kd n => k (.int kd n)
  | .str s => k (.str s)
  | .nilS => k .nilS
  | .emp => k .emp
  | .ne => k .ne
  | .list sz xs => k (.list sz xs)
  | .nilP => k .nilP
  | .pp cs => k (.pp cs)
  | .fn f caps => k (.fn f caps)
  | .nilF => k .nilF
  | .agg cs => k (.agg cs)
  | .tup vs => k (.tup vs)
theorem forceLeaf_eq (v : V) (k : V → β) : forceLeaf v k = k v := by cases v <;> simp only [forceLeaf, forceN_eq]
def forceLs (l : List V) : (List V → β) → β := List.rec (motive := fun _ => (List V → β) → β) (fun k => k []) (fun v _ ih k => forceLeaf v fun v => ih fun l => k (v :: l)) l
theorem forceLs_eq (l : List V) : ∀ k : List V → β, forceLs l k = k l := by
  induction l with
  | nil => intro k; rfl
  | cons v l ih =>
    intro k
    show forceLeaf v (fun v => forceLs l fun l => k (v :: l)) = _
    rw [forceLeaf_eq, ih]
def forceA (v : V) (k : V → β) : β := match v with
  | .agg cs => forceLs cs fun cs => k (.agg cs)
  | .pp cs => forceLs cs fun cs => k (.pp cs)
  | .fn f caps => forceLs caps fun caps => k (.fn f caps)
  | v => forceLeaf v k
theorem forceA_eq (v : V) (k : V → β) : forceA v k = k v := by cases v <;> simp only [forceA, forceLeaf_eq, forceLs_eq]
def forceAs (l : List V) : (List V → β) → β := List.rec (motive := fun _ => (List V → β) → β) (fun k => k []) (fun v _ ih k => forceA v fun v => ih fun l => k (v :: l)) l
theorem forceAs_eq (l : List V) : ∀ k : List V → β, forceAs l k = k l := by
  induction l with
  | nil => intro k; rfl
  | cons v l ih =>
    intro k
    show forceA v (fun v => forceAs l fun l => k (v :: l)) = _
    rw [forceA_eq, ih]
def forceV (v : V) (k : V → β) : β := match v with
  | .tup vs => forceAs vs fun vs => k (.tup vs)
  | v => forceA v k
theorem forceV_eq (v : V) (k : V → β) : forceV v k = k v := by cases v <;> simp only [forceV, forceA_eq, forceAs_eq]
def forceVs (l : List V) : (List V → β) → β := List.rec (motive := fun _ => (List V → β) → β) (fun k => k []) (fun v _ ih k => forceV v fun v => ih fun l => k (v :: l)) l
theorem forceVs_eq (l : List V) : ∀ k : List V → β, forceVs l k = k l := by
  induction l with
  | nil => intro k; rfl
  | cons v l ih =>
    intro k
    show forceV v (fun v => forceVs l fun l => k (v :: l)) = _
    rw [forceV_eq, ih]
def forceRows (l : List (List V)) : (List (List V) → β) → β := List.rec (motive := fun _ => (List (List V) → β) → β) (fun k => k []) (fun x _ ih k => forceAs x fun x => ih fun l => k (x :: l)) l
theorem forceRows_eq (l : List (List V)) : ∀ k : List (List V) → β, forceRows l k = k l := by
  induction l with
  | nil => intro k; rfl
  | cons v l ih =>
    intro k
    show forceAs v (fun v => forceRows l fun l => k (v :: l)) = _
    rw [forceAs_eq, ih]
def forceOb (o : Ob) (k : Ob → β) : β := match o with
  | .vir => k .vir
  | .dead => k .dead
  | .cells own pure sz xs => forceB own fun own => match pure with
    | true => k (.cells own true sz xs)
    | false => forceRows xs fun xs => k (.cells own false sz xs)
theorem forceOb_eq (o : Ob) (k : Ob → β) : forceOb o k = k o := by
  cases o with
  | cells own pure sz xs => cases pure <;> simp only [forceOb, forceB_eq, forceRows_eq]
  | _ => rfl
def forceObs (l : List Ob) : (List Ob → β) → β := List.rec (motive := fun _ => (List Ob → β) → β) (fun k => k []) (fun v _ ih k => forceOb v fun v => ih fun l => k (v :: l)) l
theorem forceObs_eq (l : List Ob) : ∀ k : List Ob → β, forceObs l k = k l := by
  induction l with
  | nil => intro k; rfl
  | cons v l ih =>
    intro k
    show forceOb v (fun v => forceObs l fun l => k (v :: l)) = _
    rw [forceOb_eq, ih]
def forceS (s : S) (k : S → β) : β := forceVs s.T fun T => forceObs s.σ fun σ => k ⟨T, σ⟩
theorem forceS_eq (s : S) (k : S → β) : forceS s k = k s := by unfold forceS; rw [forceVs_eq, forceObs_eq]
def forceR (r : VX × S) (k : VX × S → β) : β := match r with
  | (.normal, s) => forceS s fun s => k (.normal, s)
  | (.exit j, s) => forceN j fun j => forceS s fun s => k (.exit j, s)
  | (.ret, s) => forceS s fun s => k (.ret, s)
theorem forceR_eq (r : VX × S) (k : VX × S → β) : forceR r k = k r := by
  obtain ⟨x, s⟩ := r
  cases x <;> simp only [forceR, forceS_eq, forceN_eq]
def forceO (r : V × Store) (k : V × Store → β) : β := match r with
  | (v, σ) => forceV v fun v => forceObs σ fun σ => k (v, σ)
theorem forceO_eq (r : V × Store) (k : V × Store → β) : forceO r k = k r := by
  obtain ⟨x, s⟩ := r
  simp only [forceO, forceV_eq, forceObs_eq]
end

def vloopT (body : S → DT (VX × S)) (pre : S → S) : Nat → S → DT (VX × S)
  | 0, _ => .none
  | n + 1, s => (body (pre s)).bind fun r => match r with
    | (.normal, s') => vloopT body pre n s'
    | r => .ret r

/-- A loop from a state that is ready for a round. -/
def vloopP (body : S → Option (VX × S)) (pre : S → S) : Nat → S → Option (VX × S)
  | 0, _ => none
  | n + 1, s => match body s with
    | some (.normal, s') => vloopP body pre n (pre s')
    | r => r
theorem vloop_P (body : S → Option (VX × S)) (pre : S → S) : ∀ (n : Nat) (s : S), vloop body pre n s = vloopP body pre n (pre s)
  | 0, _ => rfl
  | n + 1, s => by
    simp only [vloop, vloopP]
    cases body (pre s) with
    | none => rfl
    | some r => obtain ⟨x, s'⟩ := r; cases x <;> simp only [vloop_P body pre n]

/-- A branch from a state that is ready for it. -/
def condX (P : Program) (X : Cx) (C : Oracle) (f m n : Nat) (c : Operand) (a b : Code) (k : Nat) (s : S) : Option (VX × S) := match ev s.T c with
  | .bool true => (exec P X C f m n a k s).map (joinX (join X f m c))
  | .bool false => (exec P X C f m n b k s).map (joinX (join X f m c))
  | _ => none

/-- Whether a branch is cut: the number under which it is. -/
def jL (L : Nat → Bool) (X : Cx) (f : Nat) (c : Operand) : Option Nat := match c with
  | .tmp t => (match X.jn f t with
    | some _ => (match L (1000000 + t) with
      | true => some (1000000 + t)
      | false => none)
    | none => none)
  | _ => none

def bL (L : Nat → Bool) (X : Cx) (f id : Nat) : Option Nat := match X.jn f (2000000 + id) with
  | some _ => (match L (2000000 + id) with
    | true => some (2000000 + id)
    | false => none)
  | none => none

/-- A block from a state that is ready for it. -/
def blockX (P : Program) (X : Cx) (C : Oracle) (f m n id : Nat) (c : Code) (s : S) : Option (VX × S) := (exec P X C f m n c id s).map (blockR X f m id)

def rL (L : Nat → Bool) (X : Cx) (f id : Nat) : Option Nat := match X.jn f (4000000 + id) with
  | some _ => (match L (4000000 + id) with
    | true => some (4000000 + id)
    | false => none)
  | none => none

/-- A region from a state that is ready for it. -/
def regX (P : Program) (X : Cx) (C : Oracle) (f m id : Nat) (ops : Array Oper) (draw : Bool) (s : S) : Option (VX × S) := (runRegion P X C ops draw s).map fun s' => (.normal, regO X f m id s')

noncomputable def execT (P : Program) (X : Cx) (L : Nat → Bool) (C : Oracle) (f m n : Nat) : Code → Nat → S → DT (VX × S)
  | .skip, _, s => .ret (.normal, s)
  | .region id ops draw, _, s => match rL L X f id with
    | some j => forceS (regI X f m id s) fun s' => .cut j s' (regX P X C f m id ops draw s') .ret
    | none => (runRegionT P X C ops draw (regI X f m id s)).bind fun s' => .ret (.normal, regO X f m id s')
  | .seq a b, k, s => (execT P X L C f m n a k s).bind fun r => match r with
    | (.normal, s') => forceS s' fun s' => .mark s' fun s' => execT P X L C f m n b k s'
    | r => .ret r
  | .cond c a b, k, s => match jL L X f c with
    | some j => forceS (joinI (join X f m c) s) fun s' => .cut j s' (condX P X C f m n c a b k s') .ret
    | none => match ev (joinI (join X f m c) s).T c with
      | .bool t => .test t ((execT P X L C f m n a k (joinI (join X f m c) s)).bind fun r => forceR (joinX (join X f m c) r) .ret) ((execT P X L C f m n b k (joinI (join X f m c) s)).bind fun r => forceR (joinX (join X f m c) r) .ret)
      | _ => .none
  | .block id c, _, s => match bL L X f id with
    | some j => forceS (blockI X f m id s) fun s' => .cut j s' (blockX P X C f m n id c s') .ret
    | none => (execT P X L C f m n c id (blockI X f m id s)).bind fun r => forceR (blockR X f m id r) .ret
  | .loop c, k, s => match L k with
    | true => forceS (pre X f m k s) fun s' => .cut k s' (vloopP (fun s => exec P X C f m n c k s) (pre X f m k) n s') .ret
    | false => vloopT (fun s => execT P X L C f m n c k s) (pre X f m k) n s
  | .exit id, _, s => forceS (exitX X f m id s) fun s => .ret (.exit id, s)
  | .ret, _, s => forceS (exitX X f m 2000000 s) fun s => .ret (.ret, s)
  | _, _, _ => .none

theorem vloopT_run {bT : S → DT (VX × S)} {b : S → Option (VX × S)} {pre : S → S} (hb : ∀ s r, (bT s).run = some r → b s = some r) : ∀ (n : Nat) (s : S) {r : VX × S}, (vloopT bT pre n s).run = some r → vloop b pre n s = some r
  | 0, s, r, h => by simp [vloopT, DT.run] at h
  | n + 1, s, r, h => by
    simp only [vloopT, DT.run_bind] at h
    simp only [vloop]
    cases hd : (bT (pre s)).run with
    | none => rw [hd] at h; cases h
    | some q =>
      rw [hd] at h
      rw [hb _ _ hd]
      simp only [Option.bind_some] at h
      obtain ⟨x, s'⟩ := q
      cases x with
      | normal => exact vloopT_run hb n s' h
      | exit j => simpa [DT.run] using h
      | ret => simpa [DT.run] using h

theorem execT_run (P : Program) (X : Cx) (L : Nat → Bool) (C : Oracle) (f m n : Nat) : ∀ (c : Code) (k : Nat) (s : S) {r : VX × S}, (execT P X L C f m n c k s).run = some r → exec P X C f m n c k s = some r := by
  intro c
  induction c with
  | skip => intro k s r h; simpa [execT, exec, DT.run] using h
  | region id ops draw =>
    intro k s r h
    have hx : exec P X C f m n (.region id ops draw) k s = regX P X C f m id ops draw (regI X f m id s) := rfl
    rw [hx]
    simp only [execT, forceS_eq] at h
    split at h
    · cases ho : regX P X C f m id ops draw (regI X f m id s) with
      | none => rw [ho] at h; simp [DT.run] at h
      | some x => rw [ho] at h; simpa [DT.run] using h
    · unfold regX
      rw [DT.run_bind] at h
      cases hd : (runRegionT P X C ops draw (regI X f m id s)).run with
      | none => rw [hd] at h; cases h
      | some q => rw [hd] at h; rw [runRegionT_run P X C ops draw _ hd]; simpa [DT.run] using h
  | seq a b iha ihb =>
    intro k s r h
    simp only [execT, DT.run_bind, forceS_eq, forceR_eq] at h
    simp only [exec]
    cases hd : (execT P X L C f m n a k s).run with
    | none => rw [hd] at h; cases h
    | some q =>
      rw [hd] at h
      rw [iha k s hd]
      obtain ⟨x, s'⟩ := q
      cases x with
      | normal => exact ihb k s' h
      | exit j => simpa [DT.run] using h
      | ret => simpa [DT.run] using h
  | cond c a b iha ihb =>
    intro k s r h
    simp only [execT, forceS_eq, forceR_eq] at h
    split at h
    · have hx : exec P X C f m n (.cond c a b) k s = condX P X C f m n c a b k (joinI (join X f m c) s) := rfl
      rw [hx]
      cases ho : condX P X C f m n c a b k (joinI (join X f m c) s) with
      | none => rw [ho] at h; simp [DT.run] at h
      | some x => rw [ho] at h; simpa [DT.run] using h
    · split at h
      · rename_i t ht
        simp only [exec]
        rw [ht]
        cases t with
        | true =>
          simp only [DT.run, DT.run_bind] at h
          cases hd : (execT P X L C f m n a k (joinI (join X f m c) s)).run with
          | none => rw [hd] at h; cases h
          | some q => rw [hd] at h; simp only [Option.bind_some] at h; rw [iha k _ hd]; exact h
        | false =>
          simp only [DT.run, DT.run_bind] at h
          cases hd : (execT P X L C f m n b k (joinI (join X f m c) s)).run with
          | none => rw [hd] at h; cases h
          | some q => rw [hd] at h; simp only [Option.bind_some] at h; rw [ihb k _ hd]; exact h
      · simp [DT.run] at h
  | block id c ih =>
    intro k s r h
    have hx : exec P X C f m n (.block id c) k s = blockX P X C f m n id c (blockI X f m id s) := rfl
    rw [hx]
    simp only [execT, forceS_eq, forceR_eq] at h
    split at h
    · cases ho : blockX P X C f m n id c (blockI X f m id s) with
      | none => rw [ho] at h; simp [DT.run] at h
      | some x => rw [ho] at h; simpa [DT.run] using h
    · unfold blockX
      rw [DT.run_bind] at h
      cases hd : (execT P X L C f m n c id (blockI X f m id s)).run with
      | none => rw [hd] at h; cases h
      | some q => rw [hd] at h; rw [ih id _ hd]; simpa [DT.run] using h
  | loop c ih =>
    intro k s r h
    simp only [execT, forceS_eq, forceR_eq] at h
    simp only [exec]
    split at h
    · rw [vloop_P]
      cases ho : vloopP (fun s => exec P X C f m n c k s) (pre X f m k) n (pre X f m k s) with
      | none => rw [ho] at h; simp [DT.run] at h
      | some x => rw [ho] at h; simpa [DT.run] using h
    · exact vloopT_run (fun s r h => ih k s h) n s h
  | exit id => intro k s r h; simpa [execT, exec, DT.run, forceS_eq] using h
  | ret => intro k s r h; simpa [execT, exec, DT.run, forceS_eq] using h
  | _ => intro k s r h; simp [execT, DT.run] at h

/-- A function's call: its body's tree, then what it leaves. -/
noncomputable def callL (P : Program) (X : Cx) (L : Nat → Bool) (C : Oracle) (N f : Nat) (fi : FI) (args : List V) (σ : Store) : DT (V × Store) :=
  (execT P X L C f σ.length N fi.body 0 ⟨args ++ List.replicate (fi.ntmps - args.length) .undef, σ⟩).bind fun r => match r with
    | (.exit _, _) => .none
    | (_, s) => match leave X σ.length fi (fresh (X.wr f) s) with
      | some v => forceO v .ret
      | none => .none

theorem callL_run {P : Program} {X : Cx} {L : Nat → Bool} {O : Oracle} {N n f : Nat} {fi : FI} {args : List V} {σ : Store} {r : V × Store} (ho : O f args σ = none) (hf : X.fn f = some fi)
    (h : (callL P X L (genO X (call P X O N n)) N f fi args σ).run = some r) : call P X O N (n + 1) f args σ = some r := by
  unfold callL at h
  simp only [forceO_eq] at h
  rw [DT.run_bind] at h
  unfold call
  rw [ho, hf]
  simp only
  cases hd : (execT P X L (genO X (call P X O N n)) f σ.length N fi.body 0 ⟨args ++ List.replicate (fi.ntmps - args.length) .undef, σ⟩).run with
  | none => rw [hd] at h; cases h
  | some q =>
    rw [hd] at h
    rw [execT_run _ _ _ _ _ _ _ _ _ _ hd]
    obtain ⟨x, s⟩ := q
    cases x with
    | exit j => simp [DT.run] at h
    | normal =>
      simp only [Option.bind_some] at h ⊢
      split at h
      · rename_i v hv; rw [hv]; simpa [DT.run] using h
      · simp [DT.run] at h
    | ret =>
      simp only [Option.bind_some] at h ⊢
      split at h
      · rename_i v hv; rw [hv]; simpa [DT.run] using h
      · simp [DT.run] at h

/-- No loop is cut. -/
noncomputable abbrev callT (P : Program) (X : Cx) (C : Oracle) (N f : Nat) (fi : FI) (args : List V) (σ : Store) : DT (V × Store) := callL P X (fun _ => false) C N f fi args σ

/-- One path of a function's call. -/
theorem call_path {P : Program} {X : Cx} {O : Oracle} {N n f : Nat} {fi : FI} {args : List V} {σ : Store} {r : V × Store} {gs : List G} {q : Prop} (ho : O f args σ = none) (hf : X.fn f = some fi)
    (h : path gs (callT P X (genO X (call P X O N n)) N f fi args σ) = some (r, q)) (hq : q) : call P X O N (n + 1) f args σ = some r := callL_run ho hf (path_run _ h hq)
/-- .. with loops cut. -/
theorem call_pathL {P : Program} {X : Cx} {O : Oracle} {N n f : Nat} {fi : FI} {args : List V} {σ : Store} {r : V × Store} {gs : List G} {q : Prop} (L : Nat → Bool) (ho : O f args σ = none) (hf : X.fn f = some fi)
    (h : path gs (callL P X L (genO X (call P X O N n)) N f fi args σ) = some (r, q)) (hq : q) : call P X O N (n + 1) f args σ = some r := callL_run ho hf (path_run _ h hq)

/-! ### Loops, round by round -/
/-- The loop of a body that stands in a block. -/
def loopIn : Code → Nat → Nat → Option Code
  | .seq a b, k, w => match loopIn a k w with
    | some c => some c
    | none => loopIn b k w
  | .cond _ a b, k, w => match loopIn a k w with
    | some c => some c
    | none => loopIn b k w
  | .block id c, _, w => loopIn c id w
  | .loop c, k, w => match Nat.beq k w with
    | true => some c
    | false => loopIn c k w
  | _, _, _ => none

/-- The loop of a body, from a state that is ready for a round. -/
def loopP (P : Program) (X : Cx) (C : Oracle) (f m N : Nat) (body : Code) (w n : Nat) (s : S) : Option (VX × S) :=
  vloopP (fun s => exec P X C f m N ((loopIn body 0 w).getD .skip) w s) (pre X f m w) n s

/-- A round, as a tree. -/
noncomputable def roundT (P : Program) (X : Cx) (L : Nat → Bool) (C : Oracle) (f m N : Nat) (body : Code) (w : Nat) (s : S) : DT (VX × S) :=
  (execT P X L C f m N ((loopIn body 0 w).getD .skip) w s).bind fun r => match r with
    | (.normal, s') => forceS (pre X f m w s') fun s' => .ret (.normal, s')
    | r => .ret r

def goOn (F : S → Option (VX × S)) : VX × S → Option (VX × S)
  | (.normal, s') => F s'
  | r => some r

theorem round_run {P : Program} {X : Cx} {L : Nat → Bool} {C : Oracle} {f m N : Nat} {body : Code} {w : Nat} {s : S} {r : VX × S} (h : (roundT P X L C f m N body w s).run = some r) (n : Nat) :
    loopP P X C f m N body w (n + 1) s = goOn (loopP P X C f m N body w n) r := by
  unfold roundT at h
  simp only [forceS_eq] at h
  unfold loopP
  simp only [vloopP]
  rw [DT.run_bind] at h
  cases hd : (execT P X L C f m N ((loopIn body 0 w).getD .skip) w s).run with
  | none => rw [hd] at h; cases h
  | some q =>
    rw [hd] at h
    simp only [execT_run _ _ _ _ _ _ _ _ _ _ hd]
    obtain ⟨x, s'⟩ := q
    cases x <;> simp only [Option.bind_some, DT.run, Option.some.injEq] at h <;> subst h <;> rfl

/-- A branch that stands in a body. -/
def condIn : Code → Nat → Nat → Option (Code × Code × Nat)
  | .seq a b, k, j => match condIn a k j with
    | some r => some r
    | none => condIn b k j
  | .cond (.tmp t) a b, k, j => match Nat.beq t j with
    | true => some (a, b, k)
    | false => match condIn a k j with
      | some r => some r
      | none => condIn b k j
  | .cond _ a b, k, j => match condIn a k j with
    | some r => some r
    | none => condIn b k j
  | .block id c, _, j => condIn c id j
  | .loop c, k, j => condIn c k j
  | _, _, _ => none

def condP (P : Program) (X : Cx) (C : Oracle) (f m N : Nat) (body : Code) (j : Nat) (s : S) : Option (VX × S) :=
  condX P X C f m N (.tmp j) ((condIn body 0 j).getD (.skip, .skip, 0)).1 ((condIn body 0 j).getD (.skip, .skip, 0)).2.1 ((condIn body 0 j).getD (.skip, .skip, 0)).2.2 s

noncomputable def condT (P : Program) (X : Cx) (L : Nat → Bool) (C : Oracle) (f m N : Nat) (body : Code) (j : Nat) (s : S) : DT (VX × S) := match ev s.T (.tmp j) with
  | .bool t => .test t ((execT P X L C f m N ((condIn body 0 j).getD (.skip, .skip, 0)).1 ((condIn body 0 j).getD (.skip, .skip, 0)).2.2 s).bind fun r => forceR (joinX (join X f m (.tmp j)) r) .ret)
    ((execT P X L C f m N ((condIn body 0 j).getD (.skip, .skip, 0)).2.1 ((condIn body 0 j).getD (.skip, .skip, 0)).2.2 s).bind fun r => forceR (joinX (join X f m (.tmp j)) r) .ret)
  | _ => .none

theorem condT_run {P : Program} {X : Cx} {L : Nat → Bool} {C : Oracle} {f m N : Nat} {body : Code} {j : Nat} {s : S} {r : VX × S} (h : (condT P X L C f m N body j s).run = some r) : condP P X C f m N body j s = some r := by
  unfold condT at h
  simp only [forceR_eq] at h
  unfold condP condX
  split at h
  · rename_i t ht
    rw [ht]
    cases t with
    | true =>
      simp only [DT.run, DT.run_bind] at h
      simp only
      cases hd : (execT P X L C f m N ((condIn body 0 j).getD (.skip, .skip, 0)).1 ((condIn body 0 j).getD (.skip, .skip, 0)).2.2 s).run with
      | none => rw [hd] at h; cases h
      | some q => rw [hd] at h; rw [execT_run _ _ _ _ _ _ _ _ _ _ hd]; exact h
    | false =>
      simp only [DT.run, DT.run_bind] at h
      simp only
      cases hd : (execT P X L C f m N ((condIn body 0 j).getD (.skip, .skip, 0)).2.1 ((condIn body 0 j).getD (.skip, .skip, 0)).2.2 s).run with
      | none => rw [hd] at h; cases h
      | some q => rw [hd] at h; rw [execT_run _ _ _ _ _ _ _ _ _ _ hd]; exact h
  · simp [DT.run] at h

/-- A block that stands in a body. -/
def blockIn : Code → Nat → Option Code
  | .seq a b, j => match blockIn a j with
    | some r => some r
    | none => blockIn b j
  | .cond _ a b, j => match blockIn a j with
    | some r => some r
    | none => blockIn b j
  | .block id c, j => match Nat.beq id j with
    | true => some c
    | false => blockIn c j
  | .loop c, j => blockIn c j
  | _, _ => none

def blockP (P : Program) (X : Cx) (C : Oracle) (f m N : Nat) (body : Code) (id : Nat) (s : S) : Option (VX × S) := blockX P X C f m N id ((blockIn body id).getD .skip) s
noncomputable def blockT (P : Program) (X : Cx) (L : Nat → Bool) (C : Oracle) (f m N : Nat) (body : Code) (id : Nat) (s : S) : DT (VX × S) :=
  (execT P X L C f m N ((blockIn body id).getD .skip) id s).bind fun r => forceR (blockR X f m id r) .ret
theorem blockT_run {P : Program} {X : Cx} {L : Nat → Bool} {C : Oracle} {f m N : Nat} {body : Code} {id : Nat} {s : S} {r : VX × S} (h : (blockT P X L C f m N body id s).run = some r) : blockP P X C f m N body id s = some r := by
  unfold blockT at h
  simp only [forceR_eq] at h
  unfold blockP blockX
  rw [DT.run_bind] at h
  cases hd : (execT P X L C f m N ((blockIn body id).getD .skip) id s).run with
  | none => rw [hd] at h; cases h
  | some q => rw [hd] at h; rw [execT_run _ _ _ _ _ _ _ _ _ _ hd]; exact h

/-- A region that stands in a body. -/
def regIn : Code → Nat → Option (Array Oper × Bool)
  | .region id ops draw, j => match Nat.beq id j with
    | true => some (ops, draw)
    | false => none
  | .seq a b, j => match regIn a j with
    | some r => some r
    | none => regIn b j
  | .cond _ a b, j => match regIn a j with
    | some r => some r
    | none => regIn b j
  | .block _ c, j => regIn c j
  | .loop c, j => regIn c j
  | _, _ => none

def regP (P : Program) (X : Cx) (C : Oracle) (f m : Nat) (body : Code) (id : Nat) (s : S) : Option (VX × S) := regX P X C f m id ((regIn body id).getD (#[], false)).1 ((regIn body id).getD (#[], false)).2 s
noncomputable def regT (P : Program) (X : Cx) (C : Oracle) (f m : Nat) (body : Code) (id : Nat) (s : S) : DT (VX × S) :=
  (runRegionT P X C ((regIn body id).getD (#[], false)).1 ((regIn body id).getD (#[], false)).2 s).bind fun s' => forceR (.normal, regO X f m id s') .ret
theorem regT_run {P : Program} {X : Cx} {C : Oracle} {f m : Nat} {body : Code} {id : Nat} {s : S} {r : VX × S} (h : (regT P X C f m body id s).run = some r) : regP P X C f m body id s = some r := by
  unfold regT at h
  simp only [forceR_eq] at h
  unfold regP regX
  rw [DT.run_bind] at h
  cases hd : (runRegionT P X C ((regIn body id).getD (#[], false)).1 ((regIn body id).getD (#[], false)).2 s).run with
  | none => rw [hd] at h; cases h
  | some q => rw [hd] at h; rw [runRegionT_run P X C _ _ _ hd]; exact h
end Go.VM
