/- The machine over plain values as a tree of its decisions: operations, regions, bodies. No condition beyond those stated. -/
import Derived.Test.YtcomanfboibhiaaVmAM
set_option linter.unusedVariables false
set_option linter.unusedSimpArgs false
namespace Go.VM

theorem callM_probe {C : Oracle} {rw' : Nat → Bool} {g : Nat} {args a : List V} {ws : List (Nat × Ob)} {σ : Store} (nid n : Nat) (h : (probe rw' args).run σ = some (.tup a, ws)) :
    full (callM C rw' g args nid n) σ = match C g a (ws.map (·.2)) with
      | some r => full (callM (fun _ _ _ => some r) rw' g args nid n) σ
      | none => none := by
  have key := (thr_impArgs σ rw' args 0 ⟨[], []⟩).bind (J := fun s a (k : Imp → (List V × List Ob) → M) => impObs 40 0 s fun s' obs => k s' (a, obs)) fun s a =>
    (thr_impObs σ 40 0 s).bind (J := fun s' obs (k : Imp → (List V × List Ob) → M) => k s' (a, obs)) fun s' obs => .pure _ _
  rcases key with key | ⟨s, ⟨a', obs⟩, pre, key⟩
  · have := key fun _ p => .done (.tup p.1) (p.2.map fun o => (0, o))
    rw [show (probe rw' args).run σ = none from this] at h
    cases h
  · have e := (key fun _ p => .done (.tup p.1) (p.2.map fun o => (0, o))).1
    rw [show (probe rw' args).run σ = _ from e] at h
    simp only [M.run, Option.some.injEq, Prod.mk.injEq, V.tup.injEq] at h
    obtain ⟨rfl, rfl⟩ := h
    simp only [List.map_map, Function.comp_def, List.map_id']
    let K : Oracle → Imp → (List V × List Ob) → M := fun C s p => match C g p.1 p.2 with
      | none => .fail
      | some (r, σ') =>
        if p.2.length ≤ σ'.length ∧ σ'.length ≤ p.2.length + n ∧ s.ids.length = p.2.length ∧ s.ids.all (fun id => s.sn.all (·.1 != id)) then
          let ids := s.ids ++ (List.range (σ'.length - p.2.length)).map (nid + ·)
          virs nid (σ'.length - p.2.length) fun ok =>
          if ok then .done (renV (fun k => ids[k]?) r)
            (if s.ids.isEmpty && scalar r && σ'.isEmpty then [] else s.sn ++ ids.zip (σ'.map (renOb fun k => ids[k]?)))
          else .fail
        else .fail
    have eK : ∀ C, callM C rw' g args nid n = impArgs rw' 0 ⟨[], []⟩ args fun s a => impObs 40 0 s fun s' obs => K C s' (a, obs) := fun _ => rfl
    cases hC : C g a' obs with
    | none =>
      have k1 := key (K C)
      have hz : K C s (a', obs) = .fail := by simp only [K, hC]
      rw [hz] at k1
      unfold full
      rw [eK, k1.1]; rfl
    | some r =>
      have k1 := key (K C)
      have k2 := key (K fun _ _ _ => some r)
      have hz : K C s (a', obs) = K (fun _ _ _ => some r) s (a', obs) := by simp only [K, hC]
      rw [hz] at k1
      show full (callM C rw' g args nid n) σ = full (callM (fun _ _ _ => some r) rw' g args nid n) σ
      unfold full
      rw [eK, eK, k1.1, k2.1, k1.2, k2.2]

def opT (P : Program) (X : Cx) (C : Oracle) (T : List V) (nid : Nat) (o : Oper) (σ : Store) : DT Ans :=
  match o.op with
  | .pick c a b => match ev T c with
    | .bool t => .test t (.ret (ev T a, [], [])) (.ret (ev T b, [], []))
    | _ => .none
  | .indexAddr t x ix => match X.ty t, ev T x, ev T ix with
    | some { kind := .slice e, .. }, .list sz xs, .int _ i => match X.ty e with
      | some te => .test (decide (0 ≤ i ∧ sz = te.size ∧ 0 < te.size)) (.look xs[i.toNat]? fun x => .ret (.pp x, [], [])) .none
      | none => .none
    | _, _, _ => ofM (opM P X C T nid o) σ
  | .binOp op t x y s => match op, ev T x, ev T y with
    | .quo, .int k a, .int k' b => if k = k' then .test (decide (b = 0)) .none (.ret (.int k (k.wrap (a.tdiv b)), [], [])) else .none
    | .rem, .int k a, .int k' b => if k = k' then .test (decide (b = 0)) .none (.ret (.int k (a.tmod b), [], [])) else .none
    | _, _, _ => ofM (opM P X C T nid o) σ
  | .call { callee := .value f, args, .. } => match ev T f with
    | .fn g caps => if (X.fn g).isSome then match (probe (X.rw g) (args.toList.map (ev T) ++ caps)).run σ with
        | some (.tup a, ws) => .ask (C g a (ws.map (·.2))) fun r => ofM (callM (fun _ _ _ => some r) (X.rw g) g (args.toList.map (ev T) ++ caps) nid (cnt X o)) σ
        | _ => .none
      else .none
    | _ => .none
  | _ => ofM (opM P X C T nid o) σ

theorem opT_run (P : Program) (X : Cx) (C : Oracle) (T : List V) (nid : Nat) (o : Oper) (σ : Store) {r : Ans} (h : (opT P X C T nid o σ).run = some r) : full (opM P X C T nid o) σ = some r := by
  unfold opT at h
  split at h
  · rename_i c a b ho
    unfold full opM op1
    rw [ho]
    simp only
    split at h
    · rename_i t hc
      simp only [hc]
      cases t <;> simp [DT.run] at h <;> subst h <;> simp [M.run, M.reads]
    · simp [DT.run] at h
  · rename_i t x ix ho
    split at h
    · rename_i e _ sz xs k i h1 h2 h3
      unfold full opM op1
      rw [ho]
      simp only [h1, h2, h3]
      split at h
      · rename_i te hte
        simp only [hte]
        simp only [DT.run] at h
        split at h
        · rename_i hb
          have hb' := of_decide_eq_true hb
          rw [if_pos hb']
          cases hy : xs[i.toNat]? with
          | some y =>
            simp only [hy, DT.run, Option.some.injEq] at h
            subst h
            rfl
          | none => simp [hy, DT.run] at h
        · cases h
      · simp [DT.run] at h
    · rw [ofM_run] at h; exact h
  · rename_i op t x y sh ho
    split at h
    · rename_i k a k' b h1 h2
      split at h
      · rename_i hk
        simp only [DT.run] at h
        split at h
        · cases h
        · rename_i hb
          have hb' : ¬ b = 0 := of_decide_eq_false hb
          unfold full opM op1
          rw [ho]
          simp only [h1, h2, bin, hk, if_true, hb', if_false, M.run, M.reads]
          subst hk
          exact h
      · simp [DT.run] at h
    · rename_i k a k' b h1 h2
      split at h
      · rename_i hk
        simp only [DT.run] at h
        split at h
        · cases h
        · rename_i hb
          have hb' : ¬ b = 0 := of_decide_eq_false hb
          unfold full opM op1
          rw [ho]
          simp only [h1, h2, bin, hk, if_true, hb', if_false, M.run, M.reads]
          subst hk
          exact h
      · simp [DT.run] at h
    · rw [ofM_run] at h; exact h
  · rename_i f args _ _ ho
    split at h
    · rename_i g caps hf
      split at h
      · rename_i hg
        split at h
        · rename_i a ws hp
          unfold opM
          rw [ho]
          simp only [hf, hg, if_true]
          rw [callM_probe nid (cnt X o) hp]
          cases hr : C g a (ws.map (·.2)) with
          | some r' =>
            rw [hr] at h
            simp only [DT.run] at h
            rw [ofM_run] at h
            exact h
          | none => rw [hr] at h; simp [DT.run] at h
        · simp [DT.run] at h
      · simp [DT.run] at h
    · simp [DT.run] at h
  · rw [ofM_run] at h; exact h

def runOpT (P : Program) (X : Cx) (C : Oracle) (ops : List Oper) (i nid : Nat) (o : Oper) (s : S) : DT (S × Foot) :=
  let go : DT (S × Foot) := (opT P X C s.T nid o s.σ).bind fun r => .ret (⟨putV s.T o.dst r.1, lay s.σ r.2.1⟩, ⟨i, r.2.2, r.2.1.map (·.1)⟩)
  let no : DT (S × Foot) := .ret (⟨putV s.T o.dst (.tup []), s.σ⟩, ⟨i, [], []⟩)
  match o.guard with
  | none => go
  | some (j, want) => match ops[j]? with
    | none => .none
    | some p => match p.dst with
      | none => .none
      | some d => match s.T[d]? with
        | some (.bool b) => match want with
          | true => .test b go no
          | false => .test b no go
        | some (.tup []) => no
        | _ => .none

theorem runOpT_run (P : Program) (X : Cx) (C : Oracle) (ops : List Oper) (i nid : Nat) (o : Oper) (s : S) {r : S × Foot} (h : (runOpT P X C ops i nid o s).run = some r) : runOp P X C ops i nid o s = some r := by
  have hgo : ∀ {r}, ((opT P X C s.T nid o s.σ).bind fun r => DT.ret ((⟨putV s.T o.dst r.1, lay s.σ r.2.1⟩ : S), (⟨i, r.2.2, r.2.1.map (·.1)⟩ : Foot))).run = some r → wantV ops s.T o = some true → runOp P X C ops i nid o s = some r := by
    intro r h hw
    rw [DT.run_bind] at h
    cases hd : (opT P X C s.T nid o s.σ).run with
    | none => rw [hd] at h; cases h
    | some q =>
      rw [hd] at h
      have hf := opT_run P X C s.T nid o s.σ hd
      unfold full at hf
      unfold runOp
      rw [hw]
      simp only
      split at hf
      · rename_i v ws hm
        cases hf
        simp only [Option.bind_some, DT.run, Option.some.injEq] at h
        subst h
        rw [hm]
      · cases hf
  have hno : ∀ {r}, (DT.ret ((⟨putV s.T o.dst (.tup []), s.σ⟩ : S), (⟨i, [], []⟩ : Foot))).run = some r → wantV ops s.T o = some false → runOp P X C ops i nid o s = some r := by
    intro r h hw
    unfold runOp
    rw [hw]
    exact h
  unfold runOpT at h
  simp only at h
  split at h
  · rename_i hg; exact hgo h (by unfold wantV; rw [hg])
  · rename_i j want hg
    split at h
    · simp [DT.run] at h
    · rename_i p hp
      split at h
      · simp [DT.run] at h
      · rename_i d hd
        split at h
        · rename_i b hb
          have hw : wantV ops s.T o = some (b == want) := by unfold wantV; rw [hg]; simp only [hp, hd, hb]
          cases want <;> cases b <;> simp only [DT.run] at h
          · exact hgo h hw
          · exact hno h hw
          · exact hno h hw
          · exact hgo h hw
        · rename_i hb
          exact hno h (by unfold wantV; rw [hg]; simp only [hp, hd, hb])
        · simp [DT.run] at h

def runSeqT (P : Program) (X : Cx) (C : Oracle) (ops : List Oper) : List (Nat × Nat × Oper) → S → List Foot → DT (S × List Foot)
  | [], s, acc => .ret (s, acc.reverse)
  | (i, nid, o) :: rest, s, acc => (runOpT P X C ops i nid o s).bind fun r => runSeqT P X C ops rest r.1 (r.2 :: acc)

theorem runSeqT_run (P : Program) (X : Cx) (C : Oracle) (ops : List Oper) : ∀ (l : List (Nat × Nat × Oper)) (s : S) (acc : List Foot) {r : S × List Foot}, (runSeqT P X C ops l s acc).run = some r →
    ∃ fs, runSeq P X C ops l s = some (r.1, fs) ∧ r.2 = acc.reverse ++ fs
  | [], s, acc, r, h => by
    simp only [runSeqT, DT.run, Option.some.injEq] at h
    subst h
    exact ⟨[], rfl, by simp⟩
  | (i, nid, o) :: rest, s, acc, r, h => by
    simp only [runSeqT, DT.run_bind] at h
    cases hd : (runOpT P X C ops i nid o s).run with
    | none => rw [hd] at h; cases h
    | some q =>
      rw [hd] at h
      obtain ⟨fs, h1, h2⟩ := runSeqT_run P X C ops rest q.1 (q.2 :: acc) h
      refine ⟨q.2 :: fs, ?_, by simp [h2]⟩
      obtain ⟨s', f⟩ := q
      simp only [runSeq, runOpT_run P X C ops i nid o s hd, h1]

def runRegionT (P : Program) (X : Cx) (C : Oracle) (ops : Array Oper) (draw : Bool) (s : S) : DT S :=
  let l := ops.toList
  (runSeqT P X C l (plan X s.σ.length l) ⟨s.T, s.σ ++ List.replicate (total X l) .vir⟩ []).bind fun r =>
    match draw && !okOrders ops r.2 with
    | true => (runSeqT P X C l (plan X s.σ.length l) ⟨s.T, fz s.σ r.1.σ ++ List.replicate (total X l) .vir⟩ []).bind fun r' =>
        match okOrders ops r'.2 with
        | true => .ret r'.1
        | false => .none
    | false => .ret r.1

theorem runRegionT_run (P : Program) (X : Cx) (C : Oracle) (ops : Array Oper) (draw : Bool) (s : S) {r : S} (h : (runRegionT P X C ops draw s).run = some r) : runRegion P X C ops draw s = some r := by
  unfold runRegionT at h
  simp only [DT.run_bind] at h
  unfold runRegion
  simp only
  cases hd : (runSeqT P X C ops.toList (plan X s.σ.length ops.toList) ⟨s.T, s.σ ++ List.replicate (total X ops.toList) .vir⟩ []).run with
  | none => rw [hd] at h; cases h
  | some q =>
    rw [hd] at h
    obtain ⟨fs, h1, h2⟩ := runSeqT_run P X C _ _ _ _ hd
    simp only [List.reverse_nil, List.nil_append] at h2
    rw [h1]
    simp only [Option.bind_some] at h ⊢
    rw [h2] at h
    cases hk : (draw && !okOrders ops fs) with
    | true =>
      rw [hk] at h
      simp only [DT.run_bind, if_true] at h ⊢
      cases hd' : (runSeqT P X C ops.toList (plan X s.σ.length ops.toList) ⟨s.T, fz s.σ q.1.σ ++ List.replicate (total X ops.toList) .vir⟩ []).run with
      | none => rw [hd'] at h; cases h
      | some q' =>
        rw [hd'] at h
        obtain ⟨fs', h1', h2'⟩ := runSeqT_run P X C _ _ _ _ hd'
        simp only [List.reverse_nil, List.nil_append] at h2'
        rw [h1']
        simp only [Option.bind_some] at h ⊢
        rw [h2'] at h
        cases hk' : okOrders ops fs' with
        | true => rw [hk'] at h; simpa [DT.run] using h
        | false => rw [hk'] at h; simp [DT.run] at h
    | false =>
      rw [hk] at h
      simpa [DT.run] using h

def vloopT (body : S → DT (VX × S)) (pre : S → S) : Nat → S → DT (VX × S)
  | 0, _ => .none
  | n + 1, s => (body (pre s)).bind fun r => match r with
    | (.normal, s') => vloopT body pre n s'
    | r => .ret r

def execT (P : Program) (X : Cx) (L : Nat → Bool) (C : Oracle) (f m n : Nat) : Code → Nat → S → DT (VX × S)
  | .skip, _, s => .ret (.normal, s)
  | .region _ ops draw, _, s => (runRegionT P X C ops draw s).bind fun s' => .ret (.normal, s')
  | .seq a b, k, s => (execT P X L C f m n a k s).bind fun r => match r with
    | (.normal, s') => execT P X L C f m n b k s'
    | r => .ret r
  | .cond c a b, k, s => match ev s.T c with
    | .bool t => .test t (execT P X L C f m n a k s) (execT P X L C f m n b k s)
    | _ => .none
  | .block id c, _, s => (execT P X L C f m n c id s).bind fun r => match r with
    | (.exit j, s') => match Nat.beq j id with
      | true => .ret (.normal, s')
      | false => .ret (.exit j, s')
    | r => .ret r
  | .loop c, k, s => match L k with
    | true => .cut (vloop (fun s => exec P X C f m n c k s) (prep m (X.keep f k)) n s) .ret
    | false => vloopT (fun s => execT P X L C f m n c k s) (prep m (X.keep f k)) n s
  | .exit id, _, s => .ret (.exit id, s)
  | .ret, _, s => .ret (.ret, s)
  | _, _, _ => .none

theorem vloopT_run {bT : S → DT (VX × S)} {b : S → Option (VX × S)} {pre : S → S} (hb : ∀ s r, (bT s).run = some r → b s = some r) : ∀ (n : Nat) (s : S) {r : VX × S}, (vloopT bT pre n s).run = some r → vloop b pre n s = some r
  | 0, s, r, h => by simp [vloopT, DT.run] at h
  | n + 1, s, r, h => by
    simp only [vloopT, DT.run_bind] at h
    simp only [vloop]
    cases hd : (bT (pre s)).run with
    | none => rw [hd] at h; cases h
    | some q =>
      rw [hd] at h
      rw [hb _ _ hd]
      simp only [Option.bind_some] at h
      obtain ⟨x, s'⟩ := q
      cases x with
      | normal => exact vloopT_run hb n s' h
      | exit j => simpa [DT.run] using h
      | ret => simpa [DT.run] using h

theorem execT_run (P : Program) (X : Cx) (L : Nat → Bool) (C : Oracle) (f m n : Nat) : ∀ (c : Code) (k : Nat) (s : S) {r : VX × S}, (execT P X L C f m n c k s).run = some r → exec P X C f m n c k s = some r := by
  intro c
  induction c with
  | skip => intro k s r h; simpa [execT, exec, DT.run] using h
  | region id ops draw =>
    intro k s r h
    simp only [execT, DT.run_bind] at h
    simp only [exec]
    cases hd : (runRegionT P X C ops draw s).run with
    | none => rw [hd] at h; cases h
    | some q => rw [hd] at h; rw [runRegionT_run P X C ops draw s hd]; simpa [DT.run] using h
  | seq a b iha ihb =>
    intro k s r h
    simp only [execT, DT.run_bind] at h
    simp only [exec]
    cases hd : (execT P X L C f m n a k s).run with
    | none => rw [hd] at h; cases h
    | some q =>
      rw [hd] at h
      rw [iha k s hd]
      obtain ⟨x, s'⟩ := q
      cases x with
      | normal => exact ihb k s' h
      | exit j => simpa [DT.run] using h
      | ret => simpa [DT.run] using h
  | cond c a b iha ihb =>
    intro k s r h
    simp only [execT] at h
    simp only [exec]
    split at h
    · rename_i t ht
      rw [ht]
      cases t with
      | true => exact iha k s h
      | false => exact ihb k s h
    · simp [DT.run] at h
  | block id c ih =>
    intro k s r h
    simp only [execT, DT.run_bind] at h
    simp only [exec]
    cases hd : (execT P X L C f m n c id s).run with
    | none => rw [hd] at h; cases h
    | some q =>
      rw [hd] at h
      rw [ih id s hd]
      obtain ⟨x, s'⟩ := q
      cases x with
      | normal => simpa [DT.run] using h
      | ret => simpa [DT.run] using h
      | exit j =>
        simp only [Option.bind_some] at h
        cases hj : Nat.beq j id with
        | true => rw [hj] at h; simp only [Nat.eq_of_beq_eq_true hj, if_true]; simpa [DT.run] using h
        | false => rw [hj] at h; simp only [Nat.ne_of_beq_eq_false hj, if_false]; simpa [DT.run] using h
  | loop c ih =>
    intro k s r h
    simp only [execT] at h
    simp only [exec]
    split at h
    · cases ho : vloop (fun s => exec P X C f m n c k s) (prep m (X.keep f k)) n s with
      | none => rw [ho] at h; simp [DT.run] at h
      | some x => rw [ho] at h; simpa [DT.run] using h
    · exact vloopT_run (fun s r h => ih k s h) n s h
  | exit id => intro k s r h; simpa [execT, exec, DT.run] using h
  | ret => intro k s r h; simpa [execT, exec, DT.run] using h
  | _ => intro k s r h; simp [execT, DT.run] at h

/-- A function's call: its body's tree, then what it leaves. -/
def callL (P : Program) (X : Cx) (L : Nat → Bool) (C : Oracle) (N f : Nat) (fi : FI) (args : List V) (σ : Store) : DT (V × Store) :=
  (execT P X L C f σ.length N fi.body 0 ⟨args ++ List.replicate (fi.ntmps - args.length) .undef, σ⟩).bind fun r => match r with
    | (.exit _, _) => .none
    | (_, s) => match leave X σ.length fi s with
      | some v => .ret v
      | none => .none

theorem callL_run {P : Program} {X : Cx} {L : Nat → Bool} {O : Oracle} {N n f : Nat} {fi : FI} {args : List V} {σ : Store} {r : V × Store} (ho : O f args σ = none) (hf : X.fn f = some fi)
    (h : (callL P X L (call P X O N n) N f fi args σ).run = some r) : call P X O N (n + 1) f args σ = some r := by
  unfold callL at h
  rw [DT.run_bind] at h
  unfold call
  rw [ho, hf]
  simp only
  cases hd : (execT P X L (call P X O N n) f σ.length N fi.body 0 ⟨args ++ List.replicate (fi.ntmps - args.length) .undef, σ⟩).run with
  | none => rw [hd] at h; cases h
  | some q =>
    rw [hd] at h
    rw [execT_run _ _ _ _ _ _ _ _ _ _ hd]
    obtain ⟨x, s⟩ := q
    cases x with
    | exit j => simp [DT.run] at h
    | normal =>
      simp only [Option.bind_some] at h ⊢
      split at h
      · rename_i v hv; rw [hv]; simpa [DT.run] using h
      · simp [DT.run] at h
    | ret =>
      simp only [Option.bind_some] at h ⊢
      split at h
      · rename_i v hv; rw [hv]; simpa [DT.run] using h
      · simp [DT.run] at h

/-- No loop is cut. -/
abbrev callT (P : Program) (X : Cx) (C : Oracle) (N f : Nat) (fi : FI) (args : List V) (σ : Store) : DT (V × Store) := callL P X (fun _ => false) C N f fi args σ

/-- One path of a function's call. -/
theorem call_path {P : Program} {X : Cx} {O : Oracle} {N n f : Nat} {fi : FI} {args : List V} {σ : Store} {r : V × Store} {gs : List G} {q : Prop} (ho : O f args σ = none) (hf : X.fn f = some fi)
    (h : path gs (callT P X (call P X O N n) N f fi args σ) = some (r, q)) (hq : q) : call P X O N (n + 1) f args σ = some r := callL_run ho hf (path_run _ h hq)
/-- .. with loops cut. -/
theorem call_pathL {P : Program} {X : Cx} {O : Oracle} {N n f : Nat} {fi : FI} {args : List V} {σ : Store} {r : V × Store} {gs : List G} {q : Prop} (L : Nat → Bool) (ho : O f args σ = none) (hf : X.fn f = some fi)
    (h : path gs (callL P X L (call P X O N n) N f fi args σ) = some (r, q)) (hq : q) : call P X O N (n + 1) f args σ = some r := callL_run ho hf (path_run _ h hq)

/-! ### Loops, round by round -/
/-- The loop of a body that stands in a block. -/
def loopIn : Code → Nat → Nat → Option Code
  | .seq a b, k, w => match loopIn a k w with
    | some c => some c
    | none => loopIn b k w
  | .cond _ a b, k, w => match loopIn a k w with
    | some c => some c
    | none => loopIn b k w
  | .block id c, _, w => loopIn c id w
  | .loop c, k, w => match Nat.beq k w with
    | true => some c
    | false => loopIn c k w
  | _, _, _ => none

def loopRun (P : Program) (X : Cx) (C : Oracle) (f m N : Nat) (body : Code) (w : Nat) (s : S) : Option (VX × S) := match loopIn body 0 w with
  | some c => vloop (fun s => exec P X C f m N c w s) (prep m (X.keep f w)) N s
  | none => none

/-- The same, from a state that is ready for a round. -/
def loopFrom (P : Program) (X : Cx) (C : Oracle) (f m N : Nat) (body : Code) (w : Nat) : Nat → S → Option (VX × S)
  | 0, _ => none
  | n + 1, s => match loopIn body 0 w with
    | none => none
    | some c => match exec P X C f m N c w s with
      | some (.normal, s') => loopFrom P X C f m N body w n (prep m (X.keep f w) s')
      | r => r

theorem loopRun_from {P : Program} {X : Cx} {C : Oracle} {f m N : Nat} {body : Code} {w : Nat} (s : S) : loopRun P X C f m N body w s = loopFrom P X C f m N body w N (prep m (X.keep f w) s) := by
  unfold loopRun
  cases hb : loopIn body 0 w with
  | none => cases N <;> simp [loopFrom, hb]
  | some c =>
    simp only
    have key : ∀ n s, vloop (fun s => exec P X C f m N c w s) (prep m (X.keep f w)) n s = loopFrom P X C f m N body w n (prep m (X.keep f w) s) := by
      intro n
      induction n with
      | zero => intro s; rfl
      | succ n ih =>
        intro s
        simp only [vloop, loopFrom, hb]
        cases he : exec P X C f m N c w (prep m (X.keep f w) s) with
        | none => rfl
        | some q => obtain ⟨x, s'⟩ := q; cases x <;> simp only [ih]
    exact key N s

/-- A round, as a tree. -/
def roundT (P : Program) (X : Cx) (L : Nat → Bool) (C : Oracle) (f m N : Nat) (body : Code) (w : Nat) (s : S) : DT (VX × S) := match loopIn body 0 w with
  | none => .none
  | some c => (execT P X L C f m N c w s).bind fun r => match r with
    | (.normal, s') => .ret (.normal, prep m (X.keep f w) s')
    | r => .ret r

def goOn (F : S → Option (VX × S)) : VX × S → Option (VX × S)
  | (.normal, s') => F s'
  | r => some r

theorem round_run {P : Program} {X : Cx} {L : Nat → Bool} {C : Oracle} {f m N : Nat} {body : Code} {w : Nat} {s : S} {r : VX × S} (h : (roundT P X L C f m N body w s).run = some r) (n : Nat) :
    loopFrom P X C f m N body w (n + 1) s = goOn (loopFrom P X C f m N body w n) r := by
  unfold roundT at h
  cases hc : loopIn body 0 w with
  | none => rw [hc] at h; simp [DT.run] at h
  | some c =>
    rw [hc] at h
    simp only [loopFrom, hc]
    rw [DT.run_bind] at h
    cases hd : (execT P X L C f m N c w s).run with
    | none => rw [hd] at h; cases h
    | some q =>
      rw [hd] at h
      simp only [execT_run _ _ _ _ _ _ _ _ _ _ hd]
      obtain ⟨x, s'⟩ := q
      cases x <;> simp only [Option.bind_some, DT.run, Option.some.injEq] at h <;> subst h <;> rfl

/-- One path of a round that goes on. -/
theorem round_on {P : Program} {X : Cx} {C : Oracle} {f m N : Nat} {body : Code} {w : Nat} {s s' : S} {gs : List G} {q : Prop} (L : Nat → Bool) (h : path gs (roundT P X L C f m N body w s) = some ((.normal, s'), q)) (hq : q) (n : Nat) :
    loopFrom P X C f m N body w (n + 1) s = loopFrom P X C f m N body w n s' := round_run (path_run _ h hq) n
/-- .. that leaves the loop. -/
theorem round_off {P : Program} {X : Cx} {C : Oracle} {f m N : Nat} {body : Code} {w : Nat} {s s' : S} {gs : List G} {q : Prop} {j : Nat} (L : Nat → Bool) (h : path gs (roundT P X L C f m N body w s) = some ((.exit j, s'), q)) (hq : q) (n : Nat) :
    loopFrom P X C f m N body w (n + 1) s = some (.exit j, s') := round_run (path_run _ h hq) n
theorem round_ret {P : Program} {X : Cx} {C : Oracle} {f m N : Nat} {body : Code} {w : Nat} {s s' : S} {gs : List G} {q : Prop} (L : Nat → Bool) (h : path gs (roundT P X L C f m N body w s) = some ((.ret, s'), q)) (hq : q) (n : Nat) :
    loopFrom P X C f m N body w (n + 1) s = some (.ret, s') := round_run (path_run _ h hq) n
end Go.VM
