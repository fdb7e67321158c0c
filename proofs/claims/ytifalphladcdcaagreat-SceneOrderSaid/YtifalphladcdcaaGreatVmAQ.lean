/- The machine with calls of any depth: what some depth answers. No condition beyond those stated. -/
import Derived.Test.YtifalphladcdcaaGreatVmAO
set_option linter.unusedVariables false
set_option linter.unusedSimpArgs false
namespace Go.VM
/-- From some depth on. -/
def Ev (p : Nat → Prop) : Prop := ∃ n, ∀ m, n ≤ m → p m
theorem Ev.and {p q : Nat → Prop} (h : Ev p) (g : Ev q) : Ev fun m => p m ∧ q m := by
  obtain ⟨n, h⟩ := h
  obtain ⟨k, g⟩ := g
  exact ⟨max n k, fun m hm => ⟨h m (by omega), g m (by omega)⟩⟩
theorem Ev.mono {p q : Nat → Prop} (h : Ev p) (g : ∀ m, p m → q m) : Ev q := by
  obtain ⟨n, h⟩ := h
  exact ⟨n, fun m hm => g m (h m hm)⟩
theorem Ev.all {p : Nat → Prop} (h : ∀ m, p m) : Ev p := ⟨0, fun m _ => h m⟩

section
variable {P : Program} {X : Cx} {C : Oracle} {D : Nat → Oracle}
/-- What one oracle answers, others answer from some depth on. -/
def Ap (C : Oracle) (D : Nat → Oracle) : Prop := ∀ f a σ r, C f a σ = some r → Ev fun m => D m f a σ = some r

def callQ (C : Oracle) (f nid cnt : Nat) (s : Imp) (x : List V × List Ob) : M :=
  match C f x.1 x.2 with
  | none => .fail
  | some (r, σ') =>
    if x.2.length ≤ σ'.length ∧ σ'.length ≤ x.2.length + cnt ∧ s.ids.length = x.2.length ∧ s.ids.all (fun id => s.sn.all (·.1 != id)) then
      let ids := s.ids ++ (List.range (σ'.length - x.2.length)).map (nid + ·)
      virs nid (σ'.length - x.2.length) fun ok =>
      if ok then .done (renV (fun k => ids[k]?) r)
        (if s.ids.isEmpty && scalar r && σ'.isEmpty then [] else s.sn ++ ids.zip (σ'.map (renOb fun k => ids[k]?)))
      else .fail
    else .fail

theorem thr_call (σ : Store) (rw' : Nat → Bool) (args : List V) : Thr σ fun (k : Imp → List V × List Ob → M) => impArgs rw' 0 ⟨[], []⟩ args fun s a => impObs 40 0 s fun s obs => k s (a, obs) :=
  (thr_impArgs σ rw' args 0 ⟨[], []⟩).bind (J := fun s a k => impObs 40 0 s fun s obs => k s (a, obs)) fun s a =>
    (thr_impObs σ 40 0 s).bind (J := fun s obs k => k s (a, obs)) fun s obs => .pure s (a, obs)

theorem callM_ap (h : Ap C D) (rw' : Nat → Bool) (f : Nat) (args : List V) (nid cnt : Nat) (σ : Store) {r : V × List (Nat × Ob)} (hr : (callM C rw' f args nid cnt).run σ = some r) :
    Ev fun m => (callM (D m) rw' f args nid cnt).run σ = some r ∧ (callM (D m) rw' f args nid cnt).reads σ = (callM C rw' f args nid cnt).reads σ := by
  have e : ∀ C, callM C rw' f args nid cnt = impArgs rw' 0 ⟨[], []⟩ args fun s a => impObs 40 0 s fun s obs => callQ C f nid cnt s (a, obs) := fun _ => rfl
  rcases thr_call σ rw' args with g | ⟨s, b, pre, g⟩
  · rw [e, g (callQ C f nid cnt)] at hr; cases hr
  · have g0 := g (callQ C f nid cnt)
    rw [e, g0.1] at hr
    cases hc : C f b.1 b.2 with
    | none =>
      have : callQ C f nid cnt s b = .fail := by unfold callQ; rw [hc]
      rw [this] at hr; cases hr
    | some q =>
      refine (h f b.1 b.2 q hc).mono fun m hm => ?_
      have hk : callQ (D m) f nid cnt s b = callQ C f nid cnt s b := by unfold callQ; rw [hm, hc]
      have g1 := g (callQ (D m) f nid cnt)
      rw [hk] at g1
      rw [e, e, g1.1, g1.2, g0.2]
      exact ⟨hr, rfl⟩

theorem opM_ap (h : Ap C D) (T : List V) (nid : Nat) (o : Oper) (σ : Store) {r : V × List (Nat × Ob)} (hr : (opM P X C T nid o).run σ = some r) :
    Ev fun m => (opM P X (D m) T nid o).run σ = some r ∧ (opM P X (D m) T nid o).reads σ = (opM P X C T nid o).reads σ := by
  unfold opM at hr ⊢
  split
  · rename_i f args _ _ ho
    rw [ho] at hr
    simp only at hr
    split
    · rename_i g caps hf
      rw [hf] at hr
      simp only at hr
      split
      · rename_i hg
        rw [if_pos hg] at hr
        exact callM_ap h _ _ _ _ _ _ hr
      · rename_i hg
        rw [if_neg hg] at hr
        exact .all fun _ => ⟨hr, rfl⟩
    · rename_i hf
      split at hr
      · rename_i g caps hf'
        exact absurd hf' (hf _ _)
      · exact .all fun _ => ⟨hr, rfl⟩
  · rename_i ho
    split at hr
    · rename_i f args a b ho'
      exact (ho _ _ _ ho').elim
    · exact .all fun _ => ⟨hr, rfl⟩

theorem runOp_ap (h : Ap C D) (ops : List Oper) (i nid : Nat) (o : Oper) (s : S) {r : S × Foot} (hr : runOp P X C ops i nid o s = some r) :
    Ev fun m => runOp P X (D m) ops i nid o s = some r := by
  unfold runOp at hr ⊢
  split
  · rename_i hw; rw [hw] at hr; cases hr
  · rename_i hw; rw [hw] at hr; exact .all fun _ => hr
  · rename_i hw
    rw [hw] at hr
    simp only at hr
    cases hm : (opM P X C s.T nid o).run s.σ with
    | none => rw [hm] at hr; cases hr
    | some q =>
      rw [hm] at hr
      refine (opM_ap h s.T nid o s.σ hm).mono fun m hm' => ?_
      simp only [hm'.1, hm'.2]
      exact hr

theorem runSeq_ap (h : Ap C D) (ops : List Oper) : ∀ (l : List (Nat × Nat × Oper)) (s : S) {r : S × List Foot}, runSeq P X C ops l s = some r → Ev fun m => runSeq P X (D m) ops l s = some r
  | [], s, r, hr => .all fun _ => hr
  | (i, nid, o) :: rest, s, r, hr => by
    simp only [runSeq] at hr ⊢
    split at hr
    · cases hr
    · rename_i s' f h1
      split at hr
      · cases hr
      · rename_i s'' fs h2
        refine ((runOp_ap h ops i nid o s h1).and (runSeq_ap h ops rest s' h2)).mono fun m hm => ?_
        simp only [hm.1, hm.2]
        exact hr

theorem runRegion_ap (h : Ap C D) (ops : Array Oper) (draw : Bool) (s : S) {r : S} (hr : runRegion P X C ops draw s = some r) : Ev fun m => runRegion P X (D m) ops draw s = some r := by
  unfold runRegion at hr ⊢
  simp only at hr ⊢
  split at hr
  · cases hr
  · rename_i s' fs h1
    split at hr
    · rename_i hd
      split at hr
      · cases hr
      · rename_i s'' fs' h2
        refine ((runSeq_ap h _ _ _ h1).and (runSeq_ap h _ _ _ h2)).mono fun m hm => ?_
        simp only [hm.1, hm.2, if_pos hd]
        exact hr
    · rename_i hd
      refine (runSeq_ap h _ _ _ h1).mono fun m hm => ?_
      simp only [hm, if_neg hd]
      exact hr

theorem vloop_ap {b : S → Option (VX × S)} {c : Nat → S → Option (VX × S)} (hb : ∀ s r, b s = some r → Ev fun m => c m s = some r) (pre : S → S) : ∀ (n : Nat) (s : S) {r : VX × S}, vloop b pre n s = some r → Ev fun m => vloop (c m) pre n s = some r
  | 0, s, r, h => by simp [vloop] at h
  | n + 1, s, r, h => by
    simp only [vloop] at h ⊢
    cases hd : b (pre s) with
    | none => rw [hd] at h; cases h
    | some q =>
      rw [hd] at h
      obtain ⟨x, s'⟩ := q
      cases x with
      | normal =>
        refine ((hb _ _ hd).and (vloop_ap hb pre n s' h)).mono fun m hm => ?_
        rw [hm.1]; exact hm.2
      | exit j => refine (hb _ _ hd).mono fun m hm => ?_; rw [hm]; exact h
      | ret => refine (hb _ _ hd).mono fun m hm => ?_; rw [hm]; exact h

theorem exec_ap (h : Ap C D) (f m n : Nat) : ∀ (c : Code) (k : Nat) (s : S) {r : VX × S}, exec P X C f m n c k s = some r → Ev fun q => exec P X (D q) f m n c k s = some r := by
  intro c
  induction c with
  | skip => intro k s r hr; exact .all fun _ => hr
  | region id ops draw =>
    intro k s r hr
    simp only [exec] at hr ⊢
    cases h1 : runRegion P X C ops draw (regI X f m id s) with
    | none => rw [h1] at hr; cases hr
    | some s1 =>
      rw [h1] at hr
      refine (runRegion_ap h ops draw _ h1).mono fun q hq => ?_
      rw [hq]; exact hr
  | seq a b iha ihb =>
    intro k s r hr
    simp only [exec] at hr ⊢
    cases hd : exec P X C f m n a k s with
    | none => rw [hd] at hr; cases hr
    | some q =>
      rw [hd] at hr
      obtain ⟨x, s'⟩ := q
      cases x with
      | normal => refine ((iha k s hd).and (ihb k s' hr)).mono fun q hq => ?_; rw [hq.1]; exact hq.2
      | exit j => refine (iha k s hd).mono fun q hq => ?_; rw [hq]; exact hr
      | ret => refine (iha k s hd).mono fun q hq => ?_; rw [hq]; exact hr
  | cond c a b iha ihb =>
    intro k s r hr
    simp only [exec] at hr ⊢
    split at hr
    · cases hd : exec P X C f m n a k (joinI (join X f m c) s) with
      | none => rw [hd] at hr; cases hr
      | some q => rw [hd] at hr; refine (iha k _ hd).mono fun q hq => ?_; simp only [hq]; exact hr
    · cases hd : exec P X C f m n b k (joinI (join X f m c) s) with
      | none => rw [hd] at hr; cases hr
      | some q => rw [hd] at hr; refine (ihb k _ hd).mono fun q hq => ?_; simp only [hq]; exact hr
    · cases hr
  | block id c ih =>
    intro k s r hr
    simp only [exec] at hr ⊢
    cases hd : exec P X C f m n c id (blockI X f m id s) with
    | none => rw [hd] at hr; cases hr
    | some q => rw [hd] at hr; refine (ih id _ hd).mono fun q hq => ?_; simp only [hq]; exact hr
  | loop c ih =>
    intro k s r hr
    simp only [exec] at hr ⊢
    exact vloop_ap (fun s r => ih k s) (pre X f m k) n s hr
  | exit id => intro k s r hr; exact .all fun _ => hr
  | ret => intro k s r hr; exact .all fun _ => hr
  | _ => intro k s r hr; simp [exec] at hr

theorem genO_ap (h : Ap C D) : Ap (genO X C) (fun m => genO X (D m)) := fun f a σ r hr => h f _ σ r hr

/-- A body's run, and what it leaves. -/
def callB (P : Program) (X : Cx) (C : Oracle) (N f : Nat) (fi : FI) (args : List V) (σ : Store) : Option (V × Store) :=
  match exec P X C f σ.length N fi.body 0 ⟨args ++ List.replicate (fi.ntmps - args.length) .undef, σ⟩ with
  | some (.normal, s) => leave X σ.length fi (fresh (X.wr f) s)
  | some (.ret, s) => leave X σ.length fi (fresh (X.wr f) s)
  | _ => none

theorem callB_ap (h : Ap C D) {N f : Nat} {fi : FI} {args : List V} {σ : Store} {r : V × Store} (hr : callB P X (genO X C) N f fi args σ = some r) : Ev fun m => callB P X (genO X (D m)) N f fi args σ = some r := by
  unfold callB at hr ⊢
  cases hd : exec P X (genO X C) f σ.length N fi.body 0 ⟨args ++ List.replicate (fi.ntmps - args.length) .undef, σ⟩ with
  | none => rw [hd] at hr; cases hr
  | some q => rw [hd] at hr; refine (exec_ap (genO_ap h) _ _ _ _ _ _ hd).mono fun q hq => ?_; simp only [hq]; exact hr

theorem call_eq {O : Oracle} {N n f : Nat} {args : List V} {σ : Store} : call P X O N (n + 1) f args σ = match O f args σ with
    | some r => some r
    | none => match X.fn f with
      | none => none
      | some fi => callB P X (genO X (call P X O N n)) N f fi args σ := by
  rw [call]
  rfl

theorem call_ap {O : Oracle} {N : Nat} (n : Nat) (h : Ap (call P X O N n) (fun m => D m)) {f : Nat} {args : List V} {σ : Store} {r : V × Store} (hr : call P X O N (n + 1) f args σ = some r)
    : Ev fun m => (match O f args σ with
    | some r => some r
    | none => match X.fn f with
      | none => none
      | some fi => callB P X (genO X (D m)) N f fi args σ) = some r := by
  rw [call_eq] at hr
  cases ho : O f args σ with
  | some q => rw [ho] at hr; exact .all fun _ => hr
  | none =>
    rw [ho] at hr
    cases hf : X.fn f with
    | none => rw [hf] at hr; cases hr
    | some fi => rw [hf] at hr; exact callB_ap h hr

theorem call_up (O : Oracle) (N : Nat) : ∀ (n : Nat) (f : Nat) (args : List V) (σ : Store) (r : V × Store), call P X O N n f args σ = some r → call P X O N (n + 1) f args σ = some r
  | 0, f, args, σ, r, h => by simp [call] at h
  | n + 1, f, args, σ, r, h => by
    obtain ⟨k, hk⟩ := call_ap (D := fun _ => call P X O N (n + 1)) n (fun f a σ r hr => .all fun _ => call_up O N n f a σ r hr) h
    rw [call_eq]
    exact hk k (Nat.le_refl k)

theorem call_le {O : Oracle} {N n m : Nat} (hnm : n ≤ m) {f : Nat} {args : List V} {σ : Store} {r : V × Store} (h : call P X O N n f args σ = some r) : call P X O N m f args σ = some r := by
  obtain ⟨k, rfl⟩ := Nat.exists_eq_add_of_le hnm
  induction k with
  | zero => exact h
  | succ k ih => exact call_up O N _ _ _ _ _ (ih (Nat.le_add_right ..))

/-- What a call of some depth answers. -/
noncomputable def UC (P : Program) (X : Cx) (O : Oracle) (N : Nat) : Oracle := fun f args σ =>
  open Classical in if h : ∃ r, ∃ n, call P X O N n f args σ = some r then some (Classical.choose h) else none

theorem UC_of {O : Oracle} {N n f : Nat} {args : List V} {σ : Store} {r : V × Store} (h : call P X O N n f args σ = some r) : UC P X O N f args σ = some r := by
  have he : ∃ r, ∃ n, call P X O N n f args σ = some r := ⟨r, n, h⟩
  unfold UC
  rw [dif_pos he]
  obtain ⟨k, hk⟩ := Classical.choose_spec he
  have h1 := call_le (Nat.le_max_left n k) h
  have h2 := call_le (Nat.le_max_right n k) hk
  rw [h1] at h2
  rw [Option.some.inj h2]

theorem UC_to {O : Oracle} {N f : Nat} {args : List V} {σ : Store} {r : V × Store} (h : UC P X O N f args σ = some r) : ∃ n, call P X O N n f args σ = some r := by
  unfold UC at h
  split at h
  · rename_i he
    have := Classical.choose_spec he
    cases h
    exact this
  · cases h

theorem UC_ap (O : Oracle) (N : Nat) : Ap (UC P X O N) (fun m => call P X O N m) := fun f a σ r h => by
  obtain ⟨n, hn⟩ := UC_to h
  exact ⟨n, fun m hm => call_le hm hn⟩

theorem os_UC (hX : X.OK P) (hm : P.follows .mixedOrders = true) {O : Oracle} (hO : OS P O) (N : Nat) : OS P (UC P X O N) := fun f args σ r σ' h => by
  obtain ⟨n, hn⟩ := UC_to h
  exact call_ok hX hm hO N n f args σ r σ' hn

theorem callL_runB {L : Nat → Bool} {N f : Nat} {fi : FI} {args : List V} {σ : Store} {r : V × Store} (h : (callL P X L C N f fi args σ).run = some r) : callB P X C N f fi args σ = some r := by
  unfold callL at h
  simp only [forceO_eq] at h
  rw [DT.run_bind] at h
  unfold callB
  cases hd : (execT P X L C f σ.length N fi.body 0 ⟨args ++ List.replicate (fi.ntmps - args.length) .undef, σ⟩).run with
  | none => rw [hd] at h; cases h
  | some q =>
    rw [hd] at h
    rw [execT_run _ _ _ _ _ _ _ _ _ _ hd]
    obtain ⟨x, s⟩ := q
    cases x with
    | exit j => simp [DT.run] at h
    | normal =>
      simp only [Option.bind_some] at h ⊢
      split at h
      · rename_i v hv; rw [hv]; simpa [DT.run] using h
      · simp [DT.run] at h
    | ret =>
      simp only [Option.bind_some] at h ⊢
      split at h
      · rename_i v hv; rw [hv]; simpa [DT.run] using h
      · simp [DT.run] at h

theorem UC_call {L : Nat → Bool} {O : Oracle} {N f : Nat} {fi : FI} {args : List V} {σ : Store} {r : V × Store} (ho : O f args σ = none) (hf : X.fn f = some fi)
    (h : (callL P X L (genO X (UC P X O N)) N f fi args σ).run = some r) : UC P X O N f args σ = some r := by
  obtain ⟨n, hn⟩ := callB_ap (UC_ap O N) (callL_runB h)
  refine UC_of (n := n + 1) ?_
  rw [call_eq, ho, hf]
  exact hn n (Nat.le_refl n)
end
end Go.VM
