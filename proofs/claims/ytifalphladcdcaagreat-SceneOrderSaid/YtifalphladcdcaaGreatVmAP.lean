/- A run of the machine's tree beside a plain tree that tells it. No condition beyond those stated. -/
import Derived.Test.YtifalphladcdcaaGreatVmAQ
import Derived.Test.YtifalphladcdcaaGreatWk
set_option linter.unusedVariables false
set_option linter.unusedSimpArgs false
namespace Go.VM

/-- What an answer may be: its kinds, what each looks like, and that there are no others. -/
structure Ent (α : Type) where
  ty : Type
  out : ty → α
  ex : (ty → Prop) → Prop
  ok : ∀ g, ex g ↔ ∃ b, g b

structure Row where
  ty : Type
  cells : ty → List V
  dec : List V → Option ty
  ok : ∀ (o : Option (List V)) (r : ty), o.bind dec = some r → o = some (cells r)

inductive PT (A : Type) : Type 1 where
  | fail
  | ret (a : A)
  | testD (p : Prop) (i : Decidable p) (t : p → PT A) (e : ¬ p → PT A)
  | testB (c : Bool) (t : c = true → PT A) (e : c = false → PT A)
  | auto (n : Nat) (d : PT A)
  | known {c b : Bool} (h : c = b) (d : PT A)
  | look (R : Row) (o : Option (List V)) (f : R.ty → PT A)
  | ask (E : Ent (V × Store)) {o : Option (V × Store)} {v : Option E.ty} (h : ∀ b, v = some b → o = some (E.out b)) (f : E.ty → PT A)
  | tot {B : Type} (out : B → V × Store) {o : Option (V × Store)} {v : B} (h : o = some (out v)) (f : B → PT A)
  | cut (E : Ent (VX × S)) {o : Option (VX × S)} {v : Option E.ty} (h : ∀ b, v = some b → o = some (E.out b)) (f : E.ty → PT A)

namespace PT
variable {A B α : Type}
abbrev test (p : Prop) [i : Decidable p] (t : p → PT A) (e : ¬ p → PT A) : PT A := .testD p i t e
/-- What a plain tree comes to. -/
noncomputable def ev : PT A → (A → Option B) → Option B
  | .fail, _ => none
  | .ret a, k => k a
  | .testD p i t e, k => @dite _ p i (fun h => (t h).ev k) (fun h => (e h).ev k)
  | .testB c t e, k => if h : c = true then (t h).ev k else (e (Bool.eq_false_iff.mpr h)).ev k
  | .auto _ d, k => d.ev k
  | .known _ d, k => d.ev k
  | .look R o f, k => (o.bind R.dec).bind fun w => (f w).ev k
  | .ask _ (v := v) _ f, k => v.bind fun b => (f b).ev k
  | .tot _ (v := v) _ f, k => bnd v fun b => (f b).ev k
  | .cut _ (v := v) _ f, k => v.bind fun b => (f b).ev k

/-- The same as a proposition. -/
noncomputable def evP (out : A → α) (x : α) (d : PT A) : Prop :=
  PT.rec (motive := fun _ => Prop) False (fun a => out a = x)
    (fun p i _ _ t e => (∃ h : p, @decide p i = true ∧ t h) ∨ (∃ h : ¬ p, @decide p i = false ∧ e h))
    (fun c _ _ t e => (∃ h : c = true, c = true ∧ t h) ∨ (∃ h : c = false, c = false ∧ e h))
    (fun _ _ d => d)
    (fun {c} {b} _ _ d => c = b ∧ d)
    (fun R o _ f => ∃ w : R.ty, o = some (R.cells w) ∧ f w)
    (fun E {o} {_} _ _ f => E.ex fun b => o = some (E.out b) ∧ f b)
    (fun {B} out {o} {_} _ _ f => ∃ b : B, o = some (out b) ∧ f b)
    (fun E {o} {_} _ _ f => E.ex fun b => o = some (E.out b) ∧ f b) d

/-- What is to be looked at next. -/
noncomputable def sk (d : DT α) : DT α :=
  DT.rec (motive := fun _ => DT α) .none (fun a => .ret a) (fun c t e _ _ => .test c t e) (fun n o k _ => .look n o k) (fun o k _ => .ask o k) (fun w s o k _ => .cut w s o k)
    (fun s _ ih => ih s) (fun fs _ ih => ih fs) d

/-- So many decisions that can be computed. -/
noncomputable def autos (f : DT α → Prop) (n : Nat) : DT α → Prop := Nat.rec (motive := fun _ => DT α → Prop) f
  (fun _ g m => match sk m with
      | .test c t e => (match c with | true => g t | false => g e)
      | .look _ o k => (match o with | some y => g (k y) | none => False)
      | .ask o k => (match o with | some y => g (k y) | none => False)
      | .cut _ _ o k => (match o with | some y => g (k y) | none => False)
      | _ => False) n

/-- The machine's tree along a plain tree. -/
noncomputable def fol (out : A → α) (x : α) (d : PT A) : DT α → Prop :=
  PT.rec (motive := fun _ => DT α → Prop) (fun _ => False)
    (fun _ m => match sk m with | .ret y => y = x | _ => False)
    (fun p _ _ _ t e m => match sk m with | .test c t' e' => (∃ h : p, c = true ∧ t h t') ∨ (∃ h : ¬ p, c = false ∧ e h e') | _ => False)
    (fun c _ _ t e m => match sk m with | .test c' t' e' => (∃ h : c = true, c' = true ∧ t h t') ∨ (∃ h : c = false, c' = false ∧ e h e') | _ => False)
    (fun n _ d => autos d n)
    (fun {_} {b} _ _ d m => match sk m with
      | .test c' t e => c' = b ∧ (match (generalizing := false) b with | true => d t | false => d e)
      | _ => False)
    (fun R _ _ f m => match sk m with | .look _ o k => ∃ w : R.ty, o = some (R.cells w) ∧ f w (k (R.cells w)) | _ => False)
    (fun E {_} {_} _ _ f m => match sk m with | .ask o k => E.ex fun b => o = some (E.out b) ∧ f b (k (E.out b)) | _ => False)
    (fun {B} out {_} {_} _ _ f m => match sk m with | .ask o k => ∃ b : B, o = some (out b) ∧ f b (k (out b)) | _ => False)
    (fun E {_} {_} _ _ f m => match sk m with | .cut _ _ o k => E.ex fun b => o = some (E.out b) ∧ f b (k (E.out b)) | _ => False) d

theorem sk_run (d : DT α) : (sk d).run = d.run := by
  induction d with
  | mark s k ih => exact ih s
  | feet fs k ih => exact ih fs
  | _ => rfl

theorem autos_run {f : DT α → Prop} {x : α} (hf : ∀ m : DT α, f m → m.run = some x) : ∀ (n : Nat) (m : DT α), autos f n m → m.run = some x
  | 0, m, h => hf m h
  | n + 1, m, h => by
    have ih := autos_run hf n
    rw [← sk_run]
    change (match sk m with
      | .test c t e => (match c with | true => autos f n t | false => autos f n e)
      | .look _ o k => (match o with | some y => autos f n (k y) | none => False)
      | .ask o k => (match o with | some y => autos f n (k y) | none => False)
      | .cut _ _ o k => (match o with | some y => autos f n (k y) | none => False)
      | _ => False) at h
    split at h
    · rename_i c t e hy; rw [hy]; cases c with
      | true => exact ih t h
      | false => exact ih e h
    · rename_i n o k hy; rw [hy]; cases o with
      | none => exact h.elim
      | some y => exact ih (k y) h
    · rename_i o k hy; rw [hy]; cases o with
      | none => exact h.elim
      | some y => exact ih (k y) h
    · rename_i w s o k hy; rw [hy]; cases o with
      | none => exact h.elim
      | some y => exact ih (k y) h
    · exact h.elim

theorem fol_run (out : A → α) (x : α) (d : PT A) : ∀ (m : DT α), fol out x d m → m.run = some x := by
  induction d with
  | fail => intro m h; exact h.elim
  | ret a =>
    intro m h
    rw [← sk_run]
    change (match sk m with | .ret y => y = x | _ => False) at h
    split at h
    · rename_i y hy; rw [hy, h]; rfl
    · exact h.elim
  | testD p i t e iht ihe =>
    intro m h
    rw [← sk_run]
    change (match sk m with | .test c t' e' => (∃ h : p, c = true ∧ fol out x (t h) t') ∨ (∃ h : ¬ p, c = false ∧ fol out x (e h) e') | _ => False) at h
    split at h
    · rename_i c t' e' hy
      rw [hy]
      rcases h with ⟨hp, rfl, h⟩ | ⟨hp, rfl, h⟩
      · exact iht hp t' h
      · exact ihe hp e' h
    · exact h.elim
  | testB c t e iht ihe =>
    intro m h
    rw [← sk_run]
    change (match sk m with | .test c' t' e' => (∃ h : c = true, c' = true ∧ fol out x (t h) t') ∨ (∃ h : c = false, c' = false ∧ fol out x (e h) e') | _ => False) at h
    split at h
    · rename_i c' t' e' hy
      rw [hy]
      rcases h with ⟨hp, rfl, h⟩ | ⟨hp, rfl, h⟩
      · exact iht hp t' h
      · exact ihe hp e' h
    · exact h.elim
  | auto n d ih =>
    intro m h
    exact autos_run ih n m h
  | known hc d ih =>
    rename_i c b
    intro m h
    rw [← sk_run]
    change (match sk m with
      | .test c' t e => c' = b ∧ (match (generalizing := false) b with | true => fol out x d t | false => fol out x d e)
      | _ => False) at h
    split at h
    · rename_i c' t e hy
      rw [hy]
      obtain ⟨rfl, h⟩ := h
      cases c' with
      | true => exact ih t h
      | false => exact ih e h
    · exact h.elim
  | look R o f ih =>
    intro m h
    rw [← sk_run]
    change (match sk m with | .look _ o k => ∃ w : R.ty, o = some (R.cells w) ∧ fol out x (f w) (k (R.cells w)) | _ => False) at h
    split at h
    · rename_i n o k hy
      rw [hy]
      obtain ⟨w, rfl, h⟩ := h
      exact ih w (k (R.cells w)) h
    · exact h.elim
  | ask E hv f ih =>
    rename_i o v
    intro m h
    rw [← sk_run]
    change (match sk m with | .ask o k => E.ex fun b => o = some (E.out b) ∧ fol out x (f b) (k (E.out b)) | _ => False) at h
    split at h
    · rename_i o k hy
      rw [hy]
      obtain ⟨b, rfl, h2⟩ := (E.ok _).1 h
      exact ih b (k (E.out b)) h2
    · exact h.elim
  | tot out' hv f ih =>
    rename_i B o v
    intro m h
    rw [← sk_run]
    change (match sk m with | .ask o k => ∃ b : B, o = some (out' b) ∧ fol out x (f b) (k (out' b)) | _ => False) at h
    split at h
    · rename_i o k hy
      rw [hy]
      obtain ⟨b, rfl, h⟩ := h
      exact ih b (k (out' b)) h
    · exact h.elim
  | cut E hv f ih =>
    rename_i o v
    intro m h
    rw [← sk_run]
    change (match sk m with | .cut _ _ o k => E.ex fun b => o = some (E.out b) ∧ fol out x (f b) (k (E.out b)) | _ => False) at h
    split at h
    · rename_i w s o k hy
      rw [hy]
      obtain ⟨b, rfl, h2⟩ := (E.ok _).1 h
      exact ih b (k (E.out b)) h2
    · exact h.elim

theorem ev_evP (out : A → α) (d : PT A) {a : A} : d.ev some = some a → evP out (out a) d := by
  induction d with
  | fail => intro h; cases h
  | ret b => intro h; cases h; exact (rfl : out a = out a)
  | testD p i t e iht ihe =>
    intro h
    rw [ev] at h
    split at h
    · rename_i hp; exact .inl ⟨hp, decide_eq_true hp, iht hp h⟩
    · rename_i hp; exact .inr ⟨hp, decide_eq_false hp, ihe hp h⟩
  | testB c t e iht ihe =>
    intro h
    rw [ev] at h
    split at h
    · rename_i hp; exact .inl ⟨hp, hp, iht hp h⟩
    · rename_i hp; exact .inr ⟨Bool.eq_false_iff.mpr hp, Bool.eq_false_iff.mpr hp, ihe _ h⟩
  | auto n d ih => exact ih
  | known hc d ih => intro h; exact ⟨hc, ih h⟩
  | look R o f ih =>
    intro h
    rw [ev] at h
    obtain ⟨w, h1, h2⟩ := Option.bind_eq_some_iff.mp h
    exact ⟨w, R.ok _ _ h1, ih w h2⟩
  | ask E hv f ih =>
    rename_i o v
    intro h
    rw [ev] at h
    obtain ⟨b, h1, h2⟩ := Option.bind_eq_some_iff.mp h
    exact (E.ok _).2 ⟨b, hv b h1, ih b h2⟩
  | tot out' hv f ih =>
    rename_i B o v
    intro h
    exact ⟨v, hv, ih v h⟩
  | cut E hv f ih =>
    rename_i o v
    intro h
    rw [ev] at h
    obtain ⟨b, h1, h2⟩ := Option.bind_eq_some_iff.mp h
    exact (E.ok _).2 ⟨b, hv b h1, ih b h2⟩

/-- What comes of a plain tree that has an answer in any case. -/
noncomputable def evT [Inhabited A] : PT A → A
  | .ret a => a
  | .testD p i t e => @dite _ p i (fun h => (t h).evT) (fun h => (e h).evT)
  | .testB c t e => if h : c = true then (t h).evT else (e (Bool.eq_false_iff.mpr h)).evT
  | .auto _ d => d.evT
  | .known _ d => d.evT
  | .tot _ (v := v) _ f => bnd v fun b => (f b).evT
  | _ => default
def isT : PT A → Prop
  | .ret _ => True
  | .testD _ _ t e => (∀ h, (t h).isT) ∧ ∀ h, (e h).isT
  | .testB _ t e => (∀ h, (t h).isT) ∧ ∀ h, (e h).isT
  | .auto _ d => d.isT
  | .known _ d => d.isT
  | .tot _ (v := v) _ f => (f v).isT
  | _ => False
theorem ev_evT [Inhabited A] (d : PT A) : d.isT → d.ev some = some d.evT := by
  induction d with
  | ret a => intro _; rfl
  | testD p i t e iht ihe =>
    intro h
    rw [ev, evT]
    split
    · exact iht _ (h.1 _)
    · exact ihe _ (h.2 _)
  | testB c t e iht ihe =>
    intro h
    rw [ev, evT]
    split
    · exact iht _ (h.1 _)
    · exact ihe _ (h.2 _)
  | auto n d ih => exact ih
  | known hc d ih => exact ih
  | tot out' hv f ih => intro h; exact ih _ h
  | _ => intro h; exact h.elim

/-- A loop, told by the plain trees of its rounds. -/
noncomputable def loop (step : A → PT A) (off : A → Bool) : Nat → A → Option A
  | 0, _ => none
  | n + 1, b => (step b).ev fun c => match off c with
    | true => some c
    | false => loop step off n c
theorem ev_bind (d : PT A) (k : A → Option B) : d.ev k = (d.ev some).bind k := by
  induction d with
  | testD p i t e iht ihe => simp only [ev]; split <;> simp only [iht, ihe]
  | testB c t e iht ihe => simp only [ev]; split <;> simp only [iht, ihe]
  | auto n d ih => exact ih
  | known hc d ih => exact ih
  | look R o f ih => simp only [ev, ih, Option.bind_assoc]
  | ask E hv f ih => simp only [ev, ih, Option.bind_assoc]
  | tot out' hv f ih => exact ih _
  | cut E hv f ih => simp only [ev, ih, Option.bind_assoc]
  | _ => rfl
end PT

theorem loop_ok {P : Program} {X : Cx} {L : Nat → Bool} {C : Oracle} {f m N : Nat} {body : Code} {w : Nat} {E : Ent (VX × S)} {step : E.ty → PT E.ty} {off : E.ty → Bool}
    (h1 : ∀ b, off b = false → ∀ x, PT.evP E.out x (step b) = PT.fol E.out x (step b) (roundT P X L C f m N body w (E.out b).2))
    (h2 : ∀ b, (match (E.out b).1 with | .normal => false | _ => true) = off b) :
    ∀ (n : Nat) (b : E.ty), off b = false → ∀ c, PT.loop step off n b = some c → loopP P X C f m N body w n (E.out b).2 = some (E.out c)
  | 0, b, _, c, h => by cases h
  | n + 1, b, hb, c, h => by
    rw [PT.loop, PT.ev_bind] at h
    obtain ⟨d, hd, h⟩ := Option.bind_eq_some_iff.mp h
    have hr := PT.fol_run E.out _ _ _ ((h1 b hb _) ▸ PT.ev_evP E.out (step b) hd)
    rw [round_run hr n]
    have h3 := h2 d
    rcases hy : E.out d with ⟨x, s⟩
    rw [hy] at h3
    cases x with
    | normal =>
      have ho : off d = false := h3.symm
      rw [ho] at h
      have ih := loop_ok h1 h2 n d ho c h
      rw [hy] at ih
      exact ih
    | exit j =>
      have ho : off d = true := h3.symm
      rw [ho] at h
      cases h
      exact congrArg some hy.symm
    | ret =>
      have ho : off d = true := h3.symm
      rw [ho] at h
      cases h
      exact congrArg some hy.symm

theorem cond_ok {P : Program} {X : Cx} {L : Nat → Bool} {C : Oracle} {f m N : Nat} {body : Code} {j : Nat} {s : S} {E : Ent (VX × S)} {d : PT E.ty}
    (h : ∀ x, PT.evP E.out x d = PT.fol E.out x d (condT P X L C f m N body j s)) (b : E.ty) (hb : d.ev some = some b) : condP P X C f m N body j s = some (E.out b) :=
  condT_run (PT.fol_run E.out _ _ _ ((h _) ▸ PT.ev_evP E.out d hb))

theorem block_ok {P : Program} {X : Cx} {L : Nat → Bool} {C : Oracle} {f m N : Nat} {body : Code} {j : Nat} {s : S} {E : Ent (VX × S)} {d : PT E.ty}
    (h : ∀ x, PT.evP E.out x d = PT.fol E.out x d (blockT P X L C f m N body j s)) (b : E.ty) (hb : d.ev some = some b) : blockP P X C f m N body j s = some (E.out b) :=
  blockT_run (PT.fol_run E.out _ _ _ ((h _) ▸ PT.ev_evP E.out d hb))

theorem reg_ok {P : Program} {X : Cx} {C : Oracle} {f m : Nat} {body : Code} {j : Nat} {s : S} {E : Ent (VX × S)} {d : PT E.ty}
    (h : ∀ x, PT.evP E.out x d = PT.fol E.out x d (regT P X C f m body j s)) (b : E.ty) (hb : d.ev some = some b) : regP P X C f m body j s = some (E.out b) :=
  regT_run (PT.fol_run E.out _ _ _ ((h _) ▸ PT.ev_evP E.out d hb))

theorem fn_ok {P : Program} {X : Cx} {L : Nat → Bool} {O : Oracle} {N f : Nat} {fi : FI} {args : List V} {σ : Store} {E : Ent (V × Store)} {d : PT E.ty} (ho : O f args σ = none) (hf : X.fn f = some fi)
    (h : ∀ x, PT.evP E.out x d = PT.fol E.out x d (callL P X L (genO X (UC P X O N)) N f fi args σ)) (b : E.ty) (hb : d.ev some = some b) : UC P X O N f args σ = some (E.out b) :=
  UC_call ho hf (PT.fol_run E.out _ _ _ ((h _) ▸ PT.ev_evP E.out d hb))

theorem fnT_ok {P : Program} {X : Cx} {L : Nat → Bool} {O : Oracle} {N f : Nat} {fi : FI} {args : List V} {σ : Store} {A : Type} [Inhabited A] {out : A → V × Store} {d : PT A} (ho : O f args σ = none) (hf : X.fn f = some fi)
    (h : ∀ x, PT.evP out x d = PT.fol out x d (callL P X L (genO X (UC P X O N)) N f fi args σ)) (hd : d.isT) : UC P X O N f args σ = some (out d.evT) :=
  UC_call ho hf (PT.fol_run out _ _ _ ((h _) ▸ PT.ev_evP out d (PT.ev_evT d hd)))
end Go.VM
