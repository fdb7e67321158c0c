/- Loops, joins and functions told over plain trees: short forms. No condition beyond those stated. -/
import Derived.Test.YtifalphladcdcaaGreatVmAR
set_option linter.unusedVariables false
set_option linter.unusedSimpArgs false
namespace Go.VM
variable {α N T U W Y Z : Type}
abbrev Ent.o0 (out : N → α) : Ent α := ⟨N, out, fun g => ∃ b, g b, fun _ => Iff.rfl⟩
abbrev Ent.o1 (out : N → α) (c : T → N) (h : ∀ b, ∃ x, b = c x) : Ent α :=
  ⟨N, out, fun g => ∃ x, g (c x), fun g => ⟨fun ⟨x, p⟩ => ⟨_, p⟩, fun ⟨b, p⟩ => let ⟨x, e⟩ := h b; ⟨x, e ▸ p⟩⟩⟩
abbrev Ent.o2 (out : N → α) (c : T → N) (d : U → N) (h : ∀ b, (∃ x, b = c x) ∨ ∃ x, b = d x) : Ent α :=
  ⟨N, out, fun g => (∃ x, g (c x)) ∨ (∃ x, g (d x)), fun g => ⟨fun p => p.elim (fun ⟨_, p⟩ => ⟨_, p⟩) (fun ⟨_, p⟩ => ⟨_, p⟩), fun ⟨b, p⟩ => (h b).imp (fun ⟨x, e⟩ => ⟨x, e ▸ p⟩) (fun ⟨x, e⟩ => ⟨x, e ▸ p⟩)⟩⟩
abbrev Ent.o3 (out : N → α) (c : T → N) (d : U → N) (c3 : W → N) (h : ∀ b, (∃ x, b = c x) ∨ (∃ x, b = d x) ∨ ∃ x, b = c3 x) : Ent α :=
  ⟨N, out, fun g => (∃ x, g (c x)) ∨ (∃ x, g (d x)) ∨ (∃ x, g (c3 x)), fun g => ⟨fun p => p.elim (fun ⟨_, p⟩ => ⟨_, p⟩) (fun p => p.elim (fun ⟨_, p⟩ => ⟨_, p⟩) (fun ⟨_, p⟩ => ⟨_, p⟩)), fun ⟨b, p⟩ => (h b).imp (fun ⟨x, e⟩ => ⟨x, e ▸ p⟩) (fun q => q.imp (fun ⟨x, e⟩ => ⟨x, e ▸ p⟩) (fun ⟨x, e⟩ => ⟨x, e ▸ p⟩))⟩⟩
abbrev Ent.o4 (out : N → α) (c : T → N) (d : U → N) (c3 : W → N) (c4 : Y → N) (h : ∀ b, (∃ x, b = c x) ∨ (∃ x, b = d x) ∨ (∃ x, b = c3 x) ∨ ∃ x, b = c4 x) : Ent α :=
  ⟨N, out, fun g => (∃ x, g (c x)) ∨ (∃ x, g (d x)) ∨ (∃ x, g (c3 x)) ∨ (∃ x, g (c4 x)), fun g => ⟨fun p => p.elim (fun ⟨_, p⟩ => ⟨_, p⟩) (fun p => p.elim (fun ⟨_, p⟩ => ⟨_, p⟩) (fun p => p.elim (fun ⟨_, p⟩ => ⟨_, p⟩) (fun ⟨_, p⟩ => ⟨_, p⟩))), fun ⟨b, p⟩ => (h b).imp (fun ⟨x, e⟩ => ⟨x, e ▸ p⟩) (fun q => q.imp (fun ⟨x, e⟩ => ⟨x, e ▸ p⟩) (fun q => q.imp (fun ⟨x, e⟩ => ⟨x, e ▸ p⟩) (fun ⟨x, e⟩ => ⟨x, e ▸ p⟩)))⟩⟩
abbrev Ent.o5 (out : N → α) (c : T → N) (d : U → N) (c3 : W → N) (c4 : Y → N) (c5 : Z → N) (h : ∀ b, (∃ x, b = c x) ∨ (∃ x, b = d x) ∨ (∃ x, b = c3 x) ∨ (∃ x, b = c4 x) ∨ ∃ x, b = c5 x) : Ent α :=
  ⟨N, out, fun g => (∃ x, g (c x)) ∨ (∃ x, g (d x)) ∨ (∃ x, g (c3 x)) ∨ (∃ x, g (c4 x)) ∨ (∃ x, g (c5 x)), fun g => ⟨fun p => p.elim (fun ⟨_, p⟩ => ⟨_, p⟩) (fun p => p.elim (fun ⟨_, p⟩ => ⟨_, p⟩) (fun p => p.elim (fun ⟨_, p⟩ => ⟨_, p⟩) (fun p => p.elim (fun ⟨_, p⟩ => ⟨_, p⟩) (fun ⟨_, p⟩ => ⟨_, p⟩)))), fun ⟨b, p⟩ => (h b).imp (fun ⟨x, e⟩ => ⟨x, e ▸ p⟩) (fun q => q.imp (fun ⟨x, e⟩ => ⟨x, e ▸ p⟩) (fun q => q.imp (fun ⟨x, e⟩ => ⟨x, e ▸ p⟩) (fun q => q.imp (fun ⟨x, e⟩ => ⟨x, e ▸ p⟩) (fun ⟨x, e⟩ => ⟨x, e ▸ p⟩))))⟩⟩
/-- Whether a state is behind its loop. -/
abbrev Ent.off (E : Ent (VX × S)) (b : E.ty) : Bool := match (E.out b).1 with | .normal => false | _ => true
/-- A loop of a kind of states. -/
noncomputable def Ent.loop (E : Ent (VX × S)) (step : E.ty → PT E.ty) (n : Nat) (b : E.ty) : Option E.ty := PT.loop step E.off n b
theorem Ent.loop_eq {E : Ent (VX × S)} {step : E.ty → PT E.ty} {nx : E.ty → Option E.ty} {n : Nat} {b : E.ty} (h : ∀ c, (match E.off c with | true => some c | false => E.loop step n c) = nx c) : E.loop step (n + 1) b = (step b).ev nx :=
  congrArg (PT.ev (step b)) (funext h)
section
variable (P : Program) (X : Cx) (O : Oracle)
abbrev FK (E : Ent (V × Store)) (v : Option E.ty) (f : Nat) (args : List V) (σ : Store) : Prop := ∀ b, v = some b → UC P X O 18446744073709551616 f args σ = some (E.out b)
abbrev LK (f m : Nat) (B : Code) (w : Nat) (E : Ent (VX × S)) (L : Nat → E.ty → Option E.ty) : Prop :=
  ∀ b, E.off b = false → ∀ c, L 18446744073709551616 b = some c → loopP P X (genO X (UC P X O 18446744073709551616)) f m 18446744073709551616 B w 18446744073709551616 (E.out b).2 = some (E.out c)
abbrev CK (f m : Nat) (B : Code) (j : Nat) (E : Ent (VX × S)) (v : Option E.ty) (s : S) : Prop :=
  ∀ b, v = some b → condP P X (genO X (UC P X O 18446744073709551616)) f m 18446744073709551616 B j s = some (E.out b)
abbrev BK (f m : Nat) (B : Code) (j : Nat) (E : Ent (VX × S)) (v : Option E.ty) (s : S) : Prop :=
  ∀ b, v = some b → blockP P X (genO X (UC P X O 18446744073709551616)) f m 18446744073709551616 B j s = some (E.out b)
end
theorem fk {P : Program} {X : Cx} {L : Nat → Bool} {O : Oracle} {f : Nat} {fi : FI} {args : List V} {σ : Store} {E : Ent (V × Store)} {d : PT E.ty} (ho : O f args σ = none) (hf : X.fn f = some fi)
    (h : ∀ x, PT.evP E.out x d = PT.fol E.out x d (callL P X L (genO X (UC P X O 18446744073709551616)) 18446744073709551616 f fi args σ)) : FK P X O E (d.ev some) f args σ := fn_ok ho hf h
theorem lk {P : Program} {X : Cx} {L : Nat → Bool} {O : Oracle} {f m : Nat} {body : Code} {w : Nat} {E : Ent (VX × S)} {step : E.ty → PT E.ty}
    (h1 : ∀ b, E.off b = false → ∀ x, PT.evP E.out x (step b) = PT.fol E.out x (step b) (roundT P X L (genO X (UC P X O 18446744073709551616)) f m 18446744073709551616 body w (E.out b).2)) : LK P X O f m body w E (E.loop step) :=
  loop_ok h1 (fun _ => rfl) 18446744073709551616
end Go.VM
