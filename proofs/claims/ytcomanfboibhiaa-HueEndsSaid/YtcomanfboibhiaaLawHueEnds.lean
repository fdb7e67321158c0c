/- The row of the law HueEnds: whatever its arguments, the call returns true, and they read behind it as before. No condition. -/
import Derived.Test.YtcomanfboibhiaaRows
import Derived.Test.YtcomanfboibhiaaPEnds
import Derived.Test.YtcomanfboibhiaaEndsLaw
import Derived.WalkKit
import Derived.ProofKit
import Derived.OpenShut
import Derived.ShutString
import Derived.ChangeOld
import Derived.Below
import Derived.SizedLaws
import Derived.Carry
set_option linter.unusedVariables false
set_option linter.unusedSimpArgs false
namespace Go.Proofs.Ytcomanfboibhiaa.hueEnds
open Go.ChangeShapes Go.WideShapes Go.ChangeAt Go.RowKit
open Go.ChangeMaps (open_string shut_string)
open Go.VM (V Opn Old PR AR opn_int opn_bool opn_array opn_slice opn_struct opnF_nil opnF_cons okWide_array arg_agg open_args)
set_option linter.unusedVariables false
theorem own : ownKnob Try.prog.godebug = none := by kernel_rfl
theorem laidOut : laidOutB Try.prog = true := by kernel_rfl
set_option maxRecDepth 100000 in
theorem opn2 : Opn Try.prog 2 (fun y => ∃ z, y = [V.int .i64 z] ∧ (Lit.int .i64 z).wf = true) := opn_int Try.underlying2
set_option maxRecDepth 100000 in
theorem opn5 : Opn Try.prog 5 (fun y => ∃ z, y = [V.int .u8 z] ∧ (Lit.int .u8 z).wf = true) := opn_int Try.underlying5
set_option maxRecDepth 100000 in
theorem opn23 : Opn Try.prog 23 (fun y => y.length = 4 ∧ ∀ x ∈ y, (fun y => ∃ z, y = [V.int .u8 z] ∧ (Lit.int .u8 z).wf = true) [x]) := opn_array Try.underlying23 (by kernel_rfl) (by kernel_rfl) opn5
set_option maxRecDepth 100000 in
theorem opn3 : Opn Try.prog 3 (fun y => ∃ z, y = [V.int .i64 z] ∧ (Lit.int .i64 z).wf = true) := opn_int Try.underlying3
set_option maxRecDepth 100000 in
theorem opn31 : Opn Try.prog 31 (fun y => ∃ a b, y = a ++ b ∧ ((fun y => ∃ z, y = [V.int .i64 z] ∧ (Lit.int .i64 z).wf = true) a) ∧ ((fun y => ∃ a b, y = a ++ b ∧ ((fun y => ∃ z, y = [V.int .i64 z] ∧ (Lit.int .i64 z).wf = true) a) ∧ ((fun y => ∃ a b, y = a ++ b ∧ ((fun y => ∃ z, y = [V.int .i64 z] ∧ (Lit.int .i64 z).wf = true) a) ∧ ((fun y => ∃ a b, y = a ++ b ∧ ((fun y => ∃ z, y = [V.int .i64 z] ∧ (Lit.int .i64 z).wf = true) a) ∧ ((fun y => y = []) b)) b)) b)) b)) := opn_struct Try.underlying31 (by kernel_rfl) (opnF_cons (by kernel_rfl) opn2 (opnF_cons (by kernel_rfl) opn2 (opnF_cons (by kernel_rfl) opn2 (opnF_cons (by kernel_rfl) opn2 opnF_nil))))
set_option maxRecDepth 100000 in
theorem opn33 : Opn Try.prog 33 (fun y => ∃ a b, y = a ++ b ∧ ((fun y => ∃ z, y = [V.int .i64 z] ∧ (Lit.int .i64 z).wf = true) a) ∧ ((fun y => ∃ a b, y = a ++ b ∧ ((fun y => y.length = 4 ∧ ∀ x ∈ y, (fun y => ∃ z, y = [V.int .u8 z] ∧ (Lit.int .u8 z).wf = true) [x]) a) ∧ ((fun y => ∃ a b, y = a ++ b ∧ ((fun y => ∃ z, y = [V.int .i64 z] ∧ (Lit.int .i64 z).wf = true) a) ∧ ((fun y => ∃ a b, y = a ++ b ∧ ((fun y => ∃ a b, y = a ++ b ∧ ((fun y => ∃ z, y = [V.int .i64 z] ∧ (Lit.int .i64 z).wf = true) a) ∧ ((fun y => ∃ a b, y = a ++ b ∧ ((fun y => ∃ z, y = [V.int .i64 z] ∧ (Lit.int .i64 z).wf = true) a) ∧ ((fun y => ∃ a b, y = a ++ b ∧ ((fun y => ∃ z, y = [V.int .i64 z] ∧ (Lit.int .i64 z).wf = true) a) ∧ ((fun y => ∃ a b, y = a ++ b ∧ ((fun y => ∃ z, y = [V.int .i64 z] ∧ (Lit.int .i64 z).wf = true) a) ∧ ((fun y => y = []) b)) b)) b)) b)) a) ∧ ((fun y => y = []) b)) b)) b)) b)) := opn_struct Try.underlying33 (by kernel_rfl) (opnF_cons (by kernel_rfl) opn2 (opnF_cons (by kernel_rfl) opn23 (opnF_cons (by kernel_rfl) opn3 (opnF_cons (by kernel_rfl) opn31 opnF_nil))))
set_option maxRecDepth 100000 in
theorem opn28 : Opn Try.prog 28 (fun y => ∃ xs, y = [V.list 10 xs] ∧ xs.length ≤ maxLen ∧ ∀ x ∈ xs, x.length = 10 ∧ ((fun y => ∃ a b, y = a ++ b ∧ ((fun y => ∃ z, y = [V.int .i64 z] ∧ (Lit.int .i64 z).wf = true) a) ∧ ((fun y => ∃ a b, y = a ++ b ∧ ((fun y => y.length = 4 ∧ ∀ x ∈ y, (fun y => ∃ z, y = [V.int .u8 z] ∧ (Lit.int .u8 z).wf = true) [x]) a) ∧ ((fun y => ∃ a b, y = a ++ b ∧ ((fun y => ∃ z, y = [V.int .i64 z] ∧ (Lit.int .i64 z).wf = true) a) ∧ ((fun y => ∃ a b, y = a ++ b ∧ ((fun y => ∃ a b, y = a ++ b ∧ ((fun y => ∃ z, y = [V.int .i64 z] ∧ (Lit.int .i64 z).wf = true) a) ∧ ((fun y => ∃ a b, y = a ++ b ∧ ((fun y => ∃ z, y = [V.int .i64 z] ∧ (Lit.int .i64 z).wf = true) a) ∧ ((fun y => ∃ a b, y = a ++ b ∧ ((fun y => ∃ z, y = [V.int .i64 z] ∧ (Lit.int .i64 z).wf = true) a) ∧ ((fun y => ∃ a b, y = a ++ b ∧ ((fun y => ∃ z, y = [V.int .i64 z] ∧ (Lit.int .i64 z).wf = true) a) ∧ ((fun y => y = []) b)) b)) b)) b)) a) ∧ ((fun y => y = []) b)) b)) b)) b)) x)) := opn_slice Try.underlying28 (by kernel_rfl) (by decide) opn33
set_option maxRecDepth 100000 in
theorem lifted (os : Os) (started : os.Started) (H : Type) (enc : TypeId × Value → H) :
    ReturnsInHanded {} Try.checked os 4 .any (Rows.hueEndsSpec.pre6 enc Try.prog Try.f4 Rows.hueEndsRow.domain false) (Rows.hueEndsSpec.post enc Try.prog Try.f4 false true false false) := by
  refine returnsInHanded_of_change_sized (C := Try.checked) own started (by kernel_rfl) Try.func4
    (ChangeSpec.witness6 (enc := enc) (C := Try.checked) false ⟨#[], #[.slice none 0 0, .int .i64 0], []⟩ 8 (by kernel_rfl) (by kernel_rfl) (by kernel_rfl) (by kernel_rfl)) ?_
  intro W base args ds gs before hval0 hW hcnd hsz0 _
  have hval : ∀ (j : Nat) t v, Try.f4.params[j]? = some t → args[j]? = some v → Value.okWide Try.prog W .any base t v := hval0
  have hW' := hW
  obtain ⟨p, q, hA0, hV, rfl, hfz, hnd⟩ := hW
  have hA : DataW.TrodAll enc Try.prog W 0 (fun _ => true) true Try.f4.params.toList args.toList ds p := hA0
  rw [Try.params4] at hA hval
  obtain ⟨v0, vs0, d0, ds0, p0, q0, hargs, rfl, rfl, h0, r0⟩ := trodAll_cons hA
  obtain ⟨v1, vs1, d1, ds1, p1, q1, rfl, rfl, rfl, h1, r1⟩ := trodAll_cons r0
  obtain ⟨rfl, rfl, rfl⟩ := trodAll_nil r1
  obtain rfl : args = #[v0, v1] := by cases args; simp_all
  obtain ⟨rfl, rfl⟩ := trodVars_none hV
  have k0 := h0
  have lt0 : ∀ x ∈ p0, x.block < W.heap.size := by obtain ⟨m, hm⟩ := k0; exact DataW.trod_lt m _ _ _ hm
  obtain ⟨A0, len0, cap0, rfl⟩ := okWide_slice Try.underlying28 (hval 0 28 v0 rfl rfl)
  obtain ⟨fuel0, hf0⟩ := h0
  obtain ⟨us0, e0, hp0, xs0, rfl, hl0, g0⟩ := opn28 fuel0 _ _ hf0
  obtain ⟨a1, rfl, rfl, rfl, w1⟩ := open_int Try.underlying2 (hval 1 2 v1 rfl rfl) h1
  clear hA0 hval0 hsz0
  refine (open_args (VT.X_ok _) VT.mixed Go.Proofs.Ytcomanfboibhiaa.H.os0 (Go.Proofs.Ytcomanfboibhiaa.H.hueEnds_call (Go.Proofs.Ytcomanfboibhiaa.H.key_rows g0) a1) W #[.slice A0 len0 cap0, .int .i64 a1] (by exact And.intro (AR.leaf (.pr (hp0 0 _ _ rfl rfl))) (And.intro (AR.leaf (.pr (.int _ _))) (trivial)))).mono fun e W' ⟨he, bel⟩ => ?_
  subst he
  exact ⟨_, rfl, _, _, _, [], _, [], hW', trodAll_mk1 (shut_bool Try.underlying4 _), (trodAll_cons_mk (Below.trod laidOut (by kernel_rfl) (of_decide_eq_true (by kernel_rfl)) k0 bel lt0) (trodAll_cons_mk (shut_int Try.underlying2 w1) trodAll_mk0)), rfl, bel.frame _, fun h => by cases h⟩
theorem over : Rows.hueEndsRow.holds Try.pinned (OpenSpec.ofChange Rows.hueEndsSpec) :=
  OpenClaim.holds_of_wide 4 Try.f4 rfl rfl rfl rfl rfl rfl rfl ⟨rfl, rfl, rfl, rfl, rfl⟩ rfl rfl rfl rfl rfl (by kernel_rfl) Try.func4 (by kernel_rfl)
    (of_decide_eq_true (by kernel_rfl)) (by unfold Func.isWrapper; first | (rw [if_pos (by decide +kernel)]; kernel_rfl) | (rw [if_neg (by decide +kernel)]; exact ⟨rfl, rfl⟩))
    (fun os started H enc _ => lifted os started H enc)
theorem proved : Rows.HueEndsSaid := over
#print axioms proved
end Go.Proofs.Ytcomanfboibhiaa.hueEnds
namespace Go.Proofs.Ytcomanfboibhiaa
/-- The row, under a short name, for the claim. -/
theorem hueEnds_holds : Rows.HueEndsSaid := hueEnds.proved
end Go.Proofs.Ytcomanfboibhiaa
