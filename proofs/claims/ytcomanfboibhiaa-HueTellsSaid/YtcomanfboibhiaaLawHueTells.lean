/- The row of the law HueTells: whatever its arguments, the call returns true, and they read behind it as before. No condition. -/
import Derived.Test.YtcomanfboibhiaaRows
import Derived.Test.YtcomanfboibhiaaPTells
import Derived.Test.YtcomanfboibhiaaQBase
import Derived.Test.YtcomanfboibhiaaTellsLaw
import Derived.WalkKit
import Derived.ProofKit
import Derived.OpenShut
import Derived.ShutString
import Derived.ChangeOld
import Derived.Below
import Derived.SizedLaws
import Derived.Carry
set_option linter.unusedVariables false
set_option linter.unusedSimpArgs false
namespace Go.Proofs.Ytcomanfboibhiaa.hueTells
open Go.ChangeShapes Go.WideShapes Go.ChangeAt Go.RowKit
open Go.ChangeMaps (open_string shut_string)
open Go.VM (V Opn Old PR AR opn_int opn_bool opn_array opn_slice opn_struct opnF_nil opnF_cons okWide_array arg_agg open_args)
set_option linter.unusedVariables false
theorem own : ownKnob Try.prog.godebug = none := by kernel_rfl
theorem laidOut : laidOutB Try.prog = true := by kernel_rfl
set_option maxRecDepth 100000 in
theorem opn5 : Opn Try.prog 5 (fun y => ∃ z, y = [V.int .u8 z] ∧ (Lit.int .u8 z).wf = true) := opn_int Try.underlying5
set_option maxRecDepth 100000 in
theorem opn23 : Opn Try.prog 23 (fun y => y.length = 4 ∧ ∀ x ∈ y, (fun y => ∃ z, y = [V.int .u8 z] ∧ (Lit.int .u8 z).wf = true) [x]) := opn_array Try.underlying23 (by kernel_rfl) (by kernel_rfl) opn5
set_option maxRecDepth 100000 in
theorem opn2 : Opn Try.prog 2 (fun y => ∃ z, y = [V.int .i64 z] ∧ (Lit.int .i64 z).wf = true) := opn_int Try.underlying2
set_option maxRecDepth 100000 in
theorem opn3 : Opn Try.prog 3 (fun y => ∃ z, y = [V.int .i64 z] ∧ (Lit.int .i64 z).wf = true) := opn_int Try.underlying3
set_option maxRecDepth 100000 in
theorem opn31 : Opn Try.prog 31 (fun y => ∃ a b, y = a ++ b ∧ ((fun y => ∃ z, y = [V.int .i64 z] ∧ (Lit.int .i64 z).wf = true) a) ∧ ((fun y => ∃ a b, y = a ++ b ∧ ((fun y => ∃ z, y = [V.int .i64 z] ∧ (Lit.int .i64 z).wf = true) a) ∧ ((fun y => ∃ a b, y = a ++ b ∧ ((fun y => ∃ z, y = [V.int .i64 z] ∧ (Lit.int .i64 z).wf = true) a) ∧ ((fun y => ∃ a b, y = a ++ b ∧ ((fun y => ∃ z, y = [V.int .i64 z] ∧ (Lit.int .i64 z).wf = true) a) ∧ ((fun y => y = []) b)) b)) b)) b)) := opn_struct Try.underlying31 (by kernel_rfl) (opnF_cons (by kernel_rfl) opn2 (opnF_cons (by kernel_rfl) opn2 (opnF_cons (by kernel_rfl) opn2 (opnF_cons (by kernel_rfl) opn2 opnF_nil))))
set_option maxRecDepth 100000 in
theorem opn33 : Opn Try.prog 33 (fun y => ∃ a b, y = a ++ b ∧ ((fun y => ∃ z, y = [V.int .i64 z] ∧ (Lit.int .i64 z).wf = true) a) ∧ ((fun y => ∃ a b, y = a ++ b ∧ ((fun y => y.length = 4 ∧ ∀ x ∈ y, (fun y => ∃ z, y = [V.int .u8 z] ∧ (Lit.int .u8 z).wf = true) [x]) a) ∧ ((fun y => ∃ a b, y = a ++ b ∧ ((fun y => ∃ z, y = [V.int .i64 z] ∧ (Lit.int .i64 z).wf = true) a) ∧ ((fun y => ∃ a b, y = a ++ b ∧ ((fun y => ∃ a b, y = a ++ b ∧ ((fun y => ∃ z, y = [V.int .i64 z] ∧ (Lit.int .i64 z).wf = true) a) ∧ ((fun y => ∃ a b, y = a ++ b ∧ ((fun y => ∃ z, y = [V.int .i64 z] ∧ (Lit.int .i64 z).wf = true) a) ∧ ((fun y => ∃ a b, y = a ++ b ∧ ((fun y => ∃ z, y = [V.int .i64 z] ∧ (Lit.int .i64 z).wf = true) a) ∧ ((fun y => ∃ a b, y = a ++ b ∧ ((fun y => ∃ z, y = [V.int .i64 z] ∧ (Lit.int .i64 z).wf = true) a) ∧ ((fun y => y = []) b)) b)) b)) b)) a) ∧ ((fun y => y = []) b)) b)) b)) b)) := opn_struct Try.underlying33 (by kernel_rfl) (opnF_cons (by kernel_rfl) opn2 (opnF_cons (by kernel_rfl) opn23 (opnF_cons (by kernel_rfl) opn3 (opnF_cons (by kernel_rfl) opn31 opnF_nil))))
set_option maxRecDepth 100000 in
theorem opn28 : Opn Try.prog 28 (fun y => ∃ xs, y = [V.list 10 xs] ∧ xs.length ≤ maxLen ∧ ∀ x ∈ xs, x.length = 10 ∧ ((fun y => ∃ a b, y = a ++ b ∧ ((fun y => ∃ z, y = [V.int .i64 z] ∧ (Lit.int .i64 z).wf = true) a) ∧ ((fun y => ∃ a b, y = a ++ b ∧ ((fun y => y.length = 4 ∧ ∀ x ∈ y, (fun y => ∃ z, y = [V.int .u8 z] ∧ (Lit.int .u8 z).wf = true) [x]) a) ∧ ((fun y => ∃ a b, y = a ++ b ∧ ((fun y => ∃ z, y = [V.int .i64 z] ∧ (Lit.int .i64 z).wf = true) a) ∧ ((fun y => ∃ a b, y = a ++ b ∧ ((fun y => ∃ a b, y = a ++ b ∧ ((fun y => ∃ z, y = [V.int .i64 z] ∧ (Lit.int .i64 z).wf = true) a) ∧ ((fun y => ∃ a b, y = a ++ b ∧ ((fun y => ∃ z, y = [V.int .i64 z] ∧ (Lit.int .i64 z).wf = true) a) ∧ ((fun y => ∃ a b, y = a ++ b ∧ ((fun y => ∃ z, y = [V.int .i64 z] ∧ (Lit.int .i64 z).wf = true) a) ∧ ((fun y => ∃ a b, y = a ++ b ∧ ((fun y => ∃ z, y = [V.int .i64 z] ∧ (Lit.int .i64 z).wf = true) a) ∧ ((fun y => y = []) b)) b)) b)) b)) a) ∧ ((fun y => y = []) b)) b)) b)) b)) x)) := opn_slice Try.underlying28 (by kernel_rfl) (by decide) opn33
set_option maxRecDepth 100000 in
theorem opn37 : Opn Try.prog 37 (fun y => y.length = 4 ∧ ∀ x ∈ y, (fun y => ∃ z, y = [V.int .u8 z] ∧ (Lit.int .u8 z).wf = true) [x]) := opn_array Try.underlying37 (by kernel_rfl) (by kernel_rfl) opn5
set_option maxRecDepth 100000 in
theorem lifted (os : Os) (started : os.Started) (H : Type) (enc : TypeId × Value → H) :
    ReturnsInHanded {} Try.checked os 7 .any (Rows.hueTellsSpec.pre6 enc Try.prog Try.f7 Rows.hueTellsRow.domain false) (Rows.hueTellsSpec.post enc Try.prog Try.f7 false true false false) := by
  refine returnsInHanded_of_change_sized (C := Try.checked) own started (by kernel_rfl) Try.func7
    (ChangeSpec.witness6 (enc := enc) (C := Try.checked) false ⟨#[], #[.agg #[.int .u8 0, .int .u8 0, .int .u8 0, .int .u8 0], .agg #[.int .u8 0, .int .u8 0, .int .u8 0, .int .u8 0], .int .i64 0, .slice none 0 0, .int .i64 0, .agg #[.int .u8 0, .int .u8 0, .int .u8 0, .int .u8 0]], []⟩ 8 (by kernel_rfl) (by kernel_rfl) (by kernel_rfl) (by kernel_rfl)) ?_
  intro W base args ds gs before hval0 hW hcnd hsz0 _
  have hval : ∀ (j : Nat) t v, Try.f7.params[j]? = some t → args[j]? = some v → Value.okWide Try.prog W .any base t v := hval0
  have hW' := hW
  obtain ⟨p, q, hA0, hV, rfl, hfz, hnd⟩ := hW
  have hA : DataW.TrodAll enc Try.prog W 0 (fun _ => true) true Try.f7.params.toList args.toList ds p := hA0
  rw [Try.params7] at hA hval
  obtain ⟨v0, vs0, d0, ds0, p0, q0, hargs, rfl, rfl, h0, r0⟩ := trodAll_cons hA
  obtain ⟨v1, vs1, d1, ds1, p1, q1, rfl, rfl, rfl, h1, r1⟩ := trodAll_cons r0
  obtain ⟨v2, vs2, d2, ds2, p2, q2, rfl, rfl, rfl, h2, r2⟩ := trodAll_cons r1
  obtain ⟨v3, vs3, d3, ds3, p3, q3, rfl, rfl, rfl, h3, r3⟩ := trodAll_cons r2
  obtain ⟨v4, vs4, d4, ds4, p4, q4, rfl, rfl, rfl, h4, r4⟩ := trodAll_cons r3
  obtain ⟨v5, vs5, d5, ds5, p5, q5, rfl, rfl, rfl, h5, r5⟩ := trodAll_cons r4
  obtain ⟨rfl, rfl, rfl⟩ := trodAll_nil r5
  obtain rfl : args = #[v0, v1, v2, v3, v4, v5] := by cases args; simp_all
  obtain ⟨rfl, rfl⟩ := trodVars_none hV
  have k0 := h0
  have lt0 : ∀ x ∈ p0, x.block < W.heap.size := by obtain ⟨m, hm⟩ := k0; exact DataW.trod_lt m _ _ _ hm
  obtain ⟨cs0, rfl, _⟩ := okWide_array Try.underlying23 (hval 0 23 v0 rfl rfl)
  obtain ⟨fuel0, hf0⟩ := h0
  obtain ⟨us0, e0, hp0, g0⟩ := opn23 fuel0 _ _ hf0
  have k1 := h1
  have lt1 : ∀ x ∈ p1, x.block < W.heap.size := by obtain ⟨m, hm⟩ := k1; exact DataW.trod_lt m _ _ _ hm
  obtain ⟨cs1, rfl, _⟩ := okWide_array Try.underlying23 (hval 1 23 v1 rfl rfl)
  obtain ⟨fuel1, hf1⟩ := h1
  obtain ⟨us1, e1, hp1, g1⟩ := opn23 fuel1 _ _ hf1
  obtain ⟨a2, rfl, rfl, rfl, w2⟩ := open_int Try.underlying2 (hval 2 2 v2 rfl rfl) h2
  have k3 := h3
  have lt3 : ∀ x ∈ p3, x.block < W.heap.size := by obtain ⟨m, hm⟩ := k3; exact DataW.trod_lt m _ _ _ hm
  obtain ⟨A3, len3, cap3, rfl⟩ := okWide_slice Try.underlying28 (hval 3 28 v3 rfl rfl)
  obtain ⟨fuel3, hf3⟩ := h3
  obtain ⟨us3, e3, hp3, xs3, rfl, hl3, g3⟩ := opn28 fuel3 _ _ hf3
  obtain ⟨a4, rfl, rfl, rfl, w4⟩ := open_int Try.underlying2 (hval 4 2 v4 rfl rfl) h4
  have k5 := h5
  have lt5 : ∀ x ∈ p5, x.block < W.heap.size := by obtain ⟨m, hm⟩ := k5; exact DataW.trod_lt m _ _ _ hm
  obtain ⟨cs5, rfl, _⟩ := okWide_array Try.underlying37 (hval 5 37 v5 rfl rfl)
  obtain ⟨fuel5, hf5⟩ := h5
  obtain ⟨us5, e5, hp5, g5⟩ := opn37 fuel5 _ _ hf5
  clear hA0 hval0 hsz0
  refine (open_args (VT.X_ok _) VT.mixed Go.Proofs.Ytcomanfboibhiaa.H.os0 (Go.Proofs.Ytcomanfboibhiaa.H.hueTells_call g0 g1 a2 (Go.Proofs.Ytcomanfboibhiaa.H.key_rows g3) a4 g5) W #[.agg cs0, .agg cs1, .int .i64 a2, .slice A3 len3 cap3, .int .i64 a4, .agg cs5] (by exact And.intro (arg_agg e0 hp0) (And.intro (arg_agg e1 hp1) (And.intro (AR.leaf (.pr (.int _ _))) (And.intro (AR.leaf (.pr (hp3 0 _ _ rfl rfl))) (And.intro (AR.leaf (.pr (.int _ _))) (And.intro (arg_agg e5 hp5) (trivial)))))))).mono fun e W' ⟨he, bel⟩ => ?_
  subst he
  exact ⟨_, rfl, _, _, _, [], _, [], hW', trodAll_mk1 (shut_bool Try.underlying4 _), (trodAll_cons_mk (Below.trod laidOut (by kernel_rfl) (of_decide_eq_true (by kernel_rfl)) k0 bel lt0) (trodAll_cons_mk (Below.trod laidOut (by kernel_rfl) (of_decide_eq_true (by kernel_rfl)) k1 bel lt1) (trodAll_cons_mk (shut_int Try.underlying2 w2) (trodAll_cons_mk (Below.trod laidOut (by kernel_rfl) (of_decide_eq_true (by kernel_rfl)) k3 bel lt3) (trodAll_cons_mk (shut_int Try.underlying2 w4) (trodAll_cons_mk (Below.trod laidOut (by kernel_rfl) (of_decide_eq_true (by kernel_rfl)) k5 bel lt5) trodAll_mk0)))))), rfl, bel.frame _, fun h => by cases h⟩
theorem over : Rows.hueTellsRow.holds Try.pinned (OpenSpec.ofChange Rows.hueTellsSpec) :=
  OpenClaim.holds_of_wide 7 Try.f7 rfl rfl rfl rfl rfl rfl rfl ⟨rfl, rfl, rfl, rfl, rfl⟩ rfl rfl rfl rfl rfl (by kernel_rfl) Try.func7 (by kernel_rfl)
    (of_decide_eq_true (by kernel_rfl)) (by unfold Func.isWrapper; first | (rw [if_pos (by decide +kernel)]; kernel_rfl) | (rw [if_neg (by decide +kernel)]; exact ⟨rfl, rfl⟩))
    (fun os started H enc _ => lifted os started H enc)
theorem proved : Rows.HueTellsSaid := over
#print axioms proved
end Go.Proofs.Ytcomanfboibhiaa.hueTells
namespace Go.Proofs.Ytcomanfboibhiaa
/-- The row, under a short name, for the claim. -/
theorem hueTells_holds : Rows.HueTellsSaid := hueTells.proved
end Go.Proofs.Ytcomanfboibhiaa
