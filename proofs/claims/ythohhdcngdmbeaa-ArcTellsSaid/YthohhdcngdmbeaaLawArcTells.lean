/- The row of the law ArcTells: whatever its arguments, the call returns true, and they read behind it as before. No condition. -/
import Derived.Test.YthohhdcngdmbeaaRows
import Derived.Test.YthohhdcngdmbeaaPArcT2
import Derived.Test.YthohhdcngdmbeaaPolyRow
import Derived.WalkKit
import Derived.ProofKit
import Derived.OpenShut
import Derived.ShutString
import Derived.ChangeOld
import Derived.Below
import Derived.SizedLaws
import Derived.Carry
set_option linter.unusedVariables false
set_option linter.unusedSimpArgs false
namespace Go.Proofs.Ythohhdcngdmbeaa.arcTells
open Go.ChangeShapes Go.WideShapes Go.ChangeAt Go.RowKit
open Go.ChangeMaps (open_string shut_string)
open Go.VM (V Opn Old PR AR opn_int opn_bool opn_array opn_slice opn_struct opnF_nil opnF_cons okWide_array arg_agg open_args)
set_option linter.unusedVariables false
theorem own : ownKnob Try.prog.godebug = none := by kernel_rfl
theorem laidOut : laidOutB Try.prog = true := by kernel_rfl
set_option maxRecDepth 100000 in
theorem opn3 : Opn Try.prog 3 (fun y => ∃ z, y = [V.int .i64 z] ∧ (Lit.int .i64 z).wf = true) := opn_int Try.underlying3
set_option maxRecDepth 100000 in
theorem opn22 : Opn Try.prog 22 (fun y => ∃ xs, y = [V.list 1 xs] ∧ xs.length ≤ maxLen ∧ ∀ x ∈ xs, x.length = 1 ∧ ((fun y => ∃ z, y = [V.int .i64 z] ∧ (Lit.int .i64 z).wf = true) x)) := opn_slice Try.underlying22 (by kernel_rfl) (by decide) opn3
set_option maxRecDepth 100000 in
theorem opn4 : Opn Try.prog 4 (fun y => ∃ b, y = [V.bool b]) := opn_bool Try.underlying4
set_option maxRecDepth 100000 in
theorem opn2 : Opn Try.prog 2 (fun y => ∃ z, y = [V.int .i64 z] ∧ (Lit.int .i64 z).wf = true) := opn_int Try.underlying2
set_option maxRecDepth 100000 in
theorem opn34 : Opn Try.prog 34 (fun y => ∃ a b, y = a ++ b ∧ ((fun y => ∃ z, y = [V.int .i64 z] ∧ (Lit.int .i64 z).wf = true) a) ∧ ((fun y => ∃ a b, y = a ++ b ∧ ((fun y => ∃ z, y = [V.int .i64 z] ∧ (Lit.int .i64 z).wf = true) a) ∧ ((fun y => y = []) b)) b)) := opn_struct Try.underlying34 (by kernel_rfl) (opnF_cons (by kernel_rfl) opn2 (opnF_cons (by kernel_rfl) opn2 opnF_nil))
set_option maxRecDepth 100000 in
theorem opn27 : Opn Try.prog 27 (fun y => ∃ xs, y = [V.list 2 xs] ∧ xs.length ≤ maxLen ∧ ∀ x ∈ xs, x.length = 2 ∧ ((fun y => ∃ a b, y = a ++ b ∧ ((fun y => ∃ z, y = [V.int .i64 z] ∧ (Lit.int .i64 z).wf = true) a) ∧ ((fun y => ∃ a b, y = a ++ b ∧ ((fun y => ∃ z, y = [V.int .i64 z] ∧ (Lit.int .i64 z).wf = true) a) ∧ ((fun y => y = []) b)) b)) x)) := opn_slice Try.underlying27 (by kernel_rfl) (by decide) opn34
set_option maxRecDepth 100000 in
theorem opn39 : Opn Try.prog 39 (fun y => ∃ a b, y = a ++ b ∧ ((fun y => ∃ b, y = [V.bool b]) a) ∧ ((fun y => ∃ a b, y = a ++ b ∧ ((fun y => ∃ xs, y = [V.list 2 xs] ∧ xs.length ≤ maxLen ∧ ∀ x ∈ xs, x.length = 2 ∧ ((fun y => ∃ a b, y = a ++ b ∧ ((fun y => ∃ z, y = [V.int .i64 z] ∧ (Lit.int .i64 z).wf = true) a) ∧ ((fun y => ∃ a b, y = a ++ b ∧ ((fun y => ∃ z, y = [V.int .i64 z] ∧ (Lit.int .i64 z).wf = true) a) ∧ ((fun y => y = []) b)) b)) x)) a) ∧ ((fun y => y = []) b)) b)) := opn_struct Try.underlying39 (by kernel_rfl) (opnF_cons (by kernel_rfl) opn4 (opnF_cons (by kernel_rfl) opn27 opnF_nil))
set_option maxRecDepth 100000 in
theorem lifted (os : Os) (started : os.Started) (H : Type) (enc : TypeId × Value → H) :
    ReturnsInHanded {} Try.checked os 10 .any (Rows.arcTellsSpec.pre6 enc Try.prog Try.f10 Rows.arcTellsRow.domain false) (Rows.arcTellsSpec.post enc Try.prog Try.f10 false true false false) := by
  refine returnsInHanded_of_change_sized (C := Try.checked) own started (by kernel_rfl) Try.func10
    (ChangeSpec.witness6 (enc := enc) (C := Try.checked) false ⟨#[], #[.slice none 0 0, .int .i64 0, .int .i64 0, .agg #[.bool false, .slice none 0 0], .agg #[.int .i64 0, .int .i64 0], .agg #[.int .i64 0, .int .i64 0], .int .i64 0, .int .i64 0], []⟩ 8 (by kernel_rfl) (by kernel_rfl) (by kernel_rfl) (by kernel_rfl)) ?_
  intro W base args ds gs before hval0 hW hcnd hsz0 _
  have hval : ∀ (j : Nat) t v, Try.f10.params[j]? = some t → args[j]? = some v → Value.okWide Try.prog W .any base t v := hval0
  have hW' := hW
  obtain ⟨p, q, hA0, hV, rfl, hfz, hnd⟩ := hW
  have hA : DataW.TrodAll enc Try.prog W 0 (fun _ => true) true Try.f10.params.toList args.toList ds p := hA0
  rw [Try.params10] at hA hval
  obtain ⟨v0, vs0, d0, ds0, p0, q0, hargs, rfl, rfl, h0, r0⟩ := trodAll_cons hA
  obtain ⟨v1, vs1, d1, ds1, p1, q1, rfl, rfl, rfl, h1, r1⟩ := trodAll_cons r0
  obtain ⟨v2, vs2, d2, ds2, p2, q2, rfl, rfl, rfl, h2, r2⟩ := trodAll_cons r1
  obtain ⟨v3, vs3, d3, ds3, p3, q3, rfl, rfl, rfl, h3, r3⟩ := trodAll_cons r2
  obtain ⟨v4, vs4, d4, ds4, p4, q4, rfl, rfl, rfl, h4, r4⟩ := trodAll_cons r3
  obtain ⟨v5, vs5, d5, ds5, p5, q5, rfl, rfl, rfl, h5, r5⟩ := trodAll_cons r4
  obtain ⟨v6, vs6, d6, ds6, p6, q6, rfl, rfl, rfl, h6, r6⟩ := trodAll_cons r5
  obtain ⟨v7, vs7, d7, ds7, p7, q7, rfl, rfl, rfl, h7, r7⟩ := trodAll_cons r6
  obtain ⟨rfl, rfl, rfl⟩ := trodAll_nil r7
  obtain rfl : args = #[v0, v1, v2, v3, v4, v5, v6, v7] := by cases args; simp_all
  obtain ⟨rfl, rfl⟩ := trodVars_none hV
  have k0 := h0
  have lt0 : ∀ x ∈ p0, x.block < W.heap.size := by obtain ⟨m, hm⟩ := k0; exact DataW.trod_lt m _ _ _ hm
  obtain ⟨A0, len0, cap0, rfl⟩ := okWide_slice Try.underlying22 (hval 0 22 v0 rfl rfl)
  obtain ⟨fuel0, hf0⟩ := h0
  obtain ⟨us0, e0, hp0, xs0, rfl, hl0, g0⟩ := opn22 fuel0 _ _ hf0
  obtain ⟨a1, rfl, rfl, rfl, w1⟩ := open_int Try.underlying2 (hval 1 2 v1 rfl rfl) h1
  obtain ⟨a2, rfl, rfl, rfl, w2⟩ := open_int Try.underlying2 (hval 2 2 v2 rfl rfl) h2
  have k3 := h3
  have lt3 : ∀ x ∈ p3, x.block < W.heap.size := by obtain ⟨m, hm⟩ := k3; exact DataW.trod_lt m _ _ _ hm
  obtain ⟨cs3, rfl, _⟩ := okWide_struct Try.underlying39 (hval 3 39 v3 rfl rfl)
  obtain ⟨fuel3, hf3⟩ := h3
  obtain ⟨us3, e3, hp3, g3⟩ := opn39 fuel3 _ _ hf3
  have k4 := h4
  have lt4 : ∀ x ∈ p4, x.block < W.heap.size := by obtain ⟨m, hm⟩ := k4; exact DataW.trod_lt m _ _ _ hm
  obtain ⟨cs4, rfl, _⟩ := okWide_struct Try.underlying34 (hval 4 34 v4 rfl rfl)
  obtain ⟨fuel4, hf4⟩ := h4
  obtain ⟨us4, e4, hp4, g4⟩ := opn34 fuel4 _ _ hf4
  have k5 := h5
  have lt5 : ∀ x ∈ p5, x.block < W.heap.size := by obtain ⟨m, hm⟩ := k5; exact DataW.trod_lt m _ _ _ hm
  obtain ⟨cs5, rfl, _⟩ := okWide_struct Try.underlying34 (hval 5 34 v5 rfl rfl)
  obtain ⟨fuel5, hf5⟩ := h5
  obtain ⟨us5, e5, hp5, g5⟩ := opn34 fuel5 _ _ hf5
  obtain ⟨a6, rfl, rfl, rfl, w6⟩ := open_int Try.underlying2 (hval 6 2 v6 rfl rfl) h6
  obtain ⟨a7, rfl, rfl, rfl, w7⟩ := open_int Try.underlying2 (hval 7 2 v7 rfl rfl) h7
  clear hA0 hval0 hsz0
  refine (open_args (VT.X_ok _) VT.mixed Go.Proofs.Ythohhdcngdmbeaa.H.os0 (Go.Proofs.Ythohhdcngdmbeaa.H.arcTells_call hl0 (Go.Proofs.Ythohhdcngdmbeaa.H.tape_rows g0) a1 a2 g3 g4 g5 a6 a7) W #[.slice A0 len0 cap0, .int .i64 a1, .int .i64 a2, .agg cs3, .agg cs4, .agg cs5, .int .i64 a6, .int .i64 a7] (by exact And.intro (AR.leaf (.pr (hp0 0 _ _ rfl rfl))) (And.intro (AR.leaf (.pr (.int _ _))) (And.intro (AR.leaf (.pr (.int _ _))) (And.intro (arg_agg e3 hp3) (And.intro (arg_agg e4 hp4) (And.intro (arg_agg e5 hp5) (And.intro (AR.leaf (.pr (.int _ _))) (And.intro (AR.leaf (.pr (.int _ _))) (trivial)))))))))).mono fun e W' ⟨he, bel⟩ => ?_
  subst he
  exact ⟨_, rfl, _, _, _, [], _, [], hW', trodAll_mk1 (shut_bool Try.underlying4 _), (trodAll_cons_mk (Below.trod laidOut (by kernel_rfl) (of_decide_eq_true (by kernel_rfl)) k0 bel lt0) (trodAll_cons_mk (shut_int Try.underlying2 w1) (trodAll_cons_mk (shut_int Try.underlying2 w2) (trodAll_cons_mk (Below.trod laidOut (by kernel_rfl) (of_decide_eq_true (by kernel_rfl)) k3 bel lt3) (trodAll_cons_mk (Below.trod laidOut (by kernel_rfl) (of_decide_eq_true (by kernel_rfl)) k4 bel lt4) (trodAll_cons_mk (Below.trod laidOut (by kernel_rfl) (of_decide_eq_true (by kernel_rfl)) k5 bel lt5) (trodAll_cons_mk (shut_int Try.underlying2 w6) (trodAll_cons_mk (shut_int Try.underlying2 w7) trodAll_mk0)))))))), rfl, bel.frame _, fun h => by cases h⟩
theorem over : Rows.arcTellsRow.holds Try.pinned (OpenSpec.ofChange Rows.arcTellsSpec) :=
  OpenClaim.holds_of_wide 10 Try.f10 rfl rfl rfl rfl rfl rfl rfl ⟨rfl, rfl, rfl, rfl, rfl⟩ rfl rfl rfl rfl rfl (by kernel_rfl) Try.func10 (by kernel_rfl)
    (of_decide_eq_true (by kernel_rfl)) (by unfold Func.isWrapper; first | (rw [if_pos (by decide +kernel)]; kernel_rfl) | (rw [if_neg (by decide +kernel)]; exact ⟨rfl, rfl⟩))
    (fun os started H enc _ => lifted os started H enc)
theorem proved : Rows.ArcTellsSaid := over
#print axioms proved
end Go.Proofs.Ythohhdcngdmbeaa.arcTells
namespace Go.Proofs.Ythohhdcngdmbeaa
/-- The row, under a short name, for the claim. -/
theorem arcTells_holds : Rows.ArcTellsSaid := arcTells.proved
end Go.Proofs.Ythohhdcngdmbeaa
