/- The row of the law PathTells: whatever its arguments, the call returns true, and they read behind it as before. No condition. -/
import Derived.Test.YtifalphladcdcaaRows
import Derived.Test.YtifalphladcdcaaPathCall5
import Derived.WalkKit
import Derived.ProofKit
import Derived.OpenShut
import Derived.ShutString
import Derived.ChangeOld
import Derived.Below
import Derived.SizedLaws
import Derived.Carry
set_option linter.unusedVariables false
set_option linter.unusedSimpArgs false
namespace Go.Proofs.Ytifalphladcdcaa.pathTells
open Go.ChangeShapes Go.WideShapes Go.ChangeAt Go.RowKit
open Go.ChangeMaps (open_string shut_string)
open Go.VM (V Opn Old PR AR lite_of opn_int opn_bool opn_array opn_slice opn_struct opnF_nil opnF_cons okWide_array arg_agg open_argsU)
set_option linter.unusedVariables false
theorem own : ownKnob Try.prog.godebug = none := by kernel_rfl
theorem laidOut : laidOutB Try.prog = true := by kernel_rfl
set_option maxRecDepth 100000 in
theorem opn3 : Opn Try.prog 3 Go.Proofs.Ytifalphladcdcaa.H.pred3 := opn_int Try.underlying3
set_option maxRecDepth 100000 in
theorem opn32 : Opn Try.prog 32 Go.Proofs.Ytifalphladcdcaa.H.pred32 := opn_slice Try.underlying32 (by kernel_rfl) (by kernel_rfl) (by decide) opn3
set_option maxRecDepth 100000 in
theorem opn2 : Opn Try.prog 2 Go.Proofs.Ytifalphladcdcaa.H.pred2 := opn_int Try.underlying2
set_option maxRecDepth 100000 in
theorem opn30 : Opn Try.prog 30 Go.Proofs.Ytifalphladcdcaa.H.pred30 := opn_struct Try.underlying30 (by kernel_rfl) (opnF_cons (by kernel_rfl) opn2 (opnF_cons (by kernel_rfl) opn2 (opnF_cons (by kernel_rfl) opn2 (opnF_cons (by kernel_rfl) opn2 (opnF_cons (by kernel_rfl) opn2 (opnF_cons (by kernel_rfl) opn2 opnF_nil))))))
set_option maxRecDepth 100000 in
theorem opn4 : Opn Try.prog 4 Go.Proofs.Ytifalphladcdcaa.H.pred4 := opn_bool Try.underlying4
set_option maxRecDepth 100000 in
theorem opn26 : Opn Try.prog 26 Go.Proofs.Ytifalphladcdcaa.H.pred26 := opn_struct Try.underlying26 (by kernel_rfl) (opnF_cons (by kernel_rfl) opn2 (opnF_cons (by kernel_rfl) opn2 opnF_nil))
set_option maxRecDepth 100000 in
theorem opn22 : Opn Try.prog 22 Go.Proofs.Ytifalphladcdcaa.H.pred22 := opn_slice Try.underlying22 (by kernel_rfl) (by kernel_rfl) (by decide) opn26
set_option maxRecDepth 100000 in
theorem opn24 : Opn Try.prog 24 Go.Proofs.Ytifalphladcdcaa.H.pred24 := opn_struct Try.underlying24 (by kernel_rfl) (opnF_cons (by kernel_rfl) opn4 (opnF_cons (by kernel_rfl) opn22 opnF_nil))
set_option maxRecDepth 100000 in
theorem lifted (os : Os) (started : os.Started) (H : Type) (enc : TypeId × Value → H) :
    ReturnsInHanded {} Try.checked os 4 .any (Rows.pathTellsSpec.pre6 enc Try.prog Try.f4 Rows.pathTellsRow.domain false) (Rows.pathTellsSpec.post enc Try.prog Try.f4 false true false false) := by
  refine returnsInHanded_of_change_sized (C := Try.checked) own started (by kernel_rfl) Try.func4
    (ChangeSpec.witness6 (enc := enc) (C := Try.checked) false ⟨#[], #[.slice none 0 0, .slice none 0 0, .int .i64 0, .agg #[.int .i64 0, .int .i64 0, .int .i64 0, .int .i64 0, .int .i64 0, .int .i64 0], .agg #[.bool false, .slice none 0 0], .int .i64 0], []⟩ 8 (by kernel_rfl) (by kernel_rfl) (by kernel_rfl) (by kernel_rfl)) ?_
  intro W base args ds gs before hval0 hW hcnd hsz0 _
  have hval : ∀ (j : Nat) t v, Try.f4.params[j]? = some t → args[j]? = some v → Value.okWide Try.prog W .any base t v := hval0
  have hW' := hW
  obtain ⟨p, q, hA0, hV, rfl, hfz, hnd⟩ := hW
  have hA : DataW.TrodAll enc Try.prog W 0 (fun _ => true) true Try.f4.params.toList args.toList ds p := hA0
  rw [Try.params4] at hA hval
  obtain ⟨v0, vs0, d0, ds0, p0, q0, hargs, rfl, rfl, h0, r0⟩ := trodAll_cons hA
  obtain ⟨v1, vs1, d1, ds1, p1, q1, rfl, rfl, rfl, h1, r1⟩ := trodAll_cons r0
  obtain ⟨v2, vs2, d2, ds2, p2, q2, rfl, rfl, rfl, h2, r2⟩ := trodAll_cons r1
  obtain ⟨v3, vs3, d3, ds3, p3, q3, rfl, rfl, rfl, h3, r3⟩ := trodAll_cons r2
  obtain ⟨v4, vs4, d4, ds4, p4, q4, rfl, rfl, rfl, h4, r4⟩ := trodAll_cons r3
  obtain ⟨v5, vs5, d5, ds5, p5, q5, rfl, rfl, rfl, h5, r5⟩ := trodAll_cons r4
  obtain ⟨rfl, rfl, rfl⟩ := trodAll_nil r5
  obtain rfl : args = #[v0, v1, v2, v3, v4, v5] := by cases args; simp_all
  obtain ⟨rfl, rfl⟩ := trodVars_none hV
  have k0 := h0
  have lt0 : ∀ x ∈ p0, x.block < W.heap.size := by obtain ⟨m, hm⟩ := k0; exact DataW.trod_lt m _ _ _ hm
  obtain ⟨A0, len0, cap0, rfl⟩ := okWide_slice Try.underlying32 (hval 0 32 v0 rfl rfl)
  obtain ⟨fuel0, hf0⟩ := h0
  obtain ⟨us0, e0, hp0, xs0, rfl, hl0, g0⟩ := opn32 fuel0 _ _ hf0 (lite_of hsz0 (j := 0) (by rfl) (by rfl))
  have k1 := h1
  have lt1 : ∀ x ∈ p1, x.block < W.heap.size := by obtain ⟨m, hm⟩ := k1; exact DataW.trod_lt m _ _ _ hm
  obtain ⟨A1, len1, cap1, rfl⟩ := okWide_slice Try.underlying32 (hval 1 32 v1 rfl rfl)
  obtain ⟨fuel1, hf1⟩ := h1
  obtain ⟨us1, e1, hp1, xs1, rfl, hl1, g1⟩ := opn32 fuel1 _ _ hf1 (lite_of hsz0 (j := 1) (by rfl) (by rfl))
  obtain ⟨a2, rfl, rfl, rfl, w2⟩ := open_int Try.underlying2 (hval 2 2 v2 rfl rfl) h2
  have k3 := h3
  have lt3 : ∀ x ∈ p3, x.block < W.heap.size := by obtain ⟨m, hm⟩ := k3; exact DataW.trod_lt m _ _ _ hm
  obtain ⟨cs3, rfl, _⟩ := okWide_struct Try.underlying30 (hval 3 30 v3 rfl rfl)
  obtain ⟨fuel3, hf3⟩ := h3
  obtain ⟨us3, e3, hp3, g3⟩ := opn30 fuel3 _ _ hf3 (lite_of hsz0 (j := 3) (by rfl) (by rfl))
  have k4 := h4
  have lt4 : ∀ x ∈ p4, x.block < W.heap.size := by obtain ⟨m, hm⟩ := k4; exact DataW.trod_lt m _ _ _ hm
  obtain ⟨cs4, rfl, _⟩ := okWide_struct Try.underlying24 (hval 4 24 v4 rfl rfl)
  obtain ⟨fuel4, hf4⟩ := h4
  obtain ⟨us4, e4, hp4, g4⟩ := opn24 fuel4 _ _ hf4 (lite_of hsz0 (j := 4) (by rfl) (by rfl))
  obtain ⟨a5, rfl, rfl, rfl, w5⟩ := open_int Try.underlying3 (hval 5 3 v5 rfl rfl) h5
  clear hA0 hval0 hsz0
  refine (open_argsU VT.X_ok VT.mixed Go.Proofs.Ytifalphladcdcaa.H.os0 (Go.Proofs.Ytifalphladcdcaa.H.pathTells_call hl0 g0 hl1 g1 a2 g3 g4 a5) W #[.slice A0 len0 cap0, .slice A1 len1 cap1, .int .i64 a2, .agg cs3, .agg cs4, .int .i64 a5] (by exact And.intro (AR.leaf (.pr (hp0 0 _ _ rfl rfl))) (And.intro (AR.leaf (.pr (hp1 0 _ _ rfl rfl))) (And.intro (AR.leaf (.pr (.int _ _))) (And.intro (arg_agg e3 hp3) (And.intro (arg_agg e4 hp4) (And.intro (AR.leaf (.pr (.int _ _))) (trivial)))))))).mono fun e W' ⟨he, bel⟩ => ?_
  subst he
  exact ⟨_, rfl, _, _, _, [], _, [], hW', trodAll_mk1 (shut_bool Try.underlying4 _), (trodAll_cons_mk (Below.trod laidOut (by kernel_rfl) (of_decide_eq_true (by kernel_rfl)) k0 bel lt0) (trodAll_cons_mk (Below.trod laidOut (by kernel_rfl) (of_decide_eq_true (by kernel_rfl)) k1 bel lt1) (trodAll_cons_mk (shut_int Try.underlying2 w2) (trodAll_cons_mk (Below.trod laidOut (by kernel_rfl) (of_decide_eq_true (by kernel_rfl)) k3 bel lt3) (trodAll_cons_mk (Below.trod laidOut (by kernel_rfl) (of_decide_eq_true (by kernel_rfl)) k4 bel lt4) (trodAll_cons_mk (shut_int Try.underlying3 w5) trodAll_mk0)))))), rfl, bel.frame _, fun h => by cases h⟩
theorem over : Rows.pathTellsRow.holds Try.pinned (OpenSpec.ofChange Rows.pathTellsSpec) :=
  OpenClaim.holds_of_wide 4 Try.f4 rfl rfl rfl rfl rfl rfl rfl ⟨rfl, rfl, rfl, rfl, rfl⟩ rfl rfl rfl rfl rfl (by kernel_rfl) Try.func4 (by kernel_rfl)
    (of_decide_eq_true (by kernel_rfl)) (by unfold Func.isWrapper; first | (rw [if_pos (by decide +kernel)]; kernel_rfl) | (rw [if_neg (by decide +kernel)]; exact ⟨rfl, rfl⟩))
    (fun os started H enc _ => lifted os started H enc)
theorem proved : Rows.PathTellsSaid := over
#print axioms proved
end Go.Proofs.Ytifalphladcdcaa.pathTells
namespace Go.Proofs.Ytifalphladcdcaa
/-- The row, under a short name, for the claim. -/
theorem pathTells_holds : Rows.PathTellsSaid := pathTells.proved
end Go.Proofs.Ytifalphladcdcaa
