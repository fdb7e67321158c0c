/- The row of the law SceneOrder: whatever its arguments, the call returns true, and they read behind it as before. No condition. -/
import Derived.Test.YtifalphladcdcaaGreatRows
import Derived.Test.YtifalphladcdcaaGreatSceneOrderCallO
import Derived.Test.YtifalphladcdcaaGreatSceneOrderJoin
import Derived.WalkKit
import Derived.ProofKit
import Derived.OpenShut
import Derived.ShutString
import Derived.ChangeOld
import Derived.Below
import Derived.SizedLaws
import Derived.Carry
set_option linter.unusedVariables false
set_option linter.unusedSimpArgs false
namespace Go.Proofs.YtifalphladcdcaaGreat.sceneOrder
open Go.ChangeShapes Go.WideShapes Go.ChangeAt Go.RowKit
open Go.ChangeMaps (open_string shut_string)
open Go.VM (V Opn Old PR AR lite_of opn_int opn_bool opn_array opn_slice opn_struct opnF_nil opnF_cons okWide_array arg_agg open_argsU)
set_option linter.unusedVariables false
theorem own : ownKnob Tryz.prog.godebug = none := by kernel_rfl
theorem laidOut : laidOutB Tryz.prog = true := by kernel_rfl
set_option maxRecDepth 100000 in
theorem opn3 : Opn Tryz.prog 3 Go.Proofs.YtifalphladcdcaaGreat.H.pred3 := opn_int Tryz.underlying3
set_option maxRecDepth 100000 in
theorem opn22 : Opn Tryz.prog 22 Go.Proofs.YtifalphladcdcaaGreat.H.pred22 := opn_slice Tryz.underlying22 (by kernel_rfl) (by kernel_rfl) (by decide) opn3
set_option maxRecDepth 100000 in
theorem lifted (os : Os) (started : os.Started) (H : Type) (enc : TypeId × Value → H) :
    ReturnsInHanded {} Tryz.checked os 10 .any (Rows.sceneOrderSpec.pre6 enc Tryz.prog Tryz.f10 Rows.sceneOrderRow.domain false) (Rows.sceneOrderSpec.post enc Tryz.prog Tryz.f10 false true false false) := by
  refine returnsInHanded_of_change_sized (C := Tryz.checked) own started (by kernel_rfl) Tryz.func10
    (ChangeSpec.witness6 (enc := enc) (C := Tryz.checked) false ⟨#[], #[.slice none 0 0, .int .i64 0], []⟩ 8 (by kernel_rfl) (by kernel_rfl) (by kernel_rfl) (by kernel_rfl)) ?_
  intro W base args ds gs before hval0 hW hcnd hsz0 _
  have hval : ∀ (j : Nat) t v, Tryz.f10.params[j]? = some t → args[j]? = some v → Value.okWide Tryz.prog W .any base t v := hval0
  have hW' := hW
  obtain ⟨p, q, hA0, hV, rfl, hfz, hnd⟩ := hW
  have hA : DataW.TrodAll enc Tryz.prog W 0 (fun _ => true) true Tryz.f10.params.toList args.toList ds p := hA0
  rw [Tryz.params10] at hA hval
  obtain ⟨v0, vs0, d0, ds0, p0, q0, hargs, rfl, rfl, h0, r0⟩ := trodAll_cons hA
  obtain ⟨v1, vs1, d1, ds1, p1, q1, rfl, rfl, rfl, h1, r1⟩ := trodAll_cons r0
  obtain ⟨rfl, rfl, rfl⟩ := trodAll_nil r1
  obtain rfl : args = #[v0, v1] := by cases args; simp_all
  obtain ⟨rfl, rfl⟩ := trodVars_none hV
  have k0 := h0
  have lt0 : ∀ x ∈ p0, x.block < W.heap.size := by obtain ⟨m, hm⟩ := k0; exact DataW.trod_lt m _ _ _ hm
  obtain ⟨A0, len0, cap0, rfl⟩ := okWide_slice Tryz.underlying22 (hval 0 22 v0 rfl rfl)
  obtain ⟨fuel0, hf0⟩ := h0
  obtain ⟨us0, e0, hp0, xs0, rfl, hl0, g0⟩ := opn22 fuel0 _ _ hf0 (lite_of hsz0 (j := 0) (by rfl) (by rfl))
  obtain ⟨a1, rfl, rfl, rfl, w1⟩ := open_int Tryz.underlying2 (hval 1 2 v1 rfl rfl) h1
  clear hA0 hval0 hsz0
  refine (open_argsU VT.X_ok VT.mixed Go.Proofs.YtifalphladcdcaaGreat.H.os0 (Go.Proofs.YtifalphladcdcaaGreat.H.sceneOrder_call hl0 g0 a1) W #[.slice A0 len0 cap0, .int .i64 a1] (by exact And.intro (AR.leaf (.pr (hp0 0 _ _ rfl rfl))) (And.intro (AR.leaf (.pr (.int _ _))) (trivial)))).mono fun e W' ⟨he, bel⟩ => ?_
  subst he
  exact ⟨_, rfl, _, _, _, [], _, [], hW', trodAll_mk1 (shut_bool Tryz.underlying4 _), (trodAll_cons_mk (Below.trod laidOut (by kernel_rfl) (of_decide_eq_true (by kernel_rfl)) k0 bel lt0) (trodAll_cons_mk (shut_int Tryz.underlying2 w1) trodAll_mk0)), rfl, bel.frame _, fun h => by cases h⟩
theorem over : Rows.sceneOrderRow.holds Tryz.pinned (OpenSpec.ofChange Rows.sceneOrderSpec) :=
  OpenClaim.holds_of_wide 10 Tryz.f10 rfl rfl rfl rfl rfl rfl rfl ⟨rfl, rfl, rfl, rfl, rfl⟩ rfl rfl rfl rfl rfl (by kernel_rfl) Tryz.func10 Go.Proofs.YtifalphladcdcaaGreat.JsceneOrder.closed
    (of_decide_eq_true (by kernel_rfl)) (by unfold Func.isWrapper; first | (rw [if_pos (by decide +kernel)]; kernel_rfl) | (rw [if_neg (by decide +kernel)]; exact ⟨rfl, rfl⟩))
    (fun os started H enc _ => lifted os started H enc)
theorem proved : Rows.SceneOrderSaid := over
#print axioms proved
end Go.Proofs.YtifalphladcdcaaGreat.sceneOrder
namespace Go.Proofs.YtifalphladcdcaaGreat
/-- The row, under a short name, for the claim. -/
theorem sceneOrder_holds : Rows.SceneOrderSaid := sceneOrder.proved
end Go.Proofs.YtifalphladcdcaaGreat
