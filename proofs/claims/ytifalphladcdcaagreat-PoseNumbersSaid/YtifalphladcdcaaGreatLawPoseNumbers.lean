/- The row of the law PoseNumbers: whatever its arguments, the call returns true, and they read behind it as before. No condition. -/
import Derived.Test.YtifalphladcdcaaGreatRows
import Derived.Test.YtifalphladcdcaaGreatPoseNumbersCallN
import Derived.Test.YtifalphladcdcaaGreatPoseNumbersJoin
import Derived.WalkKit
import Derived.ProofKit
import Derived.OpenShut
import Derived.ShutString
import Derived.ChangeOld
import Derived.Below
import Derived.SizedLaws
import Derived.Carry
set_option linter.unusedVariables false
set_option linter.unusedSimpArgs false
namespace Go.Proofs.YtifalphladcdcaaGreat.poseNumbers
open Go.ChangeShapes Go.WideShapes Go.ChangeAt Go.RowKit
open Go.ChangeMaps (open_string shut_string)
open Go.VM (V Opn Old PR AR lite_of opn_int opn_bool opn_array opn_slice opn_struct opnF_nil opnF_cons okWide_array arg_agg open_argsU)
set_option linter.unusedVariables false
theorem own : ownKnob Tryz.prog.godebug = none := by kernel_rfl
set_option maxRecDepth 100000 in
theorem lifted (os : Os) (started : os.Started) (H : Type) (enc : TypeId × Value → H) :
    ReturnsInHanded {} Tryz.checked os 6 .any (Rows.poseNumbersSpec.pre6 enc Tryz.prog Tryz.f6 Rows.poseNumbersRow.domain false) (Rows.poseNumbersSpec.post enc Tryz.prog Tryz.f6 false true false false) := by
  refine returnsInHanded_of_change_sized (C := Tryz.checked) own started (by kernel_rfl) Tryz.func6
    (ChangeSpec.witness6 (enc := enc) (C := Tryz.checked) false ⟨#[], #[], []⟩ 8 (by kernel_rfl) (by kernel_rfl) (by kernel_rfl) (by kernel_rfl)) ?_
  intro W base args ds gs before hval0 hW hcnd hsz0 _
  have hval : ∀ (j : Nat) t v, Tryz.f6.params[j]? = some t → args[j]? = some v → Value.okWide Tryz.prog W .any base t v := hval0
  have hW' := hW
  obtain ⟨p, q, hA0, hV, rfl, hfz, hnd⟩ := hW
  have hA : DataW.TrodAll enc Tryz.prog W 0 (fun _ => true) true Tryz.f6.params.toList args.toList ds p := hA0
  rw [Tryz.params6] at hA hval
  obtain ⟨rfl, rfl, rfl⟩ := trodAll_none hA
  obtain ⟨rfl, rfl⟩ := trodVars_none hV
  clear hA0 hval0 hsz0
  refine (VM.closed_okU VT.X_ok VT.mixed Go.Proofs.YtifalphladcdcaaGreat.H.os0 (Go.Proofs.YtifalphladcdcaaGreat.H.poseNumbers_call) W).mono fun e W' ⟨he, bel⟩ => ?_
  subst he
  exact ⟨_, rfl, _, _, _, [], _, [], hW', trodAll_mk1 (shut_bool Tryz.underlying4 _), trodAll_mk0, rfl, bel.frame _, fun h => by cases h⟩
theorem over : Rows.poseNumbersRow.holds Tryz.pinned (OpenSpec.ofChange Rows.poseNumbersSpec) :=
  OpenClaim.holds_of_wide 6 Tryz.f6 rfl rfl rfl rfl rfl rfl rfl ⟨rfl, rfl, rfl, rfl, rfl⟩ rfl rfl rfl rfl rfl (by kernel_rfl) Tryz.func6 Go.Proofs.YtifalphladcdcaaGreat.JposeNumbers.closed
    (of_decide_eq_true (by kernel_rfl)) (by unfold Func.isWrapper; first | (rw [if_pos (by decide +kernel)]; kernel_rfl) | (rw [if_neg (by decide +kernel)]; exact ⟨rfl, rfl⟩))
    (fun os started H enc _ => lifted os started H enc)
theorem proved : Rows.PoseNumbersSaid := over
#print axioms proved
end Go.Proofs.YtifalphladcdcaaGreat.poseNumbers
namespace Go.Proofs.YtifalphladcdcaaGreat
/-- The row, under a short name, for the claim. -/
theorem poseNumbers_holds : Rows.PoseNumbersSaid := poseNumbers.proved
end Go.Proofs.YtifalphladcdcaaGreat
