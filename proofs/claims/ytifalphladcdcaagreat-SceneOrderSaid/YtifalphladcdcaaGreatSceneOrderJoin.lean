/- The closed cells of the row sceneOrder are what the program forces, one by one. No condition. -/
import Derived.Test.YtifalphladcdcaaGreatRows
import Derived.WalkKit
import Derived.ProofKit
import Derived.JoinedOf
set_option linter.unusedVariables false
set_option linter.unusedSimpArgs false
namespace Go.Proofs.YtifalphladcdcaaGreat.JsceneOrder
open Go
noncomputable abbrev P := Tryz.pinned.checked.prog
noncomputable abbrev f : Nat := 10
noncomputable abbrev fn := Tryz.f10
noncomputable abbrev s := Rows.sceneOrderSpec
noncomputable abbrev c := Rows.sceneOrderRow
theorem an {a b : Bool} (h : a = true) (h' : b = true) : (a && b) = true := by rw [h, h']; rfl
theorem k0 : (c.wf (OpenSpec.ofChange s)) = true := by kernel_rfl
theorem k1 : (laidOutB P) = true := by kernel_rfl
theorem k2 : (mapsRowed P) = true := by kernel_rfl
theorem k3 : (fn.params.all (P.readableRec ·)) = true := by kernel_rfl
theorem k4 : (namedTie P c.named s.vars) = true := by kernel_rfl
theorem k5 : ((c.stops == [])) = true := by kernel_rfl
theorem k6 : ((P.stops == [])) = true := by kernel_rfl
theorem k7 : ((c.knobs == [])) = true := by kernel_rfl
theorem k8 : ((P.stopKnobs == [])) = true := by kernel_rfl
theorem k9 : ((c.inPlace == P.inPlace f)) = true := by kernel_rfl
theorem k10 : ((c.unfollowed == P.unfollowed f)) = true := by kernel_rfl
theorem k11 : ((c.recurses == P.recurses f)) = true := by kernel_rfl
theorem k12 : ((c.named == P.varsNamed f)) = true := by kernel_rfl
theorem k13 : ((c.maps == (fn.params.toList ++ s.plain.varTypes P).any (P.mapsRec ·))) = true := by kernel_rfl
theorem k14 : ((c.ifaces == (fn.params.toList ++ s.plain.varTypes P).any (P.ifacesRec ·))) = true := by kernel_rfl
theorem k15 : ((c.mapsOut == P.mapsAmong fn.resultTypes.toList)) = true := by kernel_rfl
theorem k16 : ((c.loops == (fn.params.toList ++ s.plain.varTypes P).any (P.loopsFrom ·))) = true := by kernel_rfl
theorem k17 : ((c.wideKeys == (fn.params.toList ++ s.plain.varTypes P ++ fn.resultTypes.toList).any (P.wideKeysFrom ·))) = true := by kernel_rfl
theorem k18 : (s.vars.all (P.varReadable ·)) = true := by kernel_rfl
theorem k19 : (fn.resultTypes.all (fun t => P.readableRec t && decide (t < P.types.size))) = true := by kernel_rfl
theorem k20 : ((c.ifacesOut == fn.resultTypes.toList.any (P.ifacesRec ·))) = true := by kernel_rfl
theorem k21 : ((c.loopsOut == fn.resultTypes.toList.any (P.loopsFrom ·))) = true := by kernel_rfl
theorem k22 : ((c.plainKeys == P.plainKeys)) = true := by kernel_rfl
theorem k23 : (c.shortTexts.isNone) = true := by kernel_rfl
theorem k24 : (P.stopsHeard) = true := by kernel_rfl
theorem k25 : (P.mayEnter) = true := by kernel_rfl
theorem k26 : ((c.lifted == P.liftsFinal)) = true := by kernel_rfl
theorem k27 : ((P.make == some c.make)) = true := by kernel_rfl
theorem k28 : ((c.kinds == (if c.domain.isEmpty then [] else fn.params.toList.map fun t => match P.underlying t with | some (.int k) => some k | _ => none))) = true := by kernel_rfl
theorem k29 : ((c.pinned == c.pinnedBy)) = true := by kernel_rfl
theorem k30 : ((c.veiled == (fn.params.toList ++ s.plain.varTypes P ++ fn.resultTypes.toList).any (P.veiledRec ·))) = true := by kernel_rfl
theorem k31 : (c.veiledFits P fn.params.toList (fn.params.toList ++ s.plain.varTypes P ++ fn.resultTypes.toList)) = true := by kernel_rfl
set_option maxRecDepth 100000 in
theorem closed : joinedFacts P f fn s c = true := by
  unfold joinedFacts
  exact (an (an (an (an (an (an (an (an (an (an (an (an (an (an (an (an (an (an (an (an (an (an (an (an (an (an (an (an (an (an (an k0 k1) k2) k3) k4) k5) k6) k7) k8) k9) k10) k11) k12) k13) k14) k15) k16) k17) k18) k19) k20) k21) k22) k23) k24) k25) k26) k27) k28) k29) k30) k31)
end Go.Proofs.YtifalphladcdcaaGreat.JsceneOrder
