/-
  No cell of these rows narrows 'for every input' (looked for: loops, veiled, ifaces, maps, wideKeys, modest, calm, conditions, laid).
  DERIVED. THE GIVEN ROWS OF THIS SEAT. 10 by the template 'for every input the law returns true; each argument reads behind the call as it read before'; 0 by the template 'total and deterministic' (their statements: YtifalphladcdcaaGreatTotals.lean).
  GIVEN WITH THE SEED: the statements are not yours to turn. If you find one false, say at which input.
  Laid BY PROGRAM, IN A SANDBOX (cutbox-rows.mjs): the forced cells as the released guide's own fill.sh prints them over the translation 1fb1053bbc20c194… (all of the seat's roots in one cut). By AI agents, Wed Nov 11 2026. No macro, syntax, notation, axiom, sorry.
-/
import Derived.Test.YtifalphladcdcaaGreatChecked
import GoSem.Claim
import GoSem.ClaimJoined
import GoSem.ClaimMapViews
import Derived.JoinedTies
import Derived.KernelRfl
namespace Go.Proofs.YtifalphladcdcaaGreat
/- THE CELL 'sum', in the pinned program and in every row, IS THE sha256 OF THE DUMP (.gsa) THAT YtifalphladcdcaaGreatProg.lean LOADS. Nothing in Lean hashes anything: it is a label: what it is worth is what the hold of that sum in a sandbox is worth. -/
noncomputable def Tryz.pinned : Pinned := { name := "ytifalphladcdcaagreat", sum := "1fb1053bbc20c194274ef9a3a1e4f0f282eb3dcdb70d47ce08d0e5d62c6a4a11", checked := Tryz.checked }
namespace Rows
def none {H : Type} : Left H := { results := [], args := [] }

/-- 'mutoscopelaw13.ShapeTells': WHATEVER THE INPUT: true; the input reads as it did. -/
def shapeTellsSpec : ChangeSpec := { name := "shapeTells", fn := fun _ => fun
  | [d1, d2, d3, d4, d5, d6, d7] => { results := [.lit (.bool true)], args := [d1, d2, d3, d4, d5, d6, d7] }
  | _ => none }
def shapeTellsRow : OpenClaim := { program := "ytifalphladcdcaagreat", sum := "1fb1053bbc20c194274ef9a3a1e4f0f282eb3dcdb70d47ce08d0e5d62c6a4a11", func := "mutoscope/mutoscopelaw13.ShapeTells", spec := "shapeTells", unfollowed := true, recurses := true, named := ["math/bits.divideError", "math/bits.overflowError"], apart := false }
def ShapeTellsSaid : Prop := shapeTellsRow.holds Tryz.pinned (OpenSpec.ofChange shapeTellsSpec)

/-- ITS FALSE NEIGHBOUR: 'it returns false'. Refute it at one input. -/
def shapeTellsWrong : ChangeSpec := { name := "shapeTells", fn := fun _ => fun
  | [d1, d2, d3, d4, d5, d6, d7] => { results := [.lit (.bool false)], args := [d1, d2, d3, d4, d5, d6, d7] }
  | _ => none }
def ShapeTellsWrongFalsely : Prop := shapeTellsRow.holds Tryz.pinned (OpenSpec.ofChange shapeTellsWrong)

/-- 'mutoscopelaw21.PoseStarts': WHATEVER THE INPUT: true; the input reads as it did. -/
def poseStartsSpec : ChangeSpec := { name := "poseStarts", fn := fun _ => fun
  | [d1, d2, d3] => { results := [.lit (.bool true)], args := [d1, d2, d3] }
  | _ => none }
def poseStartsRow : OpenClaim := { program := "ytifalphladcdcaagreat", sum := "1fb1053bbc20c194274ef9a3a1e4f0f282eb3dcdb70d47ce08d0e5d62c6a4a11", func := "mutoscope/mutoscopelaw21.PoseStarts", spec := "poseStarts", unfollowed := true, recurses := true, apart := false }
def PoseStartsSaid : Prop := poseStartsRow.holds Tryz.pinned (OpenSpec.ofChange poseStartsSpec)

/-- ITS FALSE NEIGHBOUR: 'it returns false'. Refute it at one input. -/
def poseStartsWrong : ChangeSpec := { name := "poseStarts", fn := fun _ => fun
  | [d1, d2, d3] => { results := [.lit (.bool false)], args := [d1, d2, d3] }
  | _ => none }
def PoseStartsWrongFalsely : Prop := poseStartsRow.holds Tryz.pinned (OpenSpec.ofChange poseStartsWrong)

/-- 'mutoscopelaw21.PoseChains': WHATEVER THE INPUT: true; the input reads as it did. -/
def poseChainsSpec : ChangeSpec := { name := "poseChains", fn := fun _ => fun
  | [d1, d2] => { results := [.lit (.bool true)], args := [d1, d2] }
  | _ => none }
def poseChainsRow : OpenClaim := { program := "ytifalphladcdcaagreat", sum := "1fb1053bbc20c194274ef9a3a1e4f0f282eb3dcdb70d47ce08d0e5d62c6a4a11", func := "mutoscope/mutoscopelaw21.PoseChains", spec := "poseChains", unfollowed := true, recurses := true, named := ["math/bits.divideError", "math/bits.overflowError"], apart := false }
def PoseChainsSaid : Prop := poseChainsRow.holds Tryz.pinned (OpenSpec.ofChange poseChainsSpec)

/-- ITS FALSE NEIGHBOUR: 'it returns false'. Refute it at one input. -/
def poseChainsWrong : ChangeSpec := { name := "poseChains", fn := fun _ => fun
  | [d1, d2] => { results := [.lit (.bool false)], args := [d1, d2] }
  | _ => none }
def PoseChainsWrongFalsely : Prop := poseChainsRow.holds Tryz.pinned (OpenSpec.ofChange poseChainsWrong)

/-- 'mutoscopelaw21.PoseNumbers': WHATEVER THE INPUT: true; the input reads as it did. -/
def poseNumbersSpec : ChangeSpec := { name := "poseNumbers", fn := fun _ => fun
  | [] => { results := [.lit (.bool true)], args := [] }
  | _ => none }
def poseNumbersRow : OpenClaim := { program := "ytifalphladcdcaagreat", sum := "1fb1053bbc20c194274ef9a3a1e4f0f282eb3dcdb70d47ce08d0e5d62c6a4a11", func := "mutoscope/mutoscopelaw21.PoseNumbers", spec := "poseNumbers", unfollowed := true, recurses := true, named := ["math/bits.divideError", "math/bits.overflowError"], apart := false }
def PoseNumbersSaid : Prop := poseNumbersRow.holds Tryz.pinned (OpenSpec.ofChange poseNumbersSpec)

/-- ITS FALSE NEIGHBOUR: 'it returns false'. Refute it at one input. -/
def poseNumbersWrong : ChangeSpec := { name := "poseNumbers", fn := fun _ => fun
  | [] => { results := [.lit (.bool false)], args := [] }
  | _ => none }
def PoseNumbersWrongFalsely : Prop := poseNumbersRow.holds Tryz.pinned (OpenSpec.ofChange poseNumbersWrong)

/-- 'mutoscopelaw21.PoseTells': WHATEVER THE INPUT: true; the input reads as it did. -/
def poseTellsSpec : ChangeSpec := { name := "poseTells", fn := fun _ => fun
  | [d1, d2, d3, d4, d5] => { results := [.lit (.bool true)], args := [d1, d2, d3, d4, d5] }
  | _ => none }
def poseTellsRow : OpenClaim := { program := "ytifalphladcdcaagreat", sum := "1fb1053bbc20c194274ef9a3a1e4f0f282eb3dcdb70d47ce08d0e5d62c6a4a11", func := "mutoscope/mutoscopelaw21.PoseTells", spec := "poseTells", unfollowed := true, recurses := true, named := ["math/bits.divideError", "math/bits.overflowError"], apart := false }
def PoseTellsSaid : Prop := poseTellsRow.holds Tryz.pinned (OpenSpec.ofChange poseTellsSpec)

/-- ITS FALSE NEIGHBOUR: 'it returns false'. Refute it at one input. -/
def poseTellsWrong : ChangeSpec := { name := "poseTells", fn := fun _ => fun
  | [d1, d2, d3, d4, d5] => { results := [.lit (.bool false)], args := [d1, d2, d3, d4, d5] }
  | _ => none }
def PoseTellsWrongFalsely : Prop := poseTellsRow.holds Tryz.pinned (OpenSpec.ofChange poseTellsWrong)

/-- 'mutoscopelaw22.SceneSames': WHATEVER THE INPUT: true; the input reads as it did. -/
def sceneSamesSpec : ChangeSpec := { name := "sceneSames", fn := fun _ => fun
  | [d1, d2, d3] => { results := [.lit (.bool true)], args := [d1, d2, d3] }
  | _ => none }
def sceneSamesRow : OpenClaim := { program := "ytifalphladcdcaagreat", sum := "1fb1053bbc20c194274ef9a3a1e4f0f282eb3dcdb70d47ce08d0e5d62c6a4a11", func := "mutoscope/mutoscopelaw22.SceneSames", spec := "sceneSames", unfollowed := true, recurses := true, apart := false }
def SceneSamesSaid : Prop := sceneSamesRow.holds Tryz.pinned (OpenSpec.ofChange sceneSamesSpec)

/-- ITS FALSE NEIGHBOUR: 'it returns false'. Refute it at one input. -/
def sceneSamesWrong : ChangeSpec := { name := "sceneSames", fn := fun _ => fun
  | [d1, d2, d3] => { results := [.lit (.bool false)], args := [d1, d2, d3] }
  | _ => none }
def SceneSamesWrongFalsely : Prop := sceneSamesRow.holds Tryz.pinned (OpenSpec.ofChange sceneSamesWrong)

/-- 'mutoscopelaw22.SceneBounds': WHATEVER THE INPUT: true; the input reads as it did. -/
def sceneBoundsSpec : ChangeSpec := { name := "sceneBounds", fn := fun _ => fun
  | [d1, d2] => { results := [.lit (.bool true)], args := [d1, d2] }
  | _ => none }
def sceneBoundsRow : OpenClaim := { program := "ytifalphladcdcaagreat", sum := "1fb1053bbc20c194274ef9a3a1e4f0f282eb3dcdb70d47ce08d0e5d62c6a4a11", func := "mutoscope/mutoscopelaw22.SceneBounds", spec := "sceneBounds", unfollowed := true, recurses := true, apart := false }
def SceneBoundsSaid : Prop := sceneBoundsRow.holds Tryz.pinned (OpenSpec.ofChange sceneBoundsSpec)

/-- ITS FALSE NEIGHBOUR: 'it returns false'. Refute it at one input. -/
def sceneBoundsWrong : ChangeSpec := { name := "sceneBounds", fn := fun _ => fun
  | [d1, d2] => { results := [.lit (.bool false)], args := [d1, d2] }
  | _ => none }
def SceneBoundsWrongFalsely : Prop := sceneBoundsRow.holds Tryz.pinned (OpenSpec.ofChange sceneBoundsWrong)

/-- 'mutoscopelaw22.SceneOrder': WHATEVER THE INPUT: true; the input reads as it did. -/
def sceneOrderSpec : ChangeSpec := { name := "sceneOrder", fn := fun _ => fun
  | [d1, d2] => { results := [.lit (.bool true)], args := [d1, d2] }
  | _ => none }
def sceneOrderRow : OpenClaim := { program := "ytifalphladcdcaagreat", sum := "1fb1053bbc20c194274ef9a3a1e4f0f282eb3dcdb70d47ce08d0e5d62c6a4a11", func := "mutoscope/mutoscopelaw22.SceneOrder", spec := "sceneOrder", unfollowed := true, recurses := true, apart := false }
def SceneOrderSaid : Prop := sceneOrderRow.holds Tryz.pinned (OpenSpec.ofChange sceneOrderSpec)

/-- ITS FALSE NEIGHBOUR: 'it returns false'. Refute it at one input. -/
def sceneOrderWrong : ChangeSpec := { name := "sceneOrder", fn := fun _ => fun
  | [d1, d2] => { results := [.lit (.bool false)], args := [d1, d2] }
  | _ => none }
def SceneOrderWrongFalsely : Prop := sceneOrderRow.holds Tryz.pinned (OpenSpec.ofChange sceneOrderWrong)

/-- 'mutoscopelaw22.SceneNumbers': WHATEVER THE INPUT: true; the input reads as it did. -/
def sceneNumbersSpec : ChangeSpec := { name := "sceneNumbers", fn := fun _ => fun
  | [] => { results := [.lit (.bool true)], args := [] }
  | _ => none }
def sceneNumbersRow : OpenClaim := { program := "ytifalphladcdcaagreat", sum := "1fb1053bbc20c194274ef9a3a1e4f0f282eb3dcdb70d47ce08d0e5d62c6a4a11", func := "mutoscope/mutoscopelaw22.SceneNumbers", spec := "sceneNumbers", unfollowed := true, recurses := true, named := ["math/bits.divideError", "math/bits.overflowError"], apart := false }
def SceneNumbersSaid : Prop := sceneNumbersRow.holds Tryz.pinned (OpenSpec.ofChange sceneNumbersSpec)

/-- ITS FALSE NEIGHBOUR: 'it returns false'. Refute it at one input. -/
def sceneNumbersWrong : ChangeSpec := { name := "sceneNumbers", fn := fun _ => fun
  | [] => { results := [.lit (.bool false)], args := [] }
  | _ => none }
def SceneNumbersWrongFalsely : Prop := sceneNumbersRow.holds Tryz.pinned (OpenSpec.ofChange sceneNumbersWrong)

/-- 'mutoscopelaw22.SceneTells': WHATEVER THE INPUT: true; the input reads as it did. -/
def sceneTellsSpec : ChangeSpec := { name := "sceneTells", fn := fun _ => fun
  | [d1, d2, d3, d4, d5] => { results := [.lit (.bool true)], args := [d1, d2, d3, d4, d5] }
  | _ => none }
def sceneTellsRow : OpenClaim := { program := "ytifalphladcdcaagreat", sum := "1fb1053bbc20c194274ef9a3a1e4f0f282eb3dcdb70d47ce08d0e5d62c6a4a11", func := "mutoscope/mutoscopelaw22.SceneTells", spec := "sceneTells", unfollowed := true, recurses := true, named := ["math/bits.divideError", "math/bits.overflowError"], apart := false }
def SceneTellsSaid : Prop := sceneTellsRow.holds Tryz.pinned (OpenSpec.ofChange sceneTellsSpec)

/-- ITS FALSE NEIGHBOUR: 'it returns false'. Refute it at one input. -/
def sceneTellsWrong : ChangeSpec := { name := "sceneTells", fn := fun _ => fun
  | [d1, d2, d3, d4, d5] => { results := [.lit (.bool false)], args := [d1, d2, d3, d4, d5] }
  | _ => none }
def SceneTellsWrongFalsely : Prop := sceneTellsRow.holds Tryz.pinned (OpenSpec.ofChange sceneTellsWrong)

/- THE SECOND FORM. 'bulk': how many values and letters a reading holds, each counted each time it is reached (what is shared counts as often as it is met; a slice's spare places count too). A statement '..UptoSaid' is the law's where the arguments, and the package variables that the reading takes, are together of bulk at most 1048576: NARROWER than '..Said'. Prove '..Said' where nothing that the law and all that it calls make is longer than what came in: it says more and counts as full. Else prove '..UptoSaid'. A law counts once. -/
mutual
def uptoBulk {H : Type} : DataW H → Nat
  | .lit (.string bytes) => bytes.length + 1
  | .lit _ => 1
  | .nil => 1
  | .ptr d => uptoBulk d + 1
  | .slice elems spare => uptoBulkAll elems + uptoBulkAll spare + 1
  | .agg parts => uptoBulkAll parts + 1
  | .iface _ d => uptoBulk d + 1
  | .map entries => uptoBulkEntries entries + 1
  | .held _ => 1
def uptoBulkAll {H : Type} : List (DataW H) → Nat
  | [] => 0
  | d :: r => uptoBulk d + uptoBulkAll r
def uptoBulkEntries {H : Type} : List (Lit × DataW H) → Nat
  | [] => 0
  | x :: r => uptoBulkEntry x + uptoBulkEntries r
def uptoBulkEntry {H : Type} : Lit × DataW H → Nat
  | (.string bytes, d) => bytes.length + uptoBulk d + 1
  | (_, d) => uptoBulk d + 1
 end
def uptoSmall : (H : Type) → List (DataW H) → Bool := fun _ ds => decide (uptoBulkAll ds ≤ 1048576)
def OpenSpec.upto (s : _root_.Go.ChangeSpec) : _root_.Go.OpenSpec := { _root_.Go.OpenSpec.ofChange s with cond := some uptoSmall }

/-- 'mutoscopelaw13.ShapeTells', WHERE WHAT IT READS IS OF BULK AT MOST 1048576: true; the input reads as it did. -/
def shapeTellsUptoRow : OpenClaim := { program := "ytifalphladcdcaagreat", sum := "1fb1053bbc20c194274ef9a3a1e4f0f282eb3dcdb70d47ce08d0e5d62c6a4a11", func := "mutoscope/mutoscopelaw13.ShapeTells", spec := "shapeTells", unfollowed := true, recurses := true, named := ["math/bits.divideError", "math/bits.overflowError"], apart := false, narrowed := true }
def ShapeTellsUptoSaid : Prop := shapeTellsUptoRow.holds Tryz.pinned (OpenSpec.upto shapeTellsSpec)

/-- 'mutoscopelaw21.PoseStarts', WHERE WHAT IT READS IS OF BULK AT MOST 1048576: true; the input reads as it did. -/
def poseStartsUptoRow : OpenClaim := { program := "ytifalphladcdcaagreat", sum := "1fb1053bbc20c194274ef9a3a1e4f0f282eb3dcdb70d47ce08d0e5d62c6a4a11", func := "mutoscope/mutoscopelaw21.PoseStarts", spec := "poseStarts", unfollowed := true, recurses := true, apart := false, narrowed := true }
def PoseStartsUptoSaid : Prop := poseStartsUptoRow.holds Tryz.pinned (OpenSpec.upto poseStartsSpec)

/-- 'mutoscopelaw21.PoseChains', WHERE WHAT IT READS IS OF BULK AT MOST 1048576: true; the input reads as it did. -/
def poseChainsUptoRow : OpenClaim := { program := "ytifalphladcdcaagreat", sum := "1fb1053bbc20c194274ef9a3a1e4f0f282eb3dcdb70d47ce08d0e5d62c6a4a11", func := "mutoscope/mutoscopelaw21.PoseChains", spec := "poseChains", unfollowed := true, recurses := true, named := ["math/bits.divideError", "math/bits.overflowError"], apart := false, narrowed := true }
def PoseChainsUptoSaid : Prop := poseChainsUptoRow.holds Tryz.pinned (OpenSpec.upto poseChainsSpec)

/-- 'mutoscopelaw21.PoseNumbers', WHERE WHAT IT READS IS OF BULK AT MOST 1048576: true; the input reads as it did. -/
def poseNumbersUptoRow : OpenClaim := { program := "ytifalphladcdcaagreat", sum := "1fb1053bbc20c194274ef9a3a1e4f0f282eb3dcdb70d47ce08d0e5d62c6a4a11", func := "mutoscope/mutoscopelaw21.PoseNumbers", spec := "poseNumbers", unfollowed := true, recurses := true, named := ["math/bits.divideError", "math/bits.overflowError"], apart := false, narrowed := true }
def PoseNumbersUptoSaid : Prop := poseNumbersUptoRow.holds Tryz.pinned (OpenSpec.upto poseNumbersSpec)

/-- 'mutoscopelaw21.PoseTells', WHERE WHAT IT READS IS OF BULK AT MOST 1048576: true; the input reads as it did. -/
def poseTellsUptoRow : OpenClaim := { program := "ytifalphladcdcaagreat", sum := "1fb1053bbc20c194274ef9a3a1e4f0f282eb3dcdb70d47ce08d0e5d62c6a4a11", func := "mutoscope/mutoscopelaw21.PoseTells", spec := "poseTells", unfollowed := true, recurses := true, named := ["math/bits.divideError", "math/bits.overflowError"], apart := false, narrowed := true }
def PoseTellsUptoSaid : Prop := poseTellsUptoRow.holds Tryz.pinned (OpenSpec.upto poseTellsSpec)

/-- 'mutoscopelaw22.SceneSames', WHERE WHAT IT READS IS OF BULK AT MOST 1048576: true; the input reads as it did. -/
def sceneSamesUptoRow : OpenClaim := { program := "ytifalphladcdcaagreat", sum := "1fb1053bbc20c194274ef9a3a1e4f0f282eb3dcdb70d47ce08d0e5d62c6a4a11", func := "mutoscope/mutoscopelaw22.SceneSames", spec := "sceneSames", unfollowed := true, recurses := true, apart := false, narrowed := true }
def SceneSamesUptoSaid : Prop := sceneSamesUptoRow.holds Tryz.pinned (OpenSpec.upto sceneSamesSpec)

/-- 'mutoscopelaw22.SceneBounds', WHERE WHAT IT READS IS OF BULK AT MOST 1048576: true; the input reads as it did. -/
def sceneBoundsUptoRow : OpenClaim := { program := "ytifalphladcdcaagreat", sum := "1fb1053bbc20c194274ef9a3a1e4f0f282eb3dcdb70d47ce08d0e5d62c6a4a11", func := "mutoscope/mutoscopelaw22.SceneBounds", spec := "sceneBounds", unfollowed := true, recurses := true, apart := false, narrowed := true }
def SceneBoundsUptoSaid : Prop := sceneBoundsUptoRow.holds Tryz.pinned (OpenSpec.upto sceneBoundsSpec)

/-- 'mutoscopelaw22.SceneOrder', WHERE WHAT IT READS IS OF BULK AT MOST 1048576: true; the input reads as it did. -/
def sceneOrderUptoRow : OpenClaim := { program := "ytifalphladcdcaagreat", sum := "1fb1053bbc20c194274ef9a3a1e4f0f282eb3dcdb70d47ce08d0e5d62c6a4a11", func := "mutoscope/mutoscopelaw22.SceneOrder", spec := "sceneOrder", unfollowed := true, recurses := true, apart := false, narrowed := true }
def SceneOrderUptoSaid : Prop := sceneOrderUptoRow.holds Tryz.pinned (OpenSpec.upto sceneOrderSpec)

/-- 'mutoscopelaw22.SceneNumbers', WHERE WHAT IT READS IS OF BULK AT MOST 1048576: true; the input reads as it did. -/
def sceneNumbersUptoRow : OpenClaim := { program := "ytifalphladcdcaagreat", sum := "1fb1053bbc20c194274ef9a3a1e4f0f282eb3dcdb70d47ce08d0e5d62c6a4a11", func := "mutoscope/mutoscopelaw22.SceneNumbers", spec := "sceneNumbers", unfollowed := true, recurses := true, named := ["math/bits.divideError", "math/bits.overflowError"], apart := false, narrowed := true }
def SceneNumbersUptoSaid : Prop := sceneNumbersUptoRow.holds Tryz.pinned (OpenSpec.upto sceneNumbersSpec)

/-- 'mutoscopelaw22.SceneTells', WHERE WHAT IT READS IS OF BULK AT MOST 1048576: true; the input reads as it did. -/
def sceneTellsUptoRow : OpenClaim := { program := "ytifalphladcdcaagreat", sum := "1fb1053bbc20c194274ef9a3a1e4f0f282eb3dcdb70d47ce08d0e5d62c6a4a11", func := "mutoscope/mutoscopelaw22.SceneTells", spec := "sceneTells", unfollowed := true, recurses := true, named := ["math/bits.divideError", "math/bits.overflowError"], apart := false, narrowed := true }
def SceneTellsUptoSaid : Prop := sceneTellsUptoRow.holds Tryz.pinned (OpenSpec.upto sceneTellsSpec)

end Rows
end Go.Proofs.YtifalphladcdcaaGreat
