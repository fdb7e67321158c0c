/-
  No cell of these rows narrows 'for every input' (looked for: loops, veiled, ifaces, maps, wideKeys, modest, calm, conditions, laid).
  DERIVED. THE GIVEN ROWS OF THIS SEAT. 5 by the template 'for every input the law returns true; each argument reads behind the call as it read before'; 0 by the template 'total and deterministic' (their statements: YtifalphladcdcaaTotals.lean).
  GIVEN WITH THE SEED: the statements are not yours to turn. If you find one false, say at which input.
  Laid BY PROGRAM, IN A SANDBOX (cutbox-rows.mjs): the forced cells as the released guide's own fill.sh prints them over the translation f7001d140244b0a1… (all of the seat's roots in one cut). By AI agents, Wed Nov 11 2026. No macro, syntax, notation, axiom, sorry.
-/
import Derived.Test.YtifalphladcdcaaChecked
import GoSem.Claim
import GoSem.ClaimJoined
import GoSem.ClaimMapViews
import Derived.JoinedTies
import Derived.KernelRfl
namespace Go.Proofs.Ytifalphladcdcaa
/- THE CELL 'sum', in the pinned program and in every row, IS THE sha256 OF THE DUMP (.gsa) THAT YtifalphladcdcaaProg.lean LOADS. Nothing in Lean hashes anything: it is a label: what it is worth is what the hold of that sum in a sandbox is worth. -/
noncomputable def Try.pinned : Pinned := { name := "ytifalphladcdcaa", sum := "f7001d140244b0a12b910ae211739e39d10f8b3bcaf28d6419a6189eea851036", checked := Try.checked }
namespace Rows
def none {H : Type} : Left H := { results := [], args := [] }

/-- 'mutoscopelaw7.PathNumbers': WHATEVER THE INPUT: true; the input reads as it did. -/
def pathNumbersSpec : ChangeSpec := { name := "pathNumbers", fn := fun _ => fun
  | [] => { results := [.lit (.bool true)], args := [] }
  | _ => none }
def pathNumbersRow : OpenClaim := { program := "ytifalphladcdcaa", sum := "f7001d140244b0a12b910ae211739e39d10f8b3bcaf28d6419a6189eea851036", func := "mutoscope/mutoscopelaw7.PathNumbers", spec := "pathNumbers", unfollowed := true, recurses := true, named := ["math/bits.divideError", "math/bits.overflowError"], apart := false }
def PathNumbersSaid : Prop := pathNumbersRow.holds Try.pinned (OpenSpec.ofChange pathNumbersSpec)

/-- ITS FALSE NEIGHBOUR: 'it returns false'. Refute it at one input. -/
def pathNumbersWrong : ChangeSpec := { name := "pathNumbers", fn := fun _ => fun
  | [] => { results := [.lit (.bool false)], args := [] }
  | _ => none }
def PathNumbersWrongFalsely : Prop := pathNumbersRow.holds Try.pinned (OpenSpec.ofChange pathNumbersWrong)

/-- 'mutoscopelaw7.PathTells': WHATEVER THE INPUT: true; the input reads as it did. -/
def pathTellsSpec : ChangeSpec := { name := "pathTells", fn := fun _ => fun
  | [d1, d2, d3, d4, d5, d6] => { results := [.lit (.bool true)], args := [d1, d2, d3, d4, d5, d6] }
  | _ => none }
def pathTellsRow : OpenClaim := { program := "ytifalphladcdcaa", sum := "f7001d140244b0a12b910ae211739e39d10f8b3bcaf28d6419a6189eea851036", func := "mutoscope/mutoscopelaw7.PathTells", spec := "pathTells", unfollowed := true, recurses := true, named := ["math/bits.divideError", "math/bits.overflowError"], apart := false }
def PathTellsSaid : Prop := pathTellsRow.holds Try.pinned (OpenSpec.ofChange pathTellsSpec)

/-- ITS FALSE NEIGHBOUR: 'it returns false'. Refute it at one input. -/
def pathTellsWrong : ChangeSpec := { name := "pathTells", fn := fun _ => fun
  | [d1, d2, d3, d4, d5, d6] => { results := [.lit (.bool false)], args := [d1, d2, d3, d4, d5, d6] }
  | _ => none }
def PathTellsWrongFalsely : Prop := pathTellsRow.holds Try.pinned (OpenSpec.ofChange pathTellsWrong)

/-- 'mutoscopelaw13.ShapeMade': WHATEVER THE INPUT: true; the input reads as it did. -/
def shapeMadeSpec : ChangeSpec := { name := "shapeMade", fn := fun _ => fun
  | [d1, d2] => { results := [.lit (.bool true)], args := [d1, d2] }
  | _ => none }
def shapeMadeRow : OpenClaim := { program := "ytifalphladcdcaa", sum := "f7001d140244b0a12b910ae211739e39d10f8b3bcaf28d6419a6189eea851036", func := "mutoscope/mutoscopelaw13.ShapeMade", spec := "shapeMade", unfollowed := true, recurses := true, apart := false }
def ShapeMadeSaid : Prop := shapeMadeRow.holds Try.pinned (OpenSpec.ofChange shapeMadeSpec)

/-- ITS FALSE NEIGHBOUR: 'it returns false'. Refute it at one input. -/
def shapeMadeWrong : ChangeSpec := { name := "shapeMade", fn := fun _ => fun
  | [d1, d2] => { results := [.lit (.bool false)], args := [d1, d2] }
  | _ => none }
def ShapeMadeWrongFalsely : Prop := shapeMadeRow.holds Try.pinned (OpenSpec.ofChange shapeMadeWrong)

/-- 'mutoscopelaw13.ShapeTicks': WHATEVER THE INPUT: true; the input reads as it did. -/
def shapeTicksSpec : ChangeSpec := { name := "shapeTicks", fn := fun _ => fun
  | [d1, d2] => { results := [.lit (.bool true)], args := [d1, d2] }
  | _ => none }
def shapeTicksRow : OpenClaim := { program := "ytifalphladcdcaa", sum := "f7001d140244b0a12b910ae211739e39d10f8b3bcaf28d6419a6189eea851036", func := "mutoscope/mutoscopelaw13.ShapeTicks", spec := "shapeTicks", unfollowed := true, recurses := true, apart := false }
def ShapeTicksSaid : Prop := shapeTicksRow.holds Try.pinned (OpenSpec.ofChange shapeTicksSpec)

/-- ITS FALSE NEIGHBOUR: 'it returns false'. Refute it at one input. -/
def shapeTicksWrong : ChangeSpec := { name := "shapeTicks", fn := fun _ => fun
  | [d1, d2] => { results := [.lit (.bool false)], args := [d1, d2] }
  | _ => none }
def ShapeTicksWrongFalsely : Prop := shapeTicksRow.holds Try.pinned (OpenSpec.ofChange shapeTicksWrong)

/-- 'mutoscopelaw13.ShapeNumbers': WHATEVER THE INPUT: true; the input reads as it did. -/
def shapeNumbersSpec : ChangeSpec := { name := "shapeNumbers", fn := fun _ => fun
  | [] => { results := [.lit (.bool true)], args := [] }
  | _ => none }
def shapeNumbersRow : OpenClaim := { program := "ytifalphladcdcaa", sum := "f7001d140244b0a12b910ae211739e39d10f8b3bcaf28d6419a6189eea851036", func := "mutoscope/mutoscopelaw13.ShapeNumbers", spec := "shapeNumbers", unfollowed := true, recurses := true, named := ["math/bits.divideError", "math/bits.overflowError"], apart := false }
def ShapeNumbersSaid : Prop := shapeNumbersRow.holds Try.pinned (OpenSpec.ofChange shapeNumbersSpec)

/-- ITS FALSE NEIGHBOUR: 'it returns false'. Refute it at one input. -/
def shapeNumbersWrong : ChangeSpec := { name := "shapeNumbers", fn := fun _ => fun
  | [] => { results := [.lit (.bool false)], args := [] }
  | _ => none }
def ShapeNumbersWrongFalsely : Prop := shapeNumbersRow.holds Try.pinned (OpenSpec.ofChange shapeNumbersWrong)

/- THE SECOND FORM. 'bulk': how many values and letters a reading holds, each counted each time it is reached (what is shared counts as often as it is met; a slice's spare places count too). A statement '..UptoSaid' is the law's where the arguments, and the package variables that the reading takes, are together of bulk at most 1048576: NARROWER than '..Said'. Prove '..Said' where nothing that the law and all that it calls make is longer than what came in: it says more and counts as full. Else prove '..UptoSaid'. A law counts once. -/
mutual
def uptoBulk {H : Type} : DataW H → Nat
  | .lit (.string bytes) => bytes.length + 1
  | .lit _ => 1
  | .nil => 1
  | .ptr d => uptoBulk d + 1
  | .slice elems spare => uptoBulkAll elems + uptoBulkAll spare + 1
  | .agg parts => uptoBulkAll parts + 1
  | .iface _ d => uptoBulk d + 1
  | .map entries => uptoBulkEntries entries + 1
  | .held _ => 1
def uptoBulkAll {H : Type} : List (DataW H) → Nat
  | [] => 0
  | d :: r => uptoBulk d + uptoBulkAll r
def uptoBulkEntries {H : Type} : List (Lit × DataW H) → Nat
  | [] => 0
  | x :: r => uptoBulkEntry x + uptoBulkEntries r
def uptoBulkEntry {H : Type} : Lit × DataW H → Nat
  | (.string bytes, d) => bytes.length + uptoBulk d + 1
  | (_, d) => uptoBulk d + 1
 end
def uptoSmall : (H : Type) → List (DataW H) → Bool := fun _ ds => decide (uptoBulkAll ds ≤ 1048576)
def OpenSpec.upto (s : _root_.Go.ChangeSpec) : _root_.Go.OpenSpec := { _root_.Go.OpenSpec.ofChange s with cond := some uptoSmall }

/-- 'mutoscopelaw7.PathNumbers', WHERE WHAT IT READS IS OF BULK AT MOST 1048576: true; the input reads as it did. -/
def pathNumbersUptoRow : OpenClaim := { program := "ytifalphladcdcaa", sum := "f7001d140244b0a12b910ae211739e39d10f8b3bcaf28d6419a6189eea851036", func := "mutoscope/mutoscopelaw7.PathNumbers", spec := "pathNumbers", unfollowed := true, recurses := true, named := ["math/bits.divideError", "math/bits.overflowError"], apart := false, narrowed := true }
def PathNumbersUptoSaid : Prop := pathNumbersUptoRow.holds Try.pinned (OpenSpec.upto pathNumbersSpec)

/-- 'mutoscopelaw7.PathTells', WHERE WHAT IT READS IS OF BULK AT MOST 1048576: true; the input reads as it did. -/
def pathTellsUptoRow : OpenClaim := { program := "ytifalphladcdcaa", sum := "f7001d140244b0a12b910ae211739e39d10f8b3bcaf28d6419a6189eea851036", func := "mutoscope/mutoscopelaw7.PathTells", spec := "pathTells", unfollowed := true, recurses := true, named := ["math/bits.divideError", "math/bits.overflowError"], apart := false, narrowed := true }
def PathTellsUptoSaid : Prop := pathTellsUptoRow.holds Try.pinned (OpenSpec.upto pathTellsSpec)

/-- 'mutoscopelaw13.ShapeMade', WHERE WHAT IT READS IS OF BULK AT MOST 1048576: true; the input reads as it did. -/
def shapeMadeUptoRow : OpenClaim := { program := "ytifalphladcdcaa", sum := "f7001d140244b0a12b910ae211739e39d10f8b3bcaf28d6419a6189eea851036", func := "mutoscope/mutoscopelaw13.ShapeMade", spec := "shapeMade", unfollowed := true, recurses := true, apart := false, narrowed := true }
def ShapeMadeUptoSaid : Prop := shapeMadeUptoRow.holds Try.pinned (OpenSpec.upto shapeMadeSpec)

/-- 'mutoscopelaw13.ShapeTicks', WHERE WHAT IT READS IS OF BULK AT MOST 1048576: true; the input reads as it did. -/
def shapeTicksUptoRow : OpenClaim := { program := "ytifalphladcdcaa", sum := "f7001d140244b0a12b910ae211739e39d10f8b3bcaf28d6419a6189eea851036", func := "mutoscope/mutoscopelaw13.ShapeTicks", spec := "shapeTicks", unfollowed := true, recurses := true, apart := false, narrowed := true }
def ShapeTicksUptoSaid : Prop := shapeTicksUptoRow.holds Try.pinned (OpenSpec.upto shapeTicksSpec)

/-- 'mutoscopelaw13.ShapeNumbers', WHERE WHAT IT READS IS OF BULK AT MOST 1048576: true; the input reads as it did. -/
def shapeNumbersUptoRow : OpenClaim := { program := "ytifalphladcdcaa", sum := "f7001d140244b0a12b910ae211739e39d10f8b3bcaf28d6419a6189eea851036", func := "mutoscope/mutoscopelaw13.ShapeNumbers", spec := "shapeNumbers", unfollowed := true, recurses := true, named := ["math/bits.divideError", "math/bits.overflowError"], apart := false, narrowed := true }
def ShapeNumbersUptoSaid : Prop := shapeNumbersUptoRow.holds Try.pinned (OpenSpec.upto shapeNumbersSpec)

end Rows
end Go.Proofs.Ytifalphladcdcaa
