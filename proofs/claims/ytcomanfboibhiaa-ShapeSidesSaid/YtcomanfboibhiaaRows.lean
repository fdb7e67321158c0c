/-
  No cell of these rows narrows 'for every input' (looked for: loops, veiled, ifaces, maps, wideKeys, modest, calm, conditions, laid).
  DERIVED. THE GIVEN ROWS OF THIS SEAT. 8 by the template 'for every input the law returns true; each argument reads behind the call as it read before'; 0 by the template 'total and deterministic' (their statements: YtcomanfboibhiaaTotals.lean).
  GIVEN WITH THE SEED: the statements are not yours to turn. If you find one false, say at which input.
  Laid BY PROGRAM, IN A SANDBOX (cutbox-rows.mjs): the forced cells as the released guide's own fill.sh prints them over the translation e598c530028660e5… (all of the seat's roots in one cut). By AI agents, Wed Nov 11 2026. No macro, syntax, notation, axiom, sorry.
-/
import Derived.Test.YtcomanfboibhiaaChecked
import GoSem.Claim
import GoSem.ClaimJoined
import GoSem.ClaimMapViews
import Derived.JoinedTies
import Derived.KernelRfl
namespace Go.Proofs.Ytcomanfboibhiaa
/- THE CELL 'sum', in the pinned program and in every row, IS THE sha256 OF THE DUMP (.gsa) THAT YtcomanfboibhiaaProg.lean LOADS. Nothing in Lean hashes anything: it is a label: what it is worth is what the hold of that sum in a sandbox is worth. -/
noncomputable def Try.pinned : Pinned := { name := "ytcomanfboibhiaa", sum := "e598c530028660e5b985a844b6f6e94e3d4de3dacc6ec2a0b0c3c7b6e1aa1b46", checked := Try.checked }
namespace Rows
def none {H : Type} : Left H := { results := [], args := [] }

/-- 'mutoscopelaw6.HueBetween': WHATEVER THE INPUT: true; the input reads as it did. -/
def hueBetweenSpec : ChangeSpec := { name := "hueBetween", fn := fun _ => fun
  | [d1, d2, d3] => { results := [.lit (.bool true)], args := [d1, d2, d3] }
  | _ => none }
def hueBetweenRow : OpenClaim := { program := "ytcomanfboibhiaa", sum := "e598c530028660e5b985a844b6f6e94e3d4de3dacc6ec2a0b0c3c7b6e1aa1b46", func := "mutoscope/mutoscopelaw6.HueBetween", spec := "hueBetween", apart := false }
def HueBetweenSaid : Prop := hueBetweenRow.holds Try.pinned (OpenSpec.ofChange hueBetweenSpec)

/-- ITS FALSE NEIGHBOUR: 'it returns false'. Refute it at one input. -/
def hueBetweenWrong : ChangeSpec := { name := "hueBetween", fn := fun _ => fun
  | [d1, d2, d3] => { results := [.lit (.bool false)], args := [d1, d2, d3] }
  | _ => none }
def HueBetweenWrongFalsely : Prop := hueBetweenRow.holds Try.pinned (OpenSpec.ofChange hueBetweenWrong)

/-- 'mutoscopelaw6.HueEnds': WHATEVER THE INPUT: true; the input reads as it did. -/
def hueEndsSpec : ChangeSpec := { name := "hueEnds", fn := fun _ => fun
  | [d1, d2] => { results := [.lit (.bool true)], args := [d1, d2] }
  | _ => none }
def hueEndsRow : OpenClaim := { program := "ytcomanfboibhiaa", sum := "e598c530028660e5b985a844b6f6e94e3d4de3dacc6ec2a0b0c3c7b6e1aa1b46", func := "mutoscope/mutoscopelaw6.HueEnds", spec := "hueEnds", unfollowed := true, recurses := true, apart := false }
def HueEndsSaid : Prop := hueEndsRow.holds Try.pinned (OpenSpec.ofChange hueEndsSpec)

/-- ITS FALSE NEIGHBOUR: 'it returns false'. Refute it at one input. -/
def hueEndsWrong : ChangeSpec := { name := "hueEnds", fn := fun _ => fun
  | [d1, d2] => { results := [.lit (.bool false)], args := [d1, d2] }
  | _ => none }
def HueEndsWrongFalsely : Prop := hueEndsRow.holds Try.pinned (OpenSpec.ofChange hueEndsWrong)

/-- 'mutoscopelaw13.ShapeSides': WHATEVER THE INPUT: true; the input reads as it did. -/
def shapeSidesSpec : ChangeSpec := { name := "shapeSides", fn := fun _ => fun
  | [d1, d2, d3] => { results := [.lit (.bool true)], args := [d1, d2, d3] }
  | _ => none }
def shapeSidesRow : OpenClaim := { program := "ytcomanfboibhiaa", sum := "e598c530028660e5b985a844b6f6e94e3d4de3dacc6ec2a0b0c3c7b6e1aa1b46", func := "mutoscope/mutoscopelaw13.ShapeSides", spec := "shapeSides", unfollowed := true, recurses := true, apart := false }
def ShapeSidesSaid : Prop := shapeSidesRow.holds Try.pinned (OpenSpec.ofChange shapeSidesSpec)

/-- ITS FALSE NEIGHBOUR: 'it returns false'. Refute it at one input. -/
def shapeSidesWrong : ChangeSpec := { name := "shapeSides", fn := fun _ => fun
  | [d1, d2, d3] => { results := [.lit (.bool false)], args := [d1, d2, d3] }
  | _ => none }
def ShapeSidesWrongFalsely : Prop := shapeSidesRow.holds Try.pinned (OpenSpec.ofChange shapeSidesWrong)

/-- 'mutoscopelaw6.HueNumbers': WHATEVER THE INPUT: true; the input reads as it did. -/
def hueNumbersSpec : ChangeSpec := { name := "hueNumbers", fn := fun _ => fun
  | [] => { results := [.lit (.bool true)], args := [] }
  | _ => none }
def hueNumbersRow : OpenClaim := { program := "ytcomanfboibhiaa", sum := "e598c530028660e5b985a844b6f6e94e3d4de3dacc6ec2a0b0c3c7b6e1aa1b46", func := "mutoscope/mutoscopelaw6.HueNumbers", spec := "hueNumbers", unfollowed := true, recurses := true, named := ["math/bits.divideError", "math/bits.overflowError"], apart := false }
def HueNumbersSaid : Prop := hueNumbersRow.holds Try.pinned (OpenSpec.ofChange hueNumbersSpec)

/-- ITS FALSE NEIGHBOUR: 'it returns false'. Refute it at one input. -/
def hueNumbersWrong : ChangeSpec := { name := "hueNumbers", fn := fun _ => fun
  | [] => { results := [.lit (.bool false)], args := [] }
  | _ => none }
def HueNumbersWrongFalsely : Prop := hueNumbersRow.holds Try.pinned (OpenSpec.ofChange hueNumbersWrong)

/-- 'mutoscopelaw6.HueTells': WHATEVER THE INPUT: true; the input reads as it did. -/
def hueTellsSpec : ChangeSpec := { name := "hueTells", fn := fun _ => fun
  | [d1, d2, d3, d4, d5, d6] => { results := [.lit (.bool true)], args := [d1, d2, d3, d4, d5, d6] }
  | _ => none }
def hueTellsRow : OpenClaim := { program := "ytcomanfboibhiaa", sum := "e598c530028660e5b985a844b6f6e94e3d4de3dacc6ec2a0b0c3c7b6e1aa1b46", func := "mutoscope/mutoscopelaw6.HueTells", spec := "hueTells", unfollowed := true, recurses := true, named := ["math/bits.divideError", "math/bits.overflowError"], apart := false }
def HueTellsSaid : Prop := hueTellsRow.holds Try.pinned (OpenSpec.ofChange hueTellsSpec)

/-- ITS FALSE NEIGHBOUR: 'it returns false'. Refute it at one input. -/
def hueTellsWrong : ChangeSpec := { name := "hueTells", fn := fun _ => fun
  | [d1, d2, d3, d4, d5, d6] => { results := [.lit (.bool false)], args := [d1, d2, d3, d4, d5, d6] }
  | _ => none }
def HueTellsWrongFalsely : Prop := hueTellsRow.holds Try.pinned (OpenSpec.ofChange hueTellsWrong)

/-- 'mutoscopelaw13.ShapeMade': WHATEVER THE INPUT: true; the input reads as it did. -/
def shapeMadeSpec : ChangeSpec := { name := "shapeMade", fn := fun _ => fun
  | [d1, d2] => { results := [.lit (.bool true)], args := [d1, d2] }
  | _ => none }
def shapeMadeRow : OpenClaim := { program := "ytcomanfboibhiaa", sum := "e598c530028660e5b985a844b6f6e94e3d4de3dacc6ec2a0b0c3c7b6e1aa1b46", func := "mutoscope/mutoscopelaw13.ShapeMade", spec := "shapeMade", unfollowed := true, recurses := true, apart := false }
def ShapeMadeSaid : Prop := shapeMadeRow.holds Try.pinned (OpenSpec.ofChange shapeMadeSpec)

/-- ITS FALSE NEIGHBOUR: 'it returns false'. Refute it at one input. -/
def shapeMadeWrong : ChangeSpec := { name := "shapeMade", fn := fun _ => fun
  | [d1, d2] => { results := [.lit (.bool false)], args := [d1, d2] }
  | _ => none }
def ShapeMadeWrongFalsely : Prop := shapeMadeRow.holds Try.pinned (OpenSpec.ofChange shapeMadeWrong)

/-- 'mutoscopelaw13.ShapeTicks': WHATEVER THE INPUT: true; the input reads as it did. -/
def shapeTicksSpec : ChangeSpec := { name := "shapeTicks", fn := fun _ => fun
  | [d1, d2] => { results := [.lit (.bool true)], args := [d1, d2] }
  | _ => none }
def shapeTicksRow : OpenClaim := { program := "ytcomanfboibhiaa", sum := "e598c530028660e5b985a844b6f6e94e3d4de3dacc6ec2a0b0c3c7b6e1aa1b46", func := "mutoscope/mutoscopelaw13.ShapeTicks", spec := "shapeTicks", unfollowed := true, recurses := true, apart := false }
def ShapeTicksSaid : Prop := shapeTicksRow.holds Try.pinned (OpenSpec.ofChange shapeTicksSpec)

/-- ITS FALSE NEIGHBOUR: 'it returns false'. Refute it at one input. -/
def shapeTicksWrong : ChangeSpec := { name := "shapeTicks", fn := fun _ => fun
  | [d1, d2] => { results := [.lit (.bool false)], args := [d1, d2] }
  | _ => none }
def ShapeTicksWrongFalsely : Prop := shapeTicksRow.holds Try.pinned (OpenSpec.ofChange shapeTicksWrong)

/-- 'mutoscopelaw13.ShapeNumbers': WHATEVER THE INPUT: true; the input reads as it did. -/
def shapeNumbersSpec : ChangeSpec := { name := "shapeNumbers", fn := fun _ => fun
  | [] => { results := [.lit (.bool true)], args := [] }
  | _ => none }
def shapeNumbersRow : OpenClaim := { program := "ytcomanfboibhiaa", sum := "e598c530028660e5b985a844b6f6e94e3d4de3dacc6ec2a0b0c3c7b6e1aa1b46", func := "mutoscope/mutoscopelaw13.ShapeNumbers", spec := "shapeNumbers", unfollowed := true, recurses := true, named := ["math/bits.divideError", "math/bits.overflowError"], apart := false }
def ShapeNumbersSaid : Prop := shapeNumbersRow.holds Try.pinned (OpenSpec.ofChange shapeNumbersSpec)

/-- ITS FALSE NEIGHBOUR: 'it returns false'. Refute it at one input. -/
def shapeNumbersWrong : ChangeSpec := { name := "shapeNumbers", fn := fun _ => fun
  | [] => { results := [.lit (.bool false)], args := [] }
  | _ => none }
def ShapeNumbersWrongFalsely : Prop := shapeNumbersRow.holds Try.pinned (OpenSpec.ofChange shapeNumbersWrong)

/- THE SECOND FORM. 'bulk': how many values and letters a reading holds, each counted each time it is reached (what is shared counts as often as it is met; a slice's spare places count too). A statement '..UptoSaid' is the law's where the arguments, and the package variables that the reading takes, are together of bulk at most 1048576: NARROWER than '..Said'. Prove '..Said' where nothing that the law and all that it calls make is longer than what came in: it says more and counts as full. Else prove '..UptoSaid'. A law counts once. -/
mutual
def uptoBulk {H : Type} : DataW H → Nat
  | .lit (.string bytes) => bytes.length + 1
  | .lit _ => 1
  | .nil => 1
  | .ptr d => uptoBulk d + 1
  | .slice elems spare => uptoBulkAll elems + uptoBulkAll spare + 1
  | .agg parts => uptoBulkAll parts + 1
  | .iface _ d => uptoBulk d + 1
  | .map entries => uptoBulkEntries entries + 1
  | .held _ => 1
def uptoBulkAll {H : Type} : List (DataW H) → Nat
  | [] => 0
  | d :: r => uptoBulk d + uptoBulkAll r
def uptoBulkEntries {H : Type} : List (Lit × DataW H) → Nat
  | [] => 0
  | x :: r => uptoBulkEntry x + uptoBulkEntries r
def uptoBulkEntry {H : Type} : Lit × DataW H → Nat
  | (.string bytes, d) => bytes.length + uptoBulk d + 1
  | (_, d) => uptoBulk d + 1
 end
def uptoSmall : (H : Type) → List (DataW H) → Bool := fun _ ds => decide (uptoBulkAll ds ≤ 1048576)
def OpenSpec.upto (s : _root_.Go.ChangeSpec) : _root_.Go.OpenSpec := { _root_.Go.OpenSpec.ofChange s with cond := some uptoSmall }

/-- 'mutoscopelaw6.HueBetween', WHERE WHAT IT READS IS OF BULK AT MOST 1048576: true; the input reads as it did. -/
def hueBetweenUptoRow : OpenClaim := { program := "ytcomanfboibhiaa", sum := "e598c530028660e5b985a844b6f6e94e3d4de3dacc6ec2a0b0c3c7b6e1aa1b46", func := "mutoscope/mutoscopelaw6.HueBetween", spec := "hueBetween", apart := false, narrowed := true }
def HueBetweenUptoSaid : Prop := hueBetweenUptoRow.holds Try.pinned (OpenSpec.upto hueBetweenSpec)

/-- 'mutoscopelaw6.HueEnds', WHERE WHAT IT READS IS OF BULK AT MOST 1048576: true; the input reads as it did. -/
def hueEndsUptoRow : OpenClaim := { program := "ytcomanfboibhiaa", sum := "e598c530028660e5b985a844b6f6e94e3d4de3dacc6ec2a0b0c3c7b6e1aa1b46", func := "mutoscope/mutoscopelaw6.HueEnds", spec := "hueEnds", unfollowed := true, recurses := true, apart := false, narrowed := true }
def HueEndsUptoSaid : Prop := hueEndsUptoRow.holds Try.pinned (OpenSpec.upto hueEndsSpec)

/-- 'mutoscopelaw13.ShapeSides', WHERE WHAT IT READS IS OF BULK AT MOST 1048576: true; the input reads as it did. -/
def shapeSidesUptoRow : OpenClaim := { program := "ytcomanfboibhiaa", sum := "e598c530028660e5b985a844b6f6e94e3d4de3dacc6ec2a0b0c3c7b6e1aa1b46", func := "mutoscope/mutoscopelaw13.ShapeSides", spec := "shapeSides", unfollowed := true, recurses := true, apart := false, narrowed := true }
def ShapeSidesUptoSaid : Prop := shapeSidesUptoRow.holds Try.pinned (OpenSpec.upto shapeSidesSpec)

/-- 'mutoscopelaw6.HueNumbers', WHERE WHAT IT READS IS OF BULK AT MOST 1048576: true; the input reads as it did. -/
def hueNumbersUptoRow : OpenClaim := { program := "ytcomanfboibhiaa", sum := "e598c530028660e5b985a844b6f6e94e3d4de3dacc6ec2a0b0c3c7b6e1aa1b46", func := "mutoscope/mutoscopelaw6.HueNumbers", spec := "hueNumbers", unfollowed := true, recurses := true, named := ["math/bits.divideError", "math/bits.overflowError"], apart := false, narrowed := true }
def HueNumbersUptoSaid : Prop := hueNumbersUptoRow.holds Try.pinned (OpenSpec.upto hueNumbersSpec)

/-- 'mutoscopelaw6.HueTells', WHERE WHAT IT READS IS OF BULK AT MOST 1048576: true; the input reads as it did. -/
def hueTellsUptoRow : OpenClaim := { program := "ytcomanfboibhiaa", sum := "e598c530028660e5b985a844b6f6e94e3d4de3dacc6ec2a0b0c3c7b6e1aa1b46", func := "mutoscope/mutoscopelaw6.HueTells", spec := "hueTells", unfollowed := true, recurses := true, named := ["math/bits.divideError", "math/bits.overflowError"], apart := false, narrowed := true }
def HueTellsUptoSaid : Prop := hueTellsUptoRow.holds Try.pinned (OpenSpec.upto hueTellsSpec)

/-- 'mutoscopelaw13.ShapeMade', WHERE WHAT IT READS IS OF BULK AT MOST 1048576: true; the input reads as it did. -/
def shapeMadeUptoRow : OpenClaim := { program := "ytcomanfboibhiaa", sum := "e598c530028660e5b985a844b6f6e94e3d4de3dacc6ec2a0b0c3c7b6e1aa1b46", func := "mutoscope/mutoscopelaw13.ShapeMade", spec := "shapeMade", unfollowed := true, recurses := true, apart := false, narrowed := true }
def ShapeMadeUptoSaid : Prop := shapeMadeUptoRow.holds Try.pinned (OpenSpec.upto shapeMadeSpec)

/-- 'mutoscopelaw13.ShapeTicks', WHERE WHAT IT READS IS OF BULK AT MOST 1048576: true; the input reads as it did. -/
def shapeTicksUptoRow : OpenClaim := { program := "ytcomanfboibhiaa", sum := "e598c530028660e5b985a844b6f6e94e3d4de3dacc6ec2a0b0c3c7b6e1aa1b46", func := "mutoscope/mutoscopelaw13.ShapeTicks", spec := "shapeTicks", unfollowed := true, recurses := true, apart := false, narrowed := true }
def ShapeTicksUptoSaid : Prop := shapeTicksUptoRow.holds Try.pinned (OpenSpec.upto shapeTicksSpec)

/-- 'mutoscopelaw13.ShapeNumbers', WHERE WHAT IT READS IS OF BULK AT MOST 1048576: true; the input reads as it did. -/
def shapeNumbersUptoRow : OpenClaim := { program := "ytcomanfboibhiaa", sum := "e598c530028660e5b985a844b6f6e94e3d4de3dacc6ec2a0b0c3c7b6e1aa1b46", func := "mutoscope/mutoscopelaw13.ShapeNumbers", spec := "shapeNumbers", unfollowed := true, recurses := true, named := ["math/bits.divideError", "math/bits.overflowError"], apart := false, narrowed := true }
def ShapeNumbersUptoSaid : Prop := shapeNumbersUptoRow.holds Try.pinned (OpenSpec.upto shapeNumbersSpec)

end Rows
end Go.Proofs.Ytcomanfboibhiaa
