/-
  No cell of these rows narrows 'for every input' (looked for: loops, veiled, ifaces, maps, wideKeys, modest, calm, conditions, laid).
  DERIVED. THE GIVEN ROWS OF THIS SEAT. 8 by the template 'for every input the law returns true; each argument reads behind the call as it read before'; 0 by the template 'total and deterministic' (their statements: YtojigbcgmneiiaaTotals.lean).
  GIVEN WITH THE SEED: the statements are not yours to turn. If you find one false, say at which input.
  Laid BY PROGRAM, IN A SANDBOX (cutbox-rows.mjs): the forced cells as the released guide's own fill.sh prints them over the translation e6423dfa958c826a… (all of the seat's roots in one cut). By AI agents, Wed Nov 11 2026. No macro, syntax, notation, axiom, sorry.
-/
import Derived.Test.YtojigbcgmneiiaaChecked
import GoSem.Claim
import GoSem.ClaimJoined
import GoSem.ClaimMapViews
import Derived.JoinedTies
import Derived.KernelRfl
namespace Go.Proofs.Ytojigbcgmneiiaa
/- THE CELL 'sum', in the pinned program and in every row, IS THE sha256 OF THE DUMP (.gsa) THAT YtojigbcgmneiiaaProg.lean LOADS. Nothing in Lean hashes anything: it is a label: what it is worth is what the hold of that sum in a sandbox is worth. -/
noncomputable def Try.pinned : Pinned := { name := "ytojigbcgmneiiaa", sum := "e6423dfa958c826a8889f129739d32de4c861c876703d42e066576355167ce42", checked := Try.checked }
namespace Rows
def none {H : Type} : Left H := { results := [], args := [] }

/-- 'mutoscopelaw11.DashLengths': WHATEVER THE INPUT: true; the input reads as it did. -/
def dashLengthsSpec : ChangeSpec := { name := "dashLengths", fn := fun _ => fun
  | [d1, d2, d3] => { results := [.lit (.bool true)], args := [d1, d2, d3] }
  | _ => none }
def dashLengthsRow : OpenClaim := { program := "ytojigbcgmneiiaa", sum := "e6423dfa958c826a8889f129739d32de4c861c876703d42e066576355167ce42", func := "mutoscope/mutoscopelaw11.DashLengths", spec := "dashLengths", unfollowed := true, recurses := true, apart := false }
def DashLengthsSaid : Prop := dashLengthsRow.holds Try.pinned (OpenSpec.ofChange dashLengthsSpec)

/-- ITS FALSE NEIGHBOUR: 'it returns false'. Refute it at one input. -/
def dashLengthsWrong : ChangeSpec := { name := "dashLengths", fn := fun _ => fun
  | [d1, d2, d3] => { results := [.lit (.bool false)], args := [d1, d2, d3] }
  | _ => none }
def DashLengthsWrongFalsely : Prop := dashLengthsRow.holds Try.pinned (OpenSpec.ofChange dashLengthsWrong)

/-- 'mutoscopelaw12.StrokeTurned': WHATEVER THE INPUT: true; the input reads as it did. -/
def strokeTurnedSpec : ChangeSpec := { name := "strokeTurned", fn := fun _ => fun
  | [d1, d2] => { results := [.lit (.bool true)], args := [d1, d2] }
  | _ => none }
def strokeTurnedRow : OpenClaim := { program := "ytojigbcgmneiiaa", sum := "e6423dfa958c826a8889f129739d32de4c861c876703d42e066576355167ce42", func := "mutoscope/mutoscopelaw12.StrokeTurned", spec := "strokeTurned", apart := false }
def StrokeTurnedSaid : Prop := strokeTurnedRow.holds Try.pinned (OpenSpec.ofChange strokeTurnedSpec)

/-- ITS FALSE NEIGHBOUR: 'it returns false'. Refute it at one input. -/
def strokeTurnedWrong : ChangeSpec := { name := "strokeTurned", fn := fun _ => fun
  | [d1, d2] => { results := [.lit (.bool false)], args := [d1, d2] }
  | _ => none }
def StrokeTurnedWrongFalsely : Prop := strokeTurnedRow.holds Try.pinned (OpenSpec.ofChange strokeTurnedWrong)

/-- 'mutoscopelaw12.StrokeCounts': WHATEVER THE INPUT: true; the input reads as it did. -/
def strokeCountsSpec : ChangeSpec := { name := "strokeCounts", fn := fun _ => fun
  | [d1, d2, d3] => { results := [.lit (.bool true)], args := [d1, d2, d3] }
  | _ => none }
def strokeCountsRow : OpenClaim := { program := "ytojigbcgmneiiaa", sum := "e6423dfa958c826a8889f129739d32de4c861c876703d42e066576355167ce42", func := "mutoscope/mutoscopelaw12.StrokeCounts", spec := "strokeCounts", apart := false }
def StrokeCountsSaid : Prop := strokeCountsRow.holds Try.pinned (OpenSpec.ofChange strokeCountsSpec)

/-- ITS FALSE NEIGHBOUR: 'it returns false'. Refute it at one input. -/
def strokeCountsWrong : ChangeSpec := { name := "strokeCounts", fn := fun _ => fun
  | [d1, d2, d3] => { results := [.lit (.bool false)], args := [d1, d2, d3] }
  | _ => none }
def StrokeCountsWrongFalsely : Prop := strokeCountsRow.holds Try.pinned (OpenSpec.ofChange strokeCountsWrong)

/-- 'mutoscopelaw11.DashNumbers': WHATEVER THE INPUT: true; the input reads as it did. -/
def dashNumbersSpec : ChangeSpec := { name := "dashNumbers", fn := fun _ => fun
  | [] => { results := [.lit (.bool true)], args := [] }
  | _ => none }
def dashNumbersRow : OpenClaim := { program := "ytojigbcgmneiiaa", sum := "e6423dfa958c826a8889f129739d32de4c861c876703d42e066576355167ce42", func := "mutoscope/mutoscopelaw11.DashNumbers", spec := "dashNumbers", unfollowed := true, recurses := true, named := ["math/bits.divideError", "math/bits.overflowError"], apart := false }
def DashNumbersSaid : Prop := dashNumbersRow.holds Try.pinned (OpenSpec.ofChange dashNumbersSpec)

/-- ITS FALSE NEIGHBOUR: 'it returns false'. Refute it at one input. -/
def dashNumbersWrong : ChangeSpec := { name := "dashNumbers", fn := fun _ => fun
  | [] => { results := [.lit (.bool false)], args := [] }
  | _ => none }
def DashNumbersWrongFalsely : Prop := dashNumbersRow.holds Try.pinned (OpenSpec.ofChange dashNumbersWrong)

/-- 'mutoscopelaw11.DashTells': WHATEVER THE INPUT: true; the input reads as it did. -/
def dashTellsSpec : ChangeSpec := { name := "dashTells", fn := fun _ => fun
  | [d1, d2, d3] => { results := [.lit (.bool true)], args := [d1, d2, d3] }
  | _ => none }
def dashTellsRow : OpenClaim := { program := "ytojigbcgmneiiaa", sum := "e6423dfa958c826a8889f129739d32de4c861c876703d42e066576355167ce42", func := "mutoscope/mutoscopelaw11.DashTells", spec := "dashTells", unfollowed := true, recurses := true, named := ["math/bits.divideError", "math/bits.overflowError"], apart := false }
def DashTellsSaid : Prop := dashTellsRow.holds Try.pinned (OpenSpec.ofChange dashTellsSpec)

/-- ITS FALSE NEIGHBOUR: 'it returns false'. Refute it at one input. -/
def dashTellsWrong : ChangeSpec := { name := "dashTells", fn := fun _ => fun
  | [d1, d2, d3] => { results := [.lit (.bool false)], args := [d1, d2, d3] }
  | _ => none }
def DashTellsWrongFalsely : Prop := dashTellsRow.holds Try.pinned (OpenSpec.ofChange dashTellsWrong)

/-- 'mutoscopelaw11.DashWhole': WHATEVER THE INPUT: true; the input reads as it did. -/
def dashWholeSpec : ChangeSpec := { name := "dashWhole", fn := fun _ => fun
  | [d] => { results := [.lit (.bool true)], args := [d] }
  | _ => none }
def dashWholeRow : OpenClaim := { program := "ytojigbcgmneiiaa", sum := "e6423dfa958c826a8889f129739d32de4c861c876703d42e066576355167ce42", func := "mutoscope/mutoscopelaw11.DashWhole", spec := "dashWhole", unfollowed := true, recurses := true, named := ["math/bits.divideError", "math/bits.overflowError"], apart := false }
def DashWholeSaid : Prop := dashWholeRow.holds Try.pinned (OpenSpec.ofChange dashWholeSpec)

/-- ITS FALSE NEIGHBOUR: 'it returns false'. Refute it at one input. -/
def dashWholeWrong : ChangeSpec := { name := "dashWhole", fn := fun _ => fun
  | [d] => { results := [.lit (.bool false)], args := [d] }
  | _ => none }
def DashWholeWrongFalsely : Prop := dashWholeRow.holds Try.pinned (OpenSpec.ofChange dashWholeWrong)

/-- 'mutoscopelaw12.StrokeNumbers': WHATEVER THE INPUT: true; the input reads as it did. -/
def strokeNumbersSpec : ChangeSpec := { name := "strokeNumbers", fn := fun _ => fun
  | [] => { results := [.lit (.bool true)], args := [] }
  | _ => none }
def strokeNumbersRow : OpenClaim := { program := "ytojigbcgmneiiaa", sum := "e6423dfa958c826a8889f129739d32de4c861c876703d42e066576355167ce42", func := "mutoscope/mutoscopelaw12.StrokeNumbers", spec := "strokeNumbers", named := ["math/bits.divideError", "math/bits.overflowError"], apart := false }
def StrokeNumbersSaid : Prop := strokeNumbersRow.holds Try.pinned (OpenSpec.ofChange strokeNumbersSpec)

/-- ITS FALSE NEIGHBOUR: 'it returns false'. Refute it at one input. -/
def strokeNumbersWrong : ChangeSpec := { name := "strokeNumbers", fn := fun _ => fun
  | [] => { results := [.lit (.bool false)], args := [] }
  | _ => none }
def StrokeNumbersWrongFalsely : Prop := strokeNumbersRow.holds Try.pinned (OpenSpec.ofChange strokeNumbersWrong)

/-- 'mutoscopelaw12.StrokeTells': WHATEVER THE INPUT: true; the input reads as it did. -/
def strokeTellsSpec : ChangeSpec := { name := "strokeTells", fn := fun _ => fun
  | [d1, d2, d3, d4] => { results := [.lit (.bool true)], args := [d1, d2, d3, d4] }
  | _ => none }
def strokeTellsRow : OpenClaim := { program := "ytojigbcgmneiiaa", sum := "e6423dfa958c826a8889f129739d32de4c861c876703d42e066576355167ce42", func := "mutoscope/mutoscopelaw12.StrokeTells", spec := "strokeTells", named := ["math/bits.divideError", "math/bits.overflowError"], apart := false }
def StrokeTellsSaid : Prop := strokeTellsRow.holds Try.pinned (OpenSpec.ofChange strokeTellsSpec)

/-- ITS FALSE NEIGHBOUR: 'it returns false'. Refute it at one input. -/
def strokeTellsWrong : ChangeSpec := { name := "strokeTells", fn := fun _ => fun
  | [d1, d2, d3, d4] => { results := [.lit (.bool false)], args := [d1, d2, d3, d4] }
  | _ => none }
def StrokeTellsWrongFalsely : Prop := strokeTellsRow.holds Try.pinned (OpenSpec.ofChange strokeTellsWrong)

/- THE SECOND FORM. 'bulk': how many values and letters a reading holds, each counted each time it is reached (what is shared counts as often as it is met; a slice's spare places count too). A statement '..UptoSaid' is the law's where the arguments, and the package variables that the reading takes, are together of bulk at most 1048576: NARROWER than '..Said'. Prove '..Said' where nothing that the law and all that it calls make is longer than what came in: it says more and counts as full. Else prove '..UptoSaid'. A law counts once. -/
mutual
def uptoBulk {H : Type} : DataW H → Nat
  | .lit (.string bytes) => bytes.length + 1
  | .lit _ => 1
  | .nil => 1
  | .ptr d => uptoBulk d + 1
  | .slice elems spare => uptoBulkAll elems + uptoBulkAll spare + 1
  | .agg parts => uptoBulkAll parts + 1
  | .iface _ d => uptoBulk d + 1
  | .map entries => uptoBulkEntries entries + 1
  | .held _ => 1
def uptoBulkAll {H : Type} : List (DataW H) → Nat
  | [] => 0
  | d :: r => uptoBulk d + uptoBulkAll r
def uptoBulkEntries {H : Type} : List (Lit × DataW H) → Nat
  | [] => 0
  | x :: r => uptoBulkEntry x + uptoBulkEntries r
def uptoBulkEntry {H : Type} : Lit × DataW H → Nat
  | (.string bytes, d) => bytes.length + uptoBulk d + 1
  | (_, d) => uptoBulk d + 1
 end
def uptoSmall : (H : Type) → List (DataW H) → Bool := fun _ ds => decide (uptoBulkAll ds ≤ 1048576)
def OpenSpec.upto (s : _root_.Go.ChangeSpec) : _root_.Go.OpenSpec := { _root_.Go.OpenSpec.ofChange s with cond := some uptoSmall }

/-- 'mutoscopelaw11.DashLengths', WHERE WHAT IT READS IS OF BULK AT MOST 1048576: true; the input reads as it did. -/
def dashLengthsUptoRow : OpenClaim := { program := "ytojigbcgmneiiaa", sum := "e6423dfa958c826a8889f129739d32de4c861c876703d42e066576355167ce42", func := "mutoscope/mutoscopelaw11.DashLengths", spec := "dashLengths", unfollowed := true, recurses := true, apart := false, narrowed := true }
def DashLengthsUptoSaid : Prop := dashLengthsUptoRow.holds Try.pinned (OpenSpec.upto dashLengthsSpec)

/-- 'mutoscopelaw12.StrokeTurned', WHERE WHAT IT READS IS OF BULK AT MOST 1048576: true; the input reads as it did. -/
def strokeTurnedUptoRow : OpenClaim := { program := "ytojigbcgmneiiaa", sum := "e6423dfa958c826a8889f129739d32de4c861c876703d42e066576355167ce42", func := "mutoscope/mutoscopelaw12.StrokeTurned", spec := "strokeTurned", apart := false, narrowed := true }
def StrokeTurnedUptoSaid : Prop := strokeTurnedUptoRow.holds Try.pinned (OpenSpec.upto strokeTurnedSpec)

/-- 'mutoscopelaw12.StrokeCounts', WHERE WHAT IT READS IS OF BULK AT MOST 1048576: true; the input reads as it did. -/
def strokeCountsUptoRow : OpenClaim := { program := "ytojigbcgmneiiaa", sum := "e6423dfa958c826a8889f129739d32de4c861c876703d42e066576355167ce42", func := "mutoscope/mutoscopelaw12.StrokeCounts", spec := "strokeCounts", apart := false, narrowed := true }
def StrokeCountsUptoSaid : Prop := strokeCountsUptoRow.holds Try.pinned (OpenSpec.upto strokeCountsSpec)

/-- 'mutoscopelaw11.DashNumbers', WHERE WHAT IT READS IS OF BULK AT MOST 1048576: true; the input reads as it did. -/
def dashNumbersUptoRow : OpenClaim := { program := "ytojigbcgmneiiaa", sum := "e6423dfa958c826a8889f129739d32de4c861c876703d42e066576355167ce42", func := "mutoscope/mutoscopelaw11.DashNumbers", spec := "dashNumbers", unfollowed := true, recurses := true, named := ["math/bits.divideError", "math/bits.overflowError"], apart := false, narrowed := true }
def DashNumbersUptoSaid : Prop := dashNumbersUptoRow.holds Try.pinned (OpenSpec.upto dashNumbersSpec)

/-- 'mutoscopelaw11.DashTells', WHERE WHAT IT READS IS OF BULK AT MOST 1048576: true; the input reads as it did. -/
def dashTellsUptoRow : OpenClaim := { program := "ytojigbcgmneiiaa", sum := "e6423dfa958c826a8889f129739d32de4c861c876703d42e066576355167ce42", func := "mutoscope/mutoscopelaw11.DashTells", spec := "dashTells", unfollowed := true, recurses := true, named := ["math/bits.divideError", "math/bits.overflowError"], apart := false, narrowed := true }
def DashTellsUptoSaid : Prop := dashTellsUptoRow.holds Try.pinned (OpenSpec.upto dashTellsSpec)

/-- 'mutoscopelaw11.DashWhole', WHERE WHAT IT READS IS OF BULK AT MOST 1048576: true; the input reads as it did. -/
def dashWholeUptoRow : OpenClaim := { program := "ytojigbcgmneiiaa", sum := "e6423dfa958c826a8889f129739d32de4c861c876703d42e066576355167ce42", func := "mutoscope/mutoscopelaw11.DashWhole", spec := "dashWhole", unfollowed := true, recurses := true, named := ["math/bits.divideError", "math/bits.overflowError"], apart := false, narrowed := true }
def DashWholeUptoSaid : Prop := dashWholeUptoRow.holds Try.pinned (OpenSpec.upto dashWholeSpec)

/-- 'mutoscopelaw12.StrokeNumbers', WHERE WHAT IT READS IS OF BULK AT MOST 1048576: true; the input reads as it did. -/
def strokeNumbersUptoRow : OpenClaim := { program := "ytojigbcgmneiiaa", sum := "e6423dfa958c826a8889f129739d32de4c861c876703d42e066576355167ce42", func := "mutoscope/mutoscopelaw12.StrokeNumbers", spec := "strokeNumbers", named := ["math/bits.divideError", "math/bits.overflowError"], apart := false, narrowed := true }
def StrokeNumbersUptoSaid : Prop := strokeNumbersUptoRow.holds Try.pinned (OpenSpec.upto strokeNumbersSpec)

/-- 'mutoscopelaw12.StrokeTells', WHERE WHAT IT READS IS OF BULK AT MOST 1048576: true; the input reads as it did. -/
def strokeTellsUptoRow : OpenClaim := { program := "ytojigbcgmneiiaa", sum := "e6423dfa958c826a8889f129739d32de4c861c876703d42e066576355167ce42", func := "mutoscope/mutoscopelaw12.StrokeTells", spec := "strokeTells", named := ["math/bits.divideError", "math/bits.overflowError"], apart := false, narrowed := true }
def StrokeTellsUptoSaid : Prop := strokeTellsUptoRow.holds Try.pinned (OpenSpec.upto strokeTellsSpec)

end Rows
end Go.Proofs.Ytojigbcgmneiiaa
