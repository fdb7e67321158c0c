/-
  No cell of these rows narrows 'for every input' (looked for: loops, veiled, ifaces, maps, wideKeys, modest, calm, conditions, laid).
  DERIVED. THE GIVEN ROWS OF THIS SEAT. 10 by the template 'for every input the law returns true; each argument reads behind the call as it read before'; 0 by the template 'total and deterministic' (their statements: YtejnbjclcdmopaaTotals.lean).
  GIVEN WITH THE SEED: the statements are not yours to turn. If you find one false, say at which input.
  Laid BY PROGRAM, IN A SANDBOX (cutbox-rows.mjs): the forced cells as the released guide's own fill.sh prints them over the translation 0e5762badeaf744e… (all of the seat's roots in one cut). By AI agents, Wed Nov 11 2026. No macro, syntax, notation, axiom, sorry.
-/
import Derived.Test.YtejnbjclcdmopaaChecked
import GoSem.Claim
import GoSem.ClaimJoined
import GoSem.ClaimMapViews
import Derived.JoinedTies
import Derived.KernelRfl
namespace Go.Proofs.Ytejnbjclcdmopaa
/- THE CELL 'sum', in the pinned program and in every row, IS THE sha256 OF THE DUMP (.gsa) THAT YtejnbjclcdmopaaProg.lean LOADS. Nothing in Lean hashes anything: it is a label: what it is worth is what the hold of that sum in a sandbox is worth. -/
noncomputable def Try.pinned : Pinned := { name := "ytejnbjclcdmopaa", sum := "0e5762badeaf744e3fd35404bf7002569aab3ffac21cc6083fe6c5eeb2f70b15", checked := Try.checked }
namespace Rows
def none {H : Type} : Left H := { results := [], args := [] }

/-- 'mutoscopelaw4.EaseRises': WHATEVER THE INPUT: true; the input reads as it did. -/
def easeRisesSpec : ChangeSpec := { name := "easeRises", fn := fun _ => fun
  | [d1, d2, d3] => { results := [.lit (.bool true)], args := [d1, d2, d3] }
  | _ => none }
def easeRisesRow : OpenClaim := { program := "ytejnbjclcdmopaa", sum := "0e5762badeaf744e3fd35404bf7002569aab3ffac21cc6083fe6c5eeb2f70b15", func := "mutoscope/mutoscopelaw4.EaseRises", spec := "easeRises", unfollowed := true, recurses := true, apart := false }
def EaseRisesSaid : Prop := easeRisesRow.holds Try.pinned (OpenSpec.ofChange easeRisesSpec)

/-- ITS FALSE NEIGHBOUR: 'it returns false'. Refute it at one input. -/
def easeRisesWrong : ChangeSpec := { name := "easeRises", fn := fun _ => fun
  | [d1, d2, d3] => { results := [.lit (.bool false)], args := [d1, d2, d3] }
  | _ => none }
def EaseRisesWrongFalsely : Prop := easeRisesRow.holds Try.pinned (OpenSpec.ofChange easeRisesWrong)

/-- 'mutoscopelaw4.EaseParts': WHATEVER THE INPUT: true; the input reads as it did. -/
def easePartsSpec : ChangeSpec := { name := "easeParts", fn := fun _ => fun
  | [d1, d2, d3] => { results := [.lit (.bool true)], args := [d1, d2, d3] }
  | _ => none }
def easePartsRow : OpenClaim := { program := "ytejnbjclcdmopaa", sum := "0e5762badeaf744e3fd35404bf7002569aab3ffac21cc6083fe6c5eeb2f70b15", func := "mutoscope/mutoscopelaw4.EaseParts", spec := "easeParts", unfollowed := true, recurses := true, apart := false }
def EasePartsSaid : Prop := easePartsRow.holds Try.pinned (OpenSpec.ofChange easePartsSpec)

/-- ITS FALSE NEIGHBOUR: 'it returns false'. Refute it at one input. -/
def easePartsWrong : ChangeSpec := { name := "easeParts", fn := fun _ => fun
  | [d1, d2, d3] => { results := [.lit (.bool false)], args := [d1, d2, d3] }
  | _ => none }
def EasePartsWrongFalsely : Prop := easePartsRow.holds Try.pinned (OpenSpec.ofChange easePartsWrong)

/-- 'mutoscopelaw4.EaseEven': WHATEVER THE INPUT: true; the input reads as it did. -/
def easeEvenSpec : ChangeSpec := { name := "easeEven", fn := fun _ => fun
  | [d] => { results := [.lit (.bool true)], args := [d] }
  | _ => none }
def easeEvenRow : OpenClaim := { program := "ytejnbjclcdmopaa", sum := "0e5762badeaf744e3fd35404bf7002569aab3ffac21cc6083fe6c5eeb2f70b15", func := "mutoscope/mutoscopelaw4.EaseEven", spec := "easeEven", unfollowed := true, recurses := true, apart := false }
def EaseEvenSaid : Prop := easeEvenRow.holds Try.pinned (OpenSpec.ofChange easeEvenSpec)

/-- ITS FALSE NEIGHBOUR: 'it returns false'. Refute it at one input. -/
def easeEvenWrong : ChangeSpec := { name := "easeEven", fn := fun _ => fun
  | [d] => { results := [.lit (.bool false)], args := [d] }
  | _ => none }
def EaseEvenWrongFalsely : Prop := easeEvenRow.holds Try.pinned (OpenSpec.ofChange easeEvenWrong)

/-- 'mutoscopelaw5.KeyEnds': WHATEVER THE INPUT: true; the input reads as it did. -/
def keyEndsSpec : ChangeSpec := { name := "keyEnds", fn := fun _ => fun
  | [d1, d2] => { results := [.lit (.bool true)], args := [d1, d2] }
  | _ => none }
def keyEndsRow : OpenClaim := { program := "ytejnbjclcdmopaa", sum := "0e5762badeaf744e3fd35404bf7002569aab3ffac21cc6083fe6c5eeb2f70b15", func := "mutoscope/mutoscopelaw5.KeyEnds", spec := "keyEnds", unfollowed := true, recurses := true, apart := false }
def KeyEndsSaid : Prop := keyEndsRow.holds Try.pinned (OpenSpec.ofChange keyEndsSpec)

/-- ITS FALSE NEIGHBOUR: 'it returns false'. Refute it at one input. -/
def keyEndsWrong : ChangeSpec := { name := "keyEnds", fn := fun _ => fun
  | [d1, d2] => { results := [.lit (.bool false)], args := [d1, d2] }
  | _ => none }
def KeyEndsWrongFalsely : Prop := keyEndsRow.holds Try.pinned (OpenSpec.ofChange keyEndsWrong)

/-- 'mutoscopelaw5.KeyMade': WHATEVER THE INPUT: true; the input reads as it did. -/
def keyMadeSpec : ChangeSpec := { name := "keyMade", fn := fun _ => fun
  | [d] => { results := [.lit (.bool true)], args := [d] }
  | _ => none }
def keyMadeRow : OpenClaim := { program := "ytejnbjclcdmopaa", sum := "0e5762badeaf744e3fd35404bf7002569aab3ffac21cc6083fe6c5eeb2f70b15", func := "mutoscope/mutoscopelaw5.KeyMade", spec := "keyMade", unfollowed := true, recurses := true, apart := false }
def KeyMadeSaid : Prop := keyMadeRow.holds Try.pinned (OpenSpec.ofChange keyMadeSpec)

/-- ITS FALSE NEIGHBOUR: 'it returns false'. Refute it at one input. -/
def keyMadeWrong : ChangeSpec := { name := "keyMade", fn := fun _ => fun
  | [d] => { results := [.lit (.bool false)], args := [d] }
  | _ => none }
def KeyMadeWrongFalsely : Prop := keyMadeRow.holds Try.pinned (OpenSpec.ofChange keyMadeWrong)

/-- 'mutoscopelaw5.KeyShifts': WHATEVER THE INPUT: true; the input reads as it did. -/
def keyShiftsSpec : ChangeSpec := { name := "keyShifts", fn := fun _ => fun
  | [d1, d2, d3, d4] => { results := [.lit (.bool true)], args := [d1, d2, d3, d4] }
  | _ => none }
def keyShiftsRow : OpenClaim := { program := "ytejnbjclcdmopaa", sum := "0e5762badeaf744e3fd35404bf7002569aab3ffac21cc6083fe6c5eeb2f70b15", func := "mutoscope/mutoscopelaw5.KeyShifts", spec := "keyShifts", unfollowed := true, recurses := true, apart := false }
def KeyShiftsSaid : Prop := keyShiftsRow.holds Try.pinned (OpenSpec.ofChange keyShiftsSpec)

/-- ITS FALSE NEIGHBOUR: 'it returns false'. Refute it at one input. -/
def keyShiftsWrong : ChangeSpec := { name := "keyShifts", fn := fun _ => fun
  | [d1, d2, d3, d4] => { results := [.lit (.bool false)], args := [d1, d2, d3, d4] }
  | _ => none }
def KeyShiftsWrongFalsely : Prop := keyShiftsRow.holds Try.pinned (OpenSpec.ofChange keyShiftsWrong)

/-- 'mutoscopelaw4.EaseNumbers': WHATEVER THE INPUT: true; the input reads as it did. -/
def easeNumbersSpec : ChangeSpec := { name := "easeNumbers", fn := fun _ => fun
  | [] => { results := [.lit (.bool true)], args := [] }
  | _ => none }
def easeNumbersRow : OpenClaim := { program := "ytejnbjclcdmopaa", sum := "0e5762badeaf744e3fd35404bf7002569aab3ffac21cc6083fe6c5eeb2f70b15", func := "mutoscope/mutoscopelaw4.EaseNumbers", spec := "easeNumbers", unfollowed := true, recurses := true, named := ["math/bits.divideError", "math/bits.overflowError"], apart := false }
def EaseNumbersSaid : Prop := easeNumbersRow.holds Try.pinned (OpenSpec.ofChange easeNumbersSpec)

/-- ITS FALSE NEIGHBOUR: 'it returns false'. Refute it at one input. -/
def easeNumbersWrong : ChangeSpec := { name := "easeNumbers", fn := fun _ => fun
  | [] => { results := [.lit (.bool false)], args := [] }
  | _ => none }
def EaseNumbersWrongFalsely : Prop := easeNumbersRow.holds Try.pinned (OpenSpec.ofChange easeNumbersWrong)

/-- 'mutoscopelaw4.EaseTells': WHATEVER THE INPUT: true; the input reads as it did. -/
def easeTellsSpec : ChangeSpec := { name := "easeTells", fn := fun _ => fun
  | [d1, d2, d3, d4, d5] => { results := [.lit (.bool true)], args := [d1, d2, d3, d4, d5] }
  | _ => none }
def easeTellsRow : OpenClaim := { program := "ytejnbjclcdmopaa", sum := "0e5762badeaf744e3fd35404bf7002569aab3ffac21cc6083fe6c5eeb2f70b15", func := "mutoscope/mutoscopelaw4.EaseTells", spec := "easeTells", unfollowed := true, recurses := true, named := ["math/bits.divideError", "math/bits.overflowError"], apart := false }
def EaseTellsSaid : Prop := easeTellsRow.holds Try.pinned (OpenSpec.ofChange easeTellsSpec)

/-- ITS FALSE NEIGHBOUR: 'it returns false'. Refute it at one input. -/
def easeTellsWrong : ChangeSpec := { name := "easeTells", fn := fun _ => fun
  | [d1, d2, d3, d4, d5] => { results := [.lit (.bool false)], args := [d1, d2, d3, d4, d5] }
  | _ => none }
def EaseTellsWrongFalsely : Prop := easeTellsRow.holds Try.pinned (OpenSpec.ofChange easeTellsWrong)

/-- 'mutoscopelaw5.KeyNumbers': WHATEVER THE INPUT: true; the input reads as it did. -/
def keyNumbersSpec : ChangeSpec := { name := "keyNumbers", fn := fun _ => fun
  | [] => { results := [.lit (.bool true)], args := [] }
  | _ => none }
def keyNumbersRow : OpenClaim := { program := "ytejnbjclcdmopaa", sum := "0e5762badeaf744e3fd35404bf7002569aab3ffac21cc6083fe6c5eeb2f70b15", func := "mutoscope/mutoscopelaw5.KeyNumbers", spec := "keyNumbers", unfollowed := true, recurses := true, named := ["math/bits.divideError", "math/bits.overflowError"], apart := false }
def KeyNumbersSaid : Prop := keyNumbersRow.holds Try.pinned (OpenSpec.ofChange keyNumbersSpec)

/-- ITS FALSE NEIGHBOUR: 'it returns false'. Refute it at one input. -/
def keyNumbersWrong : ChangeSpec := { name := "keyNumbers", fn := fun _ => fun
  | [] => { results := [.lit (.bool false)], args := [] }
  | _ => none }
def KeyNumbersWrongFalsely : Prop := keyNumbersRow.holds Try.pinned (OpenSpec.ofChange keyNumbersWrong)

/-- 'mutoscopelaw5.KeyTells': WHATEVER THE INPUT: true; the input reads as it did. -/
def keyTellsSpec : ChangeSpec := { name := "keyTells", fn := fun _ => fun
  | [d1, d2, d3, d4, d5, d6] => { results := [.lit (.bool true)], args := [d1, d2, d3, d4, d5, d6] }
  | _ => none }
def keyTellsRow : OpenClaim := { program := "ytejnbjclcdmopaa", sum := "0e5762badeaf744e3fd35404bf7002569aab3ffac21cc6083fe6c5eeb2f70b15", func := "mutoscope/mutoscopelaw5.KeyTells", spec := "keyTells", unfollowed := true, recurses := true, named := ["math/bits.divideError", "math/bits.overflowError"], apart := false }
def KeyTellsSaid : Prop := keyTellsRow.holds Try.pinned (OpenSpec.ofChange keyTellsSpec)

/-- ITS FALSE NEIGHBOUR: 'it returns false'. Refute it at one input. -/
def keyTellsWrong : ChangeSpec := { name := "keyTells", fn := fun _ => fun
  | [d1, d2, d3, d4, d5, d6] => { results := [.lit (.bool false)], args := [d1, d2, d3, d4, d5, d6] }
  | _ => none }
def KeyTellsWrongFalsely : Prop := keyTellsRow.holds Try.pinned (OpenSpec.ofChange keyTellsWrong)

/- THE SECOND FORM. 'bulk': how many values and letters a reading holds, each counted each time it is reached (what is shared counts as often as it is met; a slice's spare places count too). A statement '..UptoSaid' is the law's where the arguments, and the package variables that the reading takes, are together of bulk at most 1048576: NARROWER than '..Said'. Prove '..Said' where nothing that the law and all that it calls make is longer than what came in: it says more and counts as full. Else prove '..UptoSaid'. A law counts once. -/
mutual
def uptoBulk {H : Type} : DataW H → Nat
  | .lit (.string bytes) => bytes.length + 1
  | .lit _ => 1
  | .nil => 1
  | .ptr d => uptoBulk d + 1
  | .slice elems spare => uptoBulkAll elems + uptoBulkAll spare + 1
  | .agg parts => uptoBulkAll parts + 1
  | .iface _ d => uptoBulk d + 1
  | .map entries => uptoBulkEntries entries + 1
  | .held _ => 1
def uptoBulkAll {H : Type} : List (DataW H) → Nat
  | [] => 0
  | d :: r => uptoBulk d + uptoBulkAll r
def uptoBulkEntries {H : Type} : List (Lit × DataW H) → Nat
  | [] => 0
  | x :: r => uptoBulkEntry x + uptoBulkEntries r
def uptoBulkEntry {H : Type} : Lit × DataW H → Nat
  | (.string bytes, d) => bytes.length + uptoBulk d + 1
  | (_, d) => uptoBulk d + 1
 end
def uptoSmall : (H : Type) → List (DataW H) → Bool := fun _ ds => decide (uptoBulkAll ds ≤ 1048576)
def OpenSpec.upto (s : _root_.Go.ChangeSpec) : _root_.Go.OpenSpec := { _root_.Go.OpenSpec.ofChange s with cond := some uptoSmall }

/-- 'mutoscopelaw4.EaseRises', WHERE WHAT IT READS IS OF BULK AT MOST 1048576: true; the input reads as it did. -/
def easeRisesUptoRow : OpenClaim := { program := "ytejnbjclcdmopaa", sum := "0e5762badeaf744e3fd35404bf7002569aab3ffac21cc6083fe6c5eeb2f70b15", func := "mutoscope/mutoscopelaw4.EaseRises", spec := "easeRises", unfollowed := true, recurses := true, apart := false, narrowed := true }
def EaseRisesUptoSaid : Prop := easeRisesUptoRow.holds Try.pinned (OpenSpec.upto easeRisesSpec)

/-- 'mutoscopelaw4.EaseParts', WHERE WHAT IT READS IS OF BULK AT MOST 1048576: true; the input reads as it did. -/
def easePartsUptoRow : OpenClaim := { program := "ytejnbjclcdmopaa", sum := "0e5762badeaf744e3fd35404bf7002569aab3ffac21cc6083fe6c5eeb2f70b15", func := "mutoscope/mutoscopelaw4.EaseParts", spec := "easeParts", unfollowed := true, recurses := true, apart := false, narrowed := true }
def EasePartsUptoSaid : Prop := easePartsUptoRow.holds Try.pinned (OpenSpec.upto easePartsSpec)

/-- 'mutoscopelaw4.EaseEven', WHERE WHAT IT READS IS OF BULK AT MOST 1048576: true; the input reads as it did. -/
def easeEvenUptoRow : OpenClaim := { program := "ytejnbjclcdmopaa", sum := "0e5762badeaf744e3fd35404bf7002569aab3ffac21cc6083fe6c5eeb2f70b15", func := "mutoscope/mutoscopelaw4.EaseEven", spec := "easeEven", unfollowed := true, recurses := true, apart := false, narrowed := true }
def EaseEvenUptoSaid : Prop := easeEvenUptoRow.holds Try.pinned (OpenSpec.upto easeEvenSpec)

/-- 'mutoscopelaw5.KeyEnds', WHERE WHAT IT READS IS OF BULK AT MOST 1048576: true; the input reads as it did. -/
def keyEndsUptoRow : OpenClaim := { program := "ytejnbjclcdmopaa", sum := "0e5762badeaf744e3fd35404bf7002569aab3ffac21cc6083fe6c5eeb2f70b15", func := "mutoscope/mutoscopelaw5.KeyEnds", spec := "keyEnds", unfollowed := true, recurses := true, apart := false, narrowed := true }
def KeyEndsUptoSaid : Prop := keyEndsUptoRow.holds Try.pinned (OpenSpec.upto keyEndsSpec)

/-- 'mutoscopelaw5.KeyMade', WHERE WHAT IT READS IS OF BULK AT MOST 1048576: true; the input reads as it did. -/
def keyMadeUptoRow : OpenClaim := { program := "ytejnbjclcdmopaa", sum := "0e5762badeaf744e3fd35404bf7002569aab3ffac21cc6083fe6c5eeb2f70b15", func := "mutoscope/mutoscopelaw5.KeyMade", spec := "keyMade", unfollowed := true, recurses := true, apart := false, narrowed := true }
def KeyMadeUptoSaid : Prop := keyMadeUptoRow.holds Try.pinned (OpenSpec.upto keyMadeSpec)

/-- 'mutoscopelaw5.KeyShifts', WHERE WHAT IT READS IS OF BULK AT MOST 1048576: true; the input reads as it did. -/
def keyShiftsUptoRow : OpenClaim := { program := "ytejnbjclcdmopaa", sum := "0e5762badeaf744e3fd35404bf7002569aab3ffac21cc6083fe6c5eeb2f70b15", func := "mutoscope/mutoscopelaw5.KeyShifts", spec := "keyShifts", unfollowed := true, recurses := true, apart := false, narrowed := true }
def KeyShiftsUptoSaid : Prop := keyShiftsUptoRow.holds Try.pinned (OpenSpec.upto keyShiftsSpec)

/-- 'mutoscopelaw4.EaseNumbers', WHERE WHAT IT READS IS OF BULK AT MOST 1048576: true; the input reads as it did. -/
def easeNumbersUptoRow : OpenClaim := { program := "ytejnbjclcdmopaa", sum := "0e5762badeaf744e3fd35404bf7002569aab3ffac21cc6083fe6c5eeb2f70b15", func := "mutoscope/mutoscopelaw4.EaseNumbers", spec := "easeNumbers", unfollowed := true, recurses := true, named := ["math/bits.divideError", "math/bits.overflowError"], apart := false, narrowed := true }
def EaseNumbersUptoSaid : Prop := easeNumbersUptoRow.holds Try.pinned (OpenSpec.upto easeNumbersSpec)

/-- 'mutoscopelaw4.EaseTells', WHERE WHAT IT READS IS OF BULK AT MOST 1048576: true; the input reads as it did. -/
def easeTellsUptoRow : OpenClaim := { program := "ytejnbjclcdmopaa", sum := "0e5762badeaf744e3fd35404bf7002569aab3ffac21cc6083fe6c5eeb2f70b15", func := "mutoscope/mutoscopelaw4.EaseTells", spec := "easeTells", unfollowed := true, recurses := true, named := ["math/bits.divideError", "math/bits.overflowError"], apart := false, narrowed := true }
def EaseTellsUptoSaid : Prop := easeTellsUptoRow.holds Try.pinned (OpenSpec.upto easeTellsSpec)

/-- 'mutoscopelaw5.KeyNumbers', WHERE WHAT IT READS IS OF BULK AT MOST 1048576: true; the input reads as it did. -/
def keyNumbersUptoRow : OpenClaim := { program := "ytejnbjclcdmopaa", sum := "0e5762badeaf744e3fd35404bf7002569aab3ffac21cc6083fe6c5eeb2f70b15", func := "mutoscope/mutoscopelaw5.KeyNumbers", spec := "keyNumbers", unfollowed := true, recurses := true, named := ["math/bits.divideError", "math/bits.overflowError"], apart := false, narrowed := true }
def KeyNumbersUptoSaid : Prop := keyNumbersUptoRow.holds Try.pinned (OpenSpec.upto keyNumbersSpec)

/-- 'mutoscopelaw5.KeyTells', WHERE WHAT IT READS IS OF BULK AT MOST 1048576: true; the input reads as it did. -/
def keyTellsUptoRow : OpenClaim := { program := "ytejnbjclcdmopaa", sum := "0e5762badeaf744e3fd35404bf7002569aab3ffac21cc6083fe6c5eeb2f70b15", func := "mutoscope/mutoscopelaw5.KeyTells", spec := "keyTells", unfollowed := true, recurses := true, named := ["math/bits.divideError", "math/bits.overflowError"], apart := false, narrowed := true }
def KeyTellsUptoSaid : Prop := keyTellsUptoRow.holds Try.pinned (OpenSpec.upto keyTellsSpec)

end Rows
end Go.Proofs.Ytejnbjclcdmopaa
