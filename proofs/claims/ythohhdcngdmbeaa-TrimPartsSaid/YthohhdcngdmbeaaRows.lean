/-
  No cell of these rows narrows 'for every input' (looked for: loops, veiled, ifaces, maps, wideKeys, modest, calm, conditions, laid).
  DERIVED. THE GIVEN ROWS OF THIS SEAT. 12 by the template 'for every input the law returns true; each argument reads behind the call as it read before'; 0 by the template 'total and deterministic' (their statements: YthohhdcngdmbeaaTotals.lean).
  GIVEN WITH THE SEED: the statements are not yours to turn. If you find one false, say at which input.
  Laid BY PROGRAM, IN A SANDBOX (cutbox-rows.mjs): the forced cells as the released guide's own fill.sh prints them over the translation 00f7932d997764e6… (all of the seat's roots in one cut). By AI agents, Wed Nov 11 2026. No macro, syntax, notation, axiom, sorry.
-/
import Derived.Test.YthohhdcngdmbeaaChecked
import GoSem.Claim
import GoSem.ClaimJoined
import GoSem.ClaimMapViews
import Derived.JoinedTies
import Derived.KernelRfl
namespace Go.Proofs.Ythohhdcngdmbeaa
/- THE CELL 'sum', in the pinned program and in every row, IS THE sha256 OF THE DUMP (.gsa) THAT YthohhdcngdmbeaaProg.lean LOADS. Nothing in Lean hashes anything: it is a label: what it is worth is what the hold of that sum in a sandbox is worth. -/
noncomputable def Try.pinned : Pinned := { name := "ythohhdcngdmbeaa", sum := "00f7932d997764e6edf06f06c536afb0fb38d46f292b1371f57ac248e2311692", checked := Try.checked }
namespace Rows
def none {H : Type} : Left H := { results := [], args := [] }

/-- 'mutoscopelaw7.PathBetween': WHATEVER THE INPUT: true; the input reads as it did. -/
def pathBetweenSpec : ChangeSpec := { name := "pathBetween", fn := fun _ => fun
  | [d1, d2, d3] => { results := [.lit (.bool true)], args := [d1, d2, d3] }
  | _ => none }
def pathBetweenRow : OpenClaim := { program := "ythohhdcngdmbeaa", sum := "00f7932d997764e6edf06f06c536afb0fb38d46f292b1371f57ac248e2311692", func := "mutoscope/mutoscopelaw7.PathBetween", spec := "pathBetween", unfollowed := true, recurses := true, apart := false }
def PathBetweenSaid : Prop := pathBetweenRow.holds Try.pinned (OpenSpec.ofChange pathBetweenSpec)

/-- ITS FALSE NEIGHBOUR: 'it returns false'. Refute it at one input. -/
def pathBetweenWrong : ChangeSpec := { name := "pathBetween", fn := fun _ => fun
  | [d1, d2, d3] => { results := [.lit (.bool false)], args := [d1, d2, d3] }
  | _ => none }
def PathBetweenWrongFalsely : Prop := pathBetweenRow.holds Try.pinned (OpenSpec.ofChange pathBetweenWrong)

/-- 'mutoscopelaw9.ArcWhole': WHATEVER THE INPUT: true; the input reads as it did. -/
def arcWholeSpec : ChangeSpec := { name := "arcWhole", fn := fun _ => fun
  | [d] => { results := [.lit (.bool true)], args := [d] }
  | _ => none }
def arcWholeRow : OpenClaim := { program := "ythohhdcngdmbeaa", sum := "00f7932d997764e6edf06f06c536afb0fb38d46f292b1371f57ac248e2311692", func := "mutoscope/mutoscopelaw9.ArcWhole", spec := "arcWhole", apart := false }
def ArcWholeSaid : Prop := arcWholeRow.holds Try.pinned (OpenSpec.ofChange arcWholeSpec)

/-- ITS FALSE NEIGHBOUR: 'it returns false'. Refute it at one input. -/
def arcWholeWrong : ChangeSpec := { name := "arcWhole", fn := fun _ => fun
  | [d] => { results := [.lit (.bool false)], args := [d] }
  | _ => none }
def ArcWholeWrongFalsely : Prop := arcWholeRow.holds Try.pinned (OpenSpec.ofChange arcWholeWrong)

/-- 'mutoscopelaw9.ArcJoins': WHATEVER THE INPUT: true; the input reads as it did. -/
def arcJoinsSpec : ChangeSpec := { name := "arcJoins", fn := fun _ => fun
  | [d1, d2] => { results := [.lit (.bool true)], args := [d1, d2] }
  | _ => none }
def arcJoinsRow : OpenClaim := { program := "ythohhdcngdmbeaa", sum := "00f7932d997764e6edf06f06c536afb0fb38d46f292b1371f57ac248e2311692", func := "mutoscope/mutoscopelaw9.ArcJoins", spec := "arcJoins", apart := false }
def ArcJoinsSaid : Prop := arcJoinsRow.holds Try.pinned (OpenSpec.ofChange arcJoinsSpec)

/-- ITS FALSE NEIGHBOUR: 'it returns false'. Refute it at one input. -/
def arcJoinsWrong : ChangeSpec := { name := "arcJoins", fn := fun _ => fun
  | [d1, d2] => { results := [.lit (.bool false)], args := [d1, d2] }
  | _ => none }
def ArcJoinsWrongFalsely : Prop := arcJoinsRow.holds Try.pinned (OpenSpec.ofChange arcJoinsWrong)

/-- 'mutoscopelaw10.TrimParts': WHATEVER THE INPUT: true; the input reads as it did. -/
def trimPartsSpec : ChangeSpec := { name := "trimParts", fn := fun _ => fun
  | [d1, d2] => { results := [.lit (.bool true)], args := [d1, d2] }
  | _ => none }
def trimPartsRow : OpenClaim := { program := "ythohhdcngdmbeaa", sum := "00f7932d997764e6edf06f06c536afb0fb38d46f292b1371f57ac248e2311692", func := "mutoscope/mutoscopelaw10.TrimParts", spec := "trimParts", apart := false }
def TrimPartsSaid : Prop := trimPartsRow.holds Try.pinned (OpenSpec.ofChange trimPartsSpec)

/-- ITS FALSE NEIGHBOUR: 'it returns false'. Refute it at one input. -/
def trimPartsWrong : ChangeSpec := { name := "trimParts", fn := fun _ => fun
  | [d1, d2] => { results := [.lit (.bool false)], args := [d1, d2] }
  | _ => none }
def TrimPartsWrongFalsely : Prop := trimPartsRow.holds Try.pinned (OpenSpec.ofChange trimPartsWrong)

/-- 'mutoscopelaw10.TrimEnds': WHATEVER THE INPUT: true; the input reads as it did. -/
def trimEndsSpec : ChangeSpec := { name := "trimEnds", fn := fun _ => fun
  | [d1, d2, d3] => { results := [.lit (.bool true)], args := [d1, d2, d3] }
  | _ => none }
def trimEndsRow : OpenClaim := { program := "ythohhdcngdmbeaa", sum := "00f7932d997764e6edf06f06c536afb0fb38d46f292b1371f57ac248e2311692", func := "mutoscope/mutoscopelaw10.TrimEnds", spec := "trimEnds", apart := false }
def TrimEndsSaid : Prop := trimEndsRow.holds Try.pinned (OpenSpec.ofChange trimEndsSpec)

/-- ITS FALSE NEIGHBOUR: 'it returns false'. Refute it at one input. -/
def trimEndsWrong : ChangeSpec := { name := "trimEnds", fn := fun _ => fun
  | [d1, d2, d3] => { results := [.lit (.bool false)], args := [d1, d2, d3] }
  | _ => none }
def TrimEndsWrongFalsely : Prop := trimEndsRow.holds Try.pinned (OpenSpec.ofChange trimEndsWrong)

/-- 'mutoscopelaw7.PathMaps': WHATEVER THE INPUT: true; the input reads as it did. -/
def pathMapsSpec : ChangeSpec := { name := "pathMaps", fn := fun _ => fun
  | [d1, d2, d3] => { results := [.lit (.bool true)], args := [d1, d2, d3] }
  | _ => none }
def pathMapsRow : OpenClaim := { program := "ythohhdcngdmbeaa", sum := "00f7932d997764e6edf06f06c536afb0fb38d46f292b1371f57ac248e2311692", func := "mutoscope/mutoscopelaw7.PathMaps", spec := "pathMaps", unfollowed := true, recurses := true, named := ["math/bits.divideError", "math/bits.overflowError"], apart := false }
def PathMapsSaid : Prop := pathMapsRow.holds Try.pinned (OpenSpec.ofChange pathMapsSpec)

/-- ITS FALSE NEIGHBOUR: 'it returns false'. Refute it at one input. -/
def pathMapsWrong : ChangeSpec := { name := "pathMaps", fn := fun _ => fun
  | [d1, d2, d3] => { results := [.lit (.bool false)], args := [d1, d2, d3] }
  | _ => none }
def PathMapsWrongFalsely : Prop := pathMapsRow.holds Try.pinned (OpenSpec.ofChange pathMapsWrong)

/-- 'mutoscopelaw9.ArcNumbers': WHATEVER THE INPUT: true; the input reads as it did. -/
def arcNumbersSpec : ChangeSpec := { name := "arcNumbers", fn := fun _ => fun
  | [] => { results := [.lit (.bool true)], args := [] }
  | _ => none }
def arcNumbersRow : OpenClaim := { program := "ythohhdcngdmbeaa", sum := "00f7932d997764e6edf06f06c536afb0fb38d46f292b1371f57ac248e2311692", func := "mutoscope/mutoscopelaw9.ArcNumbers", spec := "arcNumbers", named := ["math/bits.divideError", "math/bits.overflowError"], apart := false }
def ArcNumbersSaid : Prop := arcNumbersRow.holds Try.pinned (OpenSpec.ofChange arcNumbersSpec)

/-- ITS FALSE NEIGHBOUR: 'it returns false'. Refute it at one input. -/
def arcNumbersWrong : ChangeSpec := { name := "arcNumbers", fn := fun _ => fun
  | [] => { results := [.lit (.bool false)], args := [] }
  | _ => none }
def ArcNumbersWrongFalsely : Prop := arcNumbersRow.holds Try.pinned (OpenSpec.ofChange arcNumbersWrong)

/-- 'mutoscopelaw9.ArcTells': WHATEVER THE INPUT: true; the input reads as it did. -/
def arcTellsSpec : ChangeSpec := { name := "arcTells", fn := fun _ => fun
  | [d1, d2, d3, d4, d5, d6, d7, d8] => { results := [.lit (.bool true)], args := [d1, d2, d3, d4, d5, d6, d7, d8] }
  | _ => none }
def arcTellsRow : OpenClaim := { program := "ythohhdcngdmbeaa", sum := "00f7932d997764e6edf06f06c536afb0fb38d46f292b1371f57ac248e2311692", func := "mutoscope/mutoscopelaw9.ArcTells", spec := "arcTells", named := ["math/bits.divideError", "math/bits.overflowError"], apart := false }
def ArcTellsSaid : Prop := arcTellsRow.holds Try.pinned (OpenSpec.ofChange arcTellsSpec)

/-- ITS FALSE NEIGHBOUR: 'it returns false'. Refute it at one input. -/
def arcTellsWrong : ChangeSpec := { name := "arcTells", fn := fun _ => fun
  | [d1, d2, d3, d4, d5, d6, d7, d8] => { results := [.lit (.bool false)], args := [d1, d2, d3, d4, d5, d6, d7, d8] }
  | _ => none }
def ArcTellsWrongFalsely : Prop := arcTellsRow.holds Try.pinned (OpenSpec.ofChange arcTellsWrong)

/-- 'mutoscopelaw10.TrimNumbers': WHATEVER THE INPUT: true; the input reads as it did. -/
def trimNumbersSpec : ChangeSpec := { name := "trimNumbers", fn := fun _ => fun
  | [] => { results := [.lit (.bool true)], args := [] }
  | _ => none }
def trimNumbersRow : OpenClaim := { program := "ythohhdcngdmbeaa", sum := "00f7932d997764e6edf06f06c536afb0fb38d46f292b1371f57ac248e2311692", func := "mutoscope/mutoscopelaw10.TrimNumbers", spec := "trimNumbers", named := ["math/bits.divideError", "math/bits.overflowError"], apart := false }
def TrimNumbersSaid : Prop := trimNumbersRow.holds Try.pinned (OpenSpec.ofChange trimNumbersSpec)

/-- ITS FALSE NEIGHBOUR: 'it returns false'. Refute it at one input. -/
def trimNumbersWrong : ChangeSpec := { name := "trimNumbers", fn := fun _ => fun
  | [] => { results := [.lit (.bool false)], args := [] }
  | _ => none }
def TrimNumbersWrongFalsely : Prop := trimNumbersRow.holds Try.pinned (OpenSpec.ofChange trimNumbersWrong)

/-- 'mutoscopelaw10.TrimTells': WHATEVER THE INPUT: true; the input reads as it did. -/
def trimTellsSpec : ChangeSpec := { name := "trimTells", fn := fun _ => fun
  | [d1, d2, d3, d4] => { results := [.lit (.bool true)], args := [d1, d2, d3, d4] }
  | _ => none }
def trimTellsRow : OpenClaim := { program := "ythohhdcngdmbeaa", sum := "00f7932d997764e6edf06f06c536afb0fb38d46f292b1371f57ac248e2311692", func := "mutoscope/mutoscopelaw10.TrimTells", spec := "trimTells", named := ["math/bits.divideError", "math/bits.overflowError"], apart := false }
def TrimTellsSaid : Prop := trimTellsRow.holds Try.pinned (OpenSpec.ofChange trimTellsSpec)

/-- ITS FALSE NEIGHBOUR: 'it returns false'. Refute it at one input. -/
def trimTellsWrong : ChangeSpec := { name := "trimTells", fn := fun _ => fun
  | [d1, d2, d3, d4] => { results := [.lit (.bool false)], args := [d1, d2, d3, d4] }
  | _ => none }
def TrimTellsWrongFalsely : Prop := trimTellsRow.holds Try.pinned (OpenSpec.ofChange trimTellsWrong)

/-- 'mutoscopelaw7.PathNumbers': WHATEVER THE INPUT: true; the input reads as it did. -/
def pathNumbersSpec : ChangeSpec := { name := "pathNumbers", fn := fun _ => fun
  | [] => { results := [.lit (.bool true)], args := [] }
  | _ => none }
def pathNumbersRow : OpenClaim := { program := "ythohhdcngdmbeaa", sum := "00f7932d997764e6edf06f06c536afb0fb38d46f292b1371f57ac248e2311692", func := "mutoscope/mutoscopelaw7.PathNumbers", spec := "pathNumbers", unfollowed := true, recurses := true, named := ["math/bits.divideError", "math/bits.overflowError"], apart := false }
def PathNumbersSaid : Prop := pathNumbersRow.holds Try.pinned (OpenSpec.ofChange pathNumbersSpec)

/-- ITS FALSE NEIGHBOUR: 'it returns false'. Refute it at one input. -/
def pathNumbersWrong : ChangeSpec := { name := "pathNumbers", fn := fun _ => fun
  | [] => { results := [.lit (.bool false)], args := [] }
  | _ => none }
def PathNumbersWrongFalsely : Prop := pathNumbersRow.holds Try.pinned (OpenSpec.ofChange pathNumbersWrong)

/-- 'mutoscopelaw7.PathTells': WHATEVER THE INPUT: true; the input reads as it did. -/
def pathTellsSpec : ChangeSpec := { name := "pathTells", fn := fun _ => fun
  | [d1, d2, d3, d4, d5, d6] => { results := [.lit (.bool true)], args := [d1, d2, d3, d4, d5, d6] }
  | _ => none }
def pathTellsRow : OpenClaim := { program := "ythohhdcngdmbeaa", sum := "00f7932d997764e6edf06f06c536afb0fb38d46f292b1371f57ac248e2311692", func := "mutoscope/mutoscopelaw7.PathTells", spec := "pathTells", unfollowed := true, recurses := true, named := ["math/bits.divideError", "math/bits.overflowError"], apart := false }
def PathTellsSaid : Prop := pathTellsRow.holds Try.pinned (OpenSpec.ofChange pathTellsSpec)

/-- ITS FALSE NEIGHBOUR: 'it returns false'. Refute it at one input. -/
def pathTellsWrong : ChangeSpec := { name := "pathTells", fn := fun _ => fun
  | [d1, d2, d3, d4, d5, d6] => { results := [.lit (.bool false)], args := [d1, d2, d3, d4, d5, d6] }
  | _ => none }
def PathTellsWrongFalsely : Prop := pathTellsRow.holds Try.pinned (OpenSpec.ofChange pathTellsWrong)

/- THE SECOND FORM. 'bulk': how many values and letters a reading holds, each counted each time it is reached (what is shared counts as often as it is met; a slice's spare places count too). A statement '..UptoSaid' is the law's where the arguments, and the package variables that the reading takes, are together of bulk at most 1048576: NARROWER than '..Said'. Prove '..Said' where nothing that the law and all that it calls make is longer than what came in: it says more and counts as full. Else prove '..UptoSaid'. A law counts once. -/
mutual
def uptoBulk {H : Type} : DataW H → Nat
  | .lit (.string bytes) => bytes.length + 1
  | .lit _ => 1
  | .nil => 1
  | .ptr d => uptoBulk d + 1
  | .slice elems spare => uptoBulkAll elems + uptoBulkAll spare + 1
  | .agg parts => uptoBulkAll parts + 1
  | .iface _ d => uptoBulk d + 1
  | .map entries => uptoBulkEntries entries + 1
  | .held _ => 1
def uptoBulkAll {H : Type} : List (DataW H) → Nat
  | [] => 0
  | d :: r => uptoBulk d + uptoBulkAll r
def uptoBulkEntries {H : Type} : List (Lit × DataW H) → Nat
  | [] => 0
  | x :: r => uptoBulkEntry x + uptoBulkEntries r
def uptoBulkEntry {H : Type} : Lit × DataW H → Nat
  | (.string bytes, d) => bytes.length + uptoBulk d + 1
  | (_, d) => uptoBulk d + 1
 end
def uptoSmall : (H : Type) → List (DataW H) → Bool := fun _ ds => decide (uptoBulkAll ds ≤ 1048576)
def OpenSpec.upto (s : _root_.Go.ChangeSpec) : _root_.Go.OpenSpec := { _root_.Go.OpenSpec.ofChange s with cond := some uptoSmall }

/-- 'mutoscopelaw7.PathBetween', WHERE WHAT IT READS IS OF BULK AT MOST 1048576: true; the input reads as it did. -/
def pathBetweenUptoRow : OpenClaim := { program := "ythohhdcngdmbeaa", sum := "00f7932d997764e6edf06f06c536afb0fb38d46f292b1371f57ac248e2311692", func := "mutoscope/mutoscopelaw7.PathBetween", spec := "pathBetween", unfollowed := true, recurses := true, apart := false, narrowed := true }
def PathBetweenUptoSaid : Prop := pathBetweenUptoRow.holds Try.pinned (OpenSpec.upto pathBetweenSpec)

/-- 'mutoscopelaw9.ArcWhole', WHERE WHAT IT READS IS OF BULK AT MOST 1048576: true; the input reads as it did. -/
def arcWholeUptoRow : OpenClaim := { program := "ythohhdcngdmbeaa", sum := "00f7932d997764e6edf06f06c536afb0fb38d46f292b1371f57ac248e2311692", func := "mutoscope/mutoscopelaw9.ArcWhole", spec := "arcWhole", apart := false, narrowed := true }
def ArcWholeUptoSaid : Prop := arcWholeUptoRow.holds Try.pinned (OpenSpec.upto arcWholeSpec)

/-- 'mutoscopelaw9.ArcJoins', WHERE WHAT IT READS IS OF BULK AT MOST 1048576: true; the input reads as it did. -/
def arcJoinsUptoRow : OpenClaim := { program := "ythohhdcngdmbeaa", sum := "00f7932d997764e6edf06f06c536afb0fb38d46f292b1371f57ac248e2311692", func := "mutoscope/mutoscopelaw9.ArcJoins", spec := "arcJoins", apart := false, narrowed := true }
def ArcJoinsUptoSaid : Prop := arcJoinsUptoRow.holds Try.pinned (OpenSpec.upto arcJoinsSpec)

/-- 'mutoscopelaw10.TrimParts', WHERE WHAT IT READS IS OF BULK AT MOST 1048576: true; the input reads as it did. -/
def trimPartsUptoRow : OpenClaim := { program := "ythohhdcngdmbeaa", sum := "00f7932d997764e6edf06f06c536afb0fb38d46f292b1371f57ac248e2311692", func := "mutoscope/mutoscopelaw10.TrimParts", spec := "trimParts", apart := false, narrowed := true }
def TrimPartsUptoSaid : Prop := trimPartsUptoRow.holds Try.pinned (OpenSpec.upto trimPartsSpec)

/-- 'mutoscopelaw10.TrimEnds', WHERE WHAT IT READS IS OF BULK AT MOST 1048576: true; the input reads as it did. -/
def trimEndsUptoRow : OpenClaim := { program := "ythohhdcngdmbeaa", sum := "00f7932d997764e6edf06f06c536afb0fb38d46f292b1371f57ac248e2311692", func := "mutoscope/mutoscopelaw10.TrimEnds", spec := "trimEnds", apart := false, narrowed := true }
def TrimEndsUptoSaid : Prop := trimEndsUptoRow.holds Try.pinned (OpenSpec.upto trimEndsSpec)

/-- 'mutoscopelaw7.PathMaps', WHERE WHAT IT READS IS OF BULK AT MOST 1048576: true; the input reads as it did. -/
def pathMapsUptoRow : OpenClaim := { program := "ythohhdcngdmbeaa", sum := "00f7932d997764e6edf06f06c536afb0fb38d46f292b1371f57ac248e2311692", func := "mutoscope/mutoscopelaw7.PathMaps", spec := "pathMaps", unfollowed := true, recurses := true, named := ["math/bits.divideError", "math/bits.overflowError"], apart := false, narrowed := true }
def PathMapsUptoSaid : Prop := pathMapsUptoRow.holds Try.pinned (OpenSpec.upto pathMapsSpec)

/-- 'mutoscopelaw9.ArcNumbers', WHERE WHAT IT READS IS OF BULK AT MOST 1048576: true; the input reads as it did. -/
def arcNumbersUptoRow : OpenClaim := { program := "ythohhdcngdmbeaa", sum := "00f7932d997764e6edf06f06c536afb0fb38d46f292b1371f57ac248e2311692", func := "mutoscope/mutoscopelaw9.ArcNumbers", spec := "arcNumbers", named := ["math/bits.divideError", "math/bits.overflowError"], apart := false, narrowed := true }
def ArcNumbersUptoSaid : Prop := arcNumbersUptoRow.holds Try.pinned (OpenSpec.upto arcNumbersSpec)

/-- 'mutoscopelaw9.ArcTells', WHERE WHAT IT READS IS OF BULK AT MOST 1048576: true; the input reads as it did. -/
def arcTellsUptoRow : OpenClaim := { program := "ythohhdcngdmbeaa", sum := "00f7932d997764e6edf06f06c536afb0fb38d46f292b1371f57ac248e2311692", func := "mutoscope/mutoscopelaw9.ArcTells", spec := "arcTells", named := ["math/bits.divideError", "math/bits.overflowError"], apart := false, narrowed := true }
def ArcTellsUptoSaid : Prop := arcTellsUptoRow.holds Try.pinned (OpenSpec.upto arcTellsSpec)

/-- 'mutoscopelaw10.TrimNumbers', WHERE WHAT IT READS IS OF BULK AT MOST 1048576: true; the input reads as it did. -/
def trimNumbersUptoRow : OpenClaim := { program := "ythohhdcngdmbeaa", sum := "00f7932d997764e6edf06f06c536afb0fb38d46f292b1371f57ac248e2311692", func := "mutoscope/mutoscopelaw10.TrimNumbers", spec := "trimNumbers", named := ["math/bits.divideError", "math/bits.overflowError"], apart := false, narrowed := true }
def TrimNumbersUptoSaid : Prop := trimNumbersUptoRow.holds Try.pinned (OpenSpec.upto trimNumbersSpec)

/-- 'mutoscopelaw10.TrimTells', WHERE WHAT IT READS IS OF BULK AT MOST 1048576: true; the input reads as it did. -/
def trimTellsUptoRow : OpenClaim := { program := "ythohhdcngdmbeaa", sum := "00f7932d997764e6edf06f06c536afb0fb38d46f292b1371f57ac248e2311692", func := "mutoscope/mutoscopelaw10.TrimTells", spec := "trimTells", named := ["math/bits.divideError", "math/bits.overflowError"], apart := false, narrowed := true }
def TrimTellsUptoSaid : Prop := trimTellsUptoRow.holds Try.pinned (OpenSpec.upto trimTellsSpec)

/-- 'mutoscopelaw7.PathNumbers', WHERE WHAT IT READS IS OF BULK AT MOST 1048576: true; the input reads as it did. -/
def pathNumbersUptoRow : OpenClaim := { program := "ythohhdcngdmbeaa", sum := "00f7932d997764e6edf06f06c536afb0fb38d46f292b1371f57ac248e2311692", func := "mutoscope/mutoscopelaw7.PathNumbers", spec := "pathNumbers", unfollowed := true, recurses := true, named := ["math/bits.divideError", "math/bits.overflowError"], apart := false, narrowed := true }
def PathNumbersUptoSaid : Prop := pathNumbersUptoRow.holds Try.pinned (OpenSpec.upto pathNumbersSpec)

/-- 'mutoscopelaw7.PathTells', WHERE WHAT IT READS IS OF BULK AT MOST 1048576: true; the input reads as it did. -/
def pathTellsUptoRow : OpenClaim := { program := "ythohhdcngdmbeaa", sum := "00f7932d997764e6edf06f06c536afb0fb38d46f292b1371f57ac248e2311692", func := "mutoscope/mutoscopelaw7.PathTells", spec := "pathTells", unfollowed := true, recurses := true, named := ["math/bits.divideError", "math/bits.overflowError"], apart := false, narrowed := true }
def PathTellsUptoSaid : Prop := pathTellsUptoRow.holds Try.pinned (OpenSpec.upto pathTellsSpec)

end Rows
end Go.Proofs.Ythohhdcngdmbeaa
