/- A store makes and unmakes no cell: so a cell that was written more than once is read back without looking behind each store. Over any program, no condition. -/
import Derived.WalkKit
namespace Go.Proofs.Ytejnbjclcdmopaa.MS
theorem isSome_setCell (w : World) (p a : Addr) (v : Value) : ((w.setCell p v).cell? a).isSome = (w.cell? a).isSome := by
  simp only [World.setCell, World.cell?, Array.getElem?_modify]
  by_cases hb : p.block = a.block
  · simp only [hb, if_true]
    cases hh : w.heap[a.block]? with
    | none => simp
    | some x =>
      cases x <;> simp
      cases hsa : a.spot with
      | some _ => simp
      | none =>
        cases hsp : p.spot with
        | some _ => simp
        | none => simp [Array.getElem?_setIfInBounds]; split <;> (try split) <;> simp_all
  · simp [hb]
end Go.Proofs.Ytejnbjclcdmopaa.MS
