/- StrokeTells in plain Lean. No condition beyond those stated. -/
import Derived.Test.YtojigbcgmneiiaaSt4
set_option linter.unusedVariables false
set_option linter.unusedSimpArgs false
namespace Go.Proofs.Ytojigbcgmneiiaa.H
open Go Go.VM
set_option maxRecDepth 100000
theorem strokeTells_plain (tape : List W3) (hl : (tape.length : Int) ≤ 9223372036854775807) (w z : Int) (cr : Bool) (raw : List W43) : F10 (Rt tape) w z cr (Rw raw) = some (.a0 true) := by
  obtain ⟨c, o, s, hp, _, ho, _⟩ := poly_ex tape hl 0 (by decide)
  have ht : List.take 8 (Rw raw) = Rw (raw.take 8) := by simp [Rw, List.map_take]
  have sm : ∀ w z, F27 c (Rw o) w z = some (.a0 true) := fun w z => same12 c (by omega) w z
  unfold F10
  rw [hp, Option.bind_some]
  dsimp only
  rw [rw_len raw]
  by_cases h8 : (raw.length : Int) > 8
  · rw [if_pos h8, if_pos (by omega), if_pos (by rw [rw_len]; omega), rw_all, sm, Option.bind_some]
    dsimp only
    rw [if_pos rfl, sm, Option.bind_some]
    dsimp only
    rw [if_pos rfl, ht, same12 cr (l := raw.take 8) (by rw [List.length_take]; omega), Option.bind_some]
    dsimp only
    rw [if_pos rfl, known12]; rfl
  · rw [if_neg h8, if_pos (by rw [rw_len]; omega), rw_all, sm, Option.bind_some]
    dsimp only
    rw [if_pos rfl, sm, Option.bind_some]
    dsimp only
    rw [if_pos rfl, same12 cr (l := raw) (by omega), Option.bind_some]
    dsimp only
    rw [if_pos rfl, known12]; rfl
end Go.Proofs.Ytojigbcgmneiiaa.H
