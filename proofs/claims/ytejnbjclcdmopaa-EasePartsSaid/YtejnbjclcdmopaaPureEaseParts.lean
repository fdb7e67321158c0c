/- Plain law, no machine: the printed law EaseParts answers true at every input. No condition. -/
import Derived.Test.YtejnbjclcdmopaaMKnown4
import Derived.Test.YtejnbjclcdmopaaPAx6
set_option linter.unusedVariables false
namespace Go.Proofs.Ytejnbjclcdmopaa.Pure
open Go.RowKit Go.Proofs.Ytejnbjclcdmopaa.PA Go.Proofs.YtejnbjclcdmopaaW.PrintWords Go.Proofs.YtejnbjclcdmopaaW.PrintLast Go.Proofs.YtejnbjclcdmopaaW.PrintMore Go.Proofs.Ytejnbjclcdmopaa.MB

theorem EaseParts : mutoscopelaw4_EaseParts.Pure := by
  intro a0 a1 a2 _ _ _
  refine ⟨18, ?_⟩
  unfold mutoscopelaw4_EaseParts.f
  simp only [and16]
  have hA1 : -1073741824 < Int.tmod a0 1073741824 := by have := Int.lt_tmod_of_pos a0 (show (0 : Int) < 1073741824 by decide); omega
  have hA2 : Int.tmod a0 1073741824 < 1073741824 := Int.tmod_lt_of_pos a0 (by decide)
  have hN : 0 ≤ a1 % 65536 ∧ a1 % 65536 < 65536 := by omega
  have hT : 0 ≤ a2 % 65536 ∧ a2 % 65536 < 65536 := by omega
  generalize Int.tmod a0 1073741824 = A at *
  generalize a1 % 65536 = n at *
  generalize a2 % 65536 = T at *
  rw [w64 (x := 1 + n) (by omega) (by omega), w64 (x := A + (1 + n)) (by omega) (by omega), w64 (x := A + T) (by omega) (by omega), w64 (x := A - 1) (by omega) (by omega), w64 (x := T * 65536) (by omega) (by omega)]
  simp only [ease_Part_eq, Option.bind_some, known4 (Nat.le_refl 18)]
  unfold prt
  rw [hd_of (a := A) (by omega) (by omega), hd_of (a := A + (1 + n)) (by omega) (by omega), hd_of (a := A + T) (by omega) (by omega), hd_of (a := A - 1) (by omega) (by omega)]
  have hq : 0 ≤ T * 65536 / (1 + n) := Int.ediv_nonneg (by omega) (by omega)
  have hq2 : T * 65536 / (1 + n) ≤ T * 65536 := Int.ediv_le_self _ (by omega)
  by_cases h : T ≥ 1 + n
  · rw [if_pos h, if_neg (show ¬ A + T ≤ A by omega), if_pos (show A + T ≥ A + (1 + n) by omega), if_pos rfl]
  · rw [if_neg h, if_neg (show ¬ 1 + n = 0 by omega), Int.tdiv_eq_ediv_of_nonneg (by omega), w64 (by omega) (by omega)]
    have e : (if A + T ≤ A then 0 else if A + T ≥ A + (1 + n) then 65536 else (A + T - A) * 65536 / (A + (1 + n) - A)) = T * 65536 / (1 + n) := by
      by_cases h0 : T = 0
      · rw [if_pos (by omega), h0]; simp
      · rw [if_neg (by omega), if_neg (by omega), show A + T - A = T by omega, show A + (1 + n) - A = 1 + n by omega]
    rw [e, if_pos rfl]
    simp only [if_pos (Int.le_refl A), if_pos (show A - 1 ≤ A by omega)]
    rfl
end Go.Proofs.Ytejnbjclcdmopaa.Pure
