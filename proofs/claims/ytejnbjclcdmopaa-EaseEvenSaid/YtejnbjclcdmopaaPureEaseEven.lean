/- Plain law, no machine: the printed law EaseEven answers true at every input. No condition. -/
import Derived.Test.YtejnbjclcdmopaaMFloor
import Derived.Test.YtejnbjclcdmopaaMKnown4
import Derived.Test.YtejnbjclcdmopaaPAx6
set_option linter.unusedVariables false
namespace Go.Proofs.Ytejnbjclcdmopaa.MB
/-- The curve through the straight line's two points stays within 13 of it. -/
theorem even_near {t : Int} (ht : 0 ≤ t) (ht' : t ≤ 65536) : bend 21845 43690 t ≤ t ∧ t - 13 < bend 21845 43690 t := by
  rw [bend_floor (by omega) (by omega) (by omega) (by omega) ht ht']
  generalize hu : 65536 - t = u
  have hu0 : 0 ≤ u ∧ u ≤ 65536 := by omega
  have b1 := pbd hu0.1 hu0.2 hu0.1 hu0.2
  have b2 := pbd hu0.1 hu0.2 ht ht'
  have b3 := pbd ht ht' ht ht'
  have f1 := two_floor b1.1 (by omega) ht ht'
  have f2 := two_floor b2.1 (by omega) ht ht'
  have f3 := two_floor b3.1 (by omega) ht ht'
  have c1 := pbd (a := u * u / 65536) (A := 65536) (by omega) (by omega) ht ht'
  have c2 := pbd (a := u * t / 65536) (A := 65536) (by omega) (by omega) ht ht'
  have c3 := pbd (a := t * t / 65536) (A := 65536) (by omega) (by omega) ht ht'
  have e : u * u * t + 2 * (u * t * t) + t * t * t = 4294967296 * t := by
    have h : u = 65536 - t := by omega
    subst h; grind
  generalize u * u / 65536 * t = X at *
  generalize u * t / 65536 * t = Y at *
  generalize t * t / 65536 * t = Z at *
  generalize u * u * t = U1 at *
  generalize u * t * t = U2 at *
  generalize t * t * t = U3 at *
  omega
end Go.Proofs.Ytejnbjclcdmopaa.MB
namespace Go.Proofs.Ytejnbjclcdmopaa.Pure
open Go.RowKit Go.Proofs.Ytejnbjclcdmopaa.PA Go.Proofs.YtejnbjclcdmopaaW.PrintWords Go.Proofs.YtejnbjclcdmopaaW.PrintLast Go.Proofs.YtejnbjclcdmopaaW.PrintMore Go.Proofs.Ytejnbjclcdmopaa.MB

theorem EaseEven : mutoscopelaw4_EaseEven.Pure := by
  intro a0 _
  refine ⟨18, ?_⟩
  unfold mutoscopelaw4_EaseEven.f
  simp only [and16]
  have hx : 0 ≤ a0 % 65536 ∧ a0 % 65536 < 65536 := by omega
  generalize a0 % 65536 = x at *
  rw [w64 (x := x - 32) (by omega) (by omega), w64 (x := x + 32) (by omega) (by omega)]
  simp only [ease_At_eq (Nat.le_refl 18), Option.bind_some, known4 (Nat.le_refl 18)]
  rw [ease_Right_in (by omega) (by omega) (by omega) (by omega)]
  simp only [Option.bind_some, if_true]
  have key : x - 32 ≤ curve 21845 21845 43690 43690 x ∧ curve 21845 21845 43690 43690 x ≤ x + 32 := by
    unfold curve
    by_cases h0 : x ≤ 0
    · rw [if_pos h0]; omega
    · rw [if_neg h0, if_neg (by omega)]
      have h := halve_spec (bend 21845 43690) x 16 0 65536 (by decide) (by have := even_near (t := 0) (by omega) (by omega); omega) (.inr hx.2) (by omega) (by omega)
      obtain ⟨h1, h2, h3, h4⟩ := h
      generalize halve 16 (bend 21845 43690) x 0 65536 = L at *
      have e1 := even_near (t := L) h3 (by omega)
      have e2 := even_near (t := L + 1) (by omega) h4
      omega
  rw [if_pos key.1, if_pos key.2]
end Go.Proofs.Ytejnbjclcdmopaa.Pure
