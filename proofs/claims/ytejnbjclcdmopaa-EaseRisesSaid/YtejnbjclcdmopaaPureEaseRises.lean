/- Plain law, no machine: the printed law EaseRises answers true at every input. No condition. -/
import Derived.Test.YtejnbjclcdmopaaMFloor
import Derived.Test.YtejnbjclcdmopaaMKnown4
import Derived.Test.YtejnbjclcdmopaaPAx7
set_option linter.unusedVariables false
namespace Go.Proofs.Ytejnbjclcdmopaa.MB
/-- The curve from 0 to One: its exact height, but for 8. -/
theorem rise_near {t : Int} (ht : 0 ≤ t) (ht' : t ≤ 65536) : 4294967296 * bend 0 65536 t ≤ t * t * (196608 - 2 * t) ∧ t * t * (196608 - 2 * t) < 4294967296 * bend 0 65536 t + 34359738368 ∧ 0 ≤ bend 0 65536 t := by
  rw [bend_floor (by omega) (by omega) (by omega) (by omega) ht ht']
  generalize hu : 65536 - t = u
  have hu0 : 0 ≤ u ∧ u ≤ 65536 := by omega
  have b2 := pbd hu0.1 hu0.2 ht ht'
  have b3 := pbd ht ht' ht ht'
  have f2 := two_floor b2.1 (by omega) ht ht'
  have f3 := two_floor b3.1 (by omega) ht ht'
  have c2 := pbd (a := u * t / 65536) (A := 65536) (by omega) (by omega) ht ht'
  have c3 := pbd (a := t * t / 65536) (A := 65536) (by omega) (by omega) ht ht'
  have e : t * t * (196608 - 2 * t) = 3 * (u * t * t) + t * t * t := by
    have h : u = 65536 - t := by omega
    subst h; grind
  rw [e, Int.mul_zero]
  generalize u * t / 65536 * t = Y at *
  generalize t * t / 65536 * t = Z at *
  generalize u * t * t = U2 at *
  generalize t * t * t = U3 at *
  omega
theorem rise_mono {s t : Int} (hs : 0 ≤ s) (h : s ≤ t) (ht' : t ≤ 65536) : s * s * (196608 - 2 * s) ≤ t * t * (196608 - 2 * t) := by
  obtain ⟨d, rfl⟩ : ∃ d, t = s + d := ⟨t - s, by omega⟩
  have hd : 0 ≤ d := by omega
  obtain ⟨v, hv⟩ : ∃ v, v = 65536 - (s + d) := ⟨_, rfl⟩
  have hv0 : 0 ≤ v := by omega
  have p1 := Int.mul_nonneg (Int.mul_nonneg hd hs) hs
  have p2 := Int.mul_nonneg (Int.mul_nonneg hd hd) hs
  have p3 := Int.mul_nonneg (Int.mul_nonneg hd hd) hd
  have p4 := Int.mul_nonneg (Int.mul_nonneg hd hs) hv0
  have p5 := Int.mul_nonneg (Int.mul_nonneg hd hd) hv0
  have e : (s + d) * (s + d) * (196608 - 2 * (s + d)) - s * s * (196608 - 2 * s) = 6 * (d * s * v) + 3 * (d * d * v) + 3 * (d * d * s) + d * d * d := by
    have h2 : (65536 : Int) = v + (s + d) := by omega
    have h3 : (196608 : Int) = 3 * (v + (s + d)) := by omega
    rw [h3]; grind
  omega
end Go.Proofs.Ytejnbjclcdmopaa.MB
namespace Go.Proofs.Ytejnbjclcdmopaa.Pure
open Go.RowKit Go.Proofs.Ytejnbjclcdmopaa.PA Go.Proofs.YtejnbjclcdmopaaW.PrintWords Go.Proofs.YtejnbjclcdmopaaW.PrintLast Go.Proofs.YtejnbjclcdmopaaW.PrintMore Go.Proofs.Ytejnbjclcdmopaa.MB

theorem rises_j0 (x1 x2 a b : Int) (ha : 0 ≤ a) (hab : a ≤ b) (hb : b < 65536) : mutoscopelaw4_EaseRises.j0 19 a b x1 0 x2 65536 = some true := by
  simp only [mutoscopelaw4_EaseRises.j0, ease_At_eq (Nat.le_refl 18), Option.bind_some, known4 (Nat.le_refl 18)]
  have c0 : curve x1 0 x2 65536 0 = 0 := by unfold curve; rw [if_pos (by omega)]
  have c1 : curve x1 0 x2 65536 65536 = 65536 := by unfold curve; rw [if_neg (by omega), if_pos (by omega)]
  rw [c0, c1]
  simp only [if_true]
  have cb : ∀ x, 0 ≤ curve x1 0 x2 65536 x ∧ curve x1 0 x2 65536 x ≤ 65536 := by
    intro x; unfold curve
    by_cases h0 : x ≤ 0
    · rw [if_pos h0]; omega
    · rw [if_neg h0]
      by_cases h1 : x ≥ 65536
      · rw [if_pos h1]; omega
      · rw [if_neg h1]
        have hh := halve_bd (bend x1 x2) x 16 0 65536 (by omega) (by omega) (by omega)
        have r := rise_near hh.1 hh.2
        have m := rise_mono hh.1 hh.2 (Int.le_refl _)
        omega
  have cm : curve x1 0 x2 65536 a ≤ curve x1 0 x2 65536 b + 8 := by
    by_cases h0 : a ≤ 0
    · have := cb b; unfold curve at this ⊢; rw [if_pos h0]; omega
    · unfold curve
      rw [if_neg h0, if_neg (by omega), if_neg (by omega), if_neg (by omega)]
      have ha' := halve_bd (bend x1 x2) a 16 0 65536 (by omega) (by omega) (by omega)
      have hb' := halve_bd (bend x1 x2) b 16 0 65536 (by omega) (by omega) (by omega)
      have hm := halve_mono (bend x1 x2) hab 16 0 65536 (by omega)
      have r1 := rise_near ha'.1 ha'.2
      have r2 := rise_near hb'.1 hb'.2
      have m := rise_mono ha'.1 hm hb'.2
      omega
  have k1 := cb a
  have k2 := cb b
  rw [w64 (by omega) (by omega), if_pos k1.1, if_pos k2.2, if_pos cm]
theorem EaseRises : mutoscopelaw4_EaseRises.Pure := by
  intro a b c d x y _ _ _
  refine ⟨19, ?_⟩
  unfold mutoscopelaw4_EaseRises.f
  simp only [and16]
  split
  · exact rises_j0 _ _ _ _ (by omega) (by omega) (by omega)
  · exact rises_j0 _ _ _ _ (by omega) (by omega) (by omega)
end Go.Proofs.Ytejnbjclcdmopaa.Pure
