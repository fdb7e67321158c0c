/- Plain law, no machine: what the printed functions of package mutoscoperef5 on eases answer: the same as package ease's. No condition beyond those stated. -/
import Derived.Test.YtejnbjclcdmopaaMRef
import Derived.Test.YtejnbjclcdmopaaMEase
import Derived.Test.YtejnbjclcdmopaaPAx13
import Derived.Test.YtejnbjclcdmopaaPAx15
import Derived.Test.YtejnbjclcdmopaaPAx5
set_option linter.unusedVariables false
namespace Go.Proofs.Ytejnbjclcdmopaa.PA
open Go.RowKit Go.Proofs.YtejnbjclcdmopaaW.PrintWords Go.Proofs.YtejnbjclcdmopaaW.PrintLast Go.Proofs.YtejnbjclcdmopaaW.PrintMore Go.Proofs.Ytejnbjclcdmopaa.MB

theorem r5_Bend_eq {k : Nat} (hk : 5 ≤ k) (a b t : Int) : mutoscoperef5_Bend.f k a b t = some (bend a b t) := by
  unfold mutoscoperef5_Bend.f
  have hc := cl_bd t 0 65536 (by omega)
  rw [r1_Clamp_eq]
  simp only [Option.bind_some]
  rw [w64 (x := 65536 - cl t 0 65536) (by omega) (by omega)]
  simp only [r1_Mul_ge hk, Option.bind_some]
  have h1 := mul_bd (mul (65536 - cl t 0 65536) (65536 - cl t 0 65536)) (cl t 0 65536)
  have h2 := mul_bd (mul (65536 - cl t 0 65536) (cl t 0 65536)) (cl t 0 65536)
  rw [w64 (by omega) (by omega), w64 (by omega) (by omega)]
  simp only [r1_Add_eq, Option.bind_some]
  rfl
theorem r5_Curve_l0 (x1 y1 x2 y2 x : Int) : ∀ (n k : Nat) (lo hi i : Int), 0 ≤ lo → lo ≤ hi → hi ≤ 65536 → i = 16 - (n : Int) → 0 ≤ i → n + 6 ≤ k →
    mutoscoperef5_Curve.l0 k x lo hi i x1 y1 x2 y2 = some (bend y1 y2 (halve n (bend x1 x2) x lo hi)) := by
  intro n
  induction n with
  | zero =>
    intro k lo hi i h1 h2 h3 h4 h5 hk
    obtain ⟨k, rfl⟩ : ∃ m, k = m + 1 := ⟨k - 1, by omega⟩
    simp only [mutoscoperef5_Curve.l0]
    rw [if_neg (by omega), r5_Bend_eq (by omega)]
    rfl
  | succ n ih =>
    intro k lo hi i h1 h2 h3 h4 h5 hk
    obtain ⟨k, rfl⟩ : ∃ m, k = m + 1 := ⟨k - 1, by omega⟩
    simp only [mutoscoperef5_Curve.l0]
    rw [if_pos (by omega), w64 (x := lo + hi) (by omega) (by omega), tdiv_nn (by omega), w64 (x := (lo + hi) / 2) (by omega) (by omega), r5_Bend_eq (by omega)]
    simp only [Option.bind_some, halve]
    rw [w64 (x := i + 1) (by omega) (by omega)]
    split
    · exact ih _ _ _ _ (by omega) (by omega) h3 (by omega) (by omega) (by omega)
    · exact ih _ _ _ _ h1 (by omega) (by omega) (by omega) (by omega) (by omega)
theorem r5_Curve_eq {k : Nat} (hk : 22 ≤ k) (x1 y1 x2 y2 x : Int) : mutoscoperef5_Curve.f k x1 y1 x2 y2 x = some (curve x1 y1 x2 y2 x) := by
  unfold mutoscoperef5_Curve.f curve
  split
  · rfl
  · split
    · rfl
    · exact r5_Curve_l0 x1 y1 x2 y2 x 16 k 0 65536 0 (by omega) (by omega) (by omega) (by omega) (by omega) (by omega)
theorem r5_Part_eq (a b t : Int) : mutoscoperef5_Part.f a b t = some (prt a b t) := by
  unfold mutoscoperef5_Part.f prt
  simp only [r1_Hold_eq, Option.bind_some]
  by_cases h1 : hd t ≤ hd a
  · rw [if_pos h1, if_pos h1]
  · rw [if_neg h1, if_neg h1]
    by_cases h2 : hd t ≥ hd b
    · rw [if_pos h2, if_pos h2]
    · rw [if_neg h2, if_neg h2]
      obtain ⟨n, e⟩ := part_of a b t h1 h2
      rw [if_neg n, e]
theorem r5_Ease_eq (a b c d : Int) : mutoscoperef5_Ease.f a b c d = ease_Right.f a b c d := by
  have e : mutoscoperef5_within.f = ease_Right_1.f := rfl
  unfold mutoscoperef5_Ease.f ease_Right.f
  rw [e]
end Go.Proofs.Ytejnbjclcdmopaa.PA
