/- Plain law, no machine: what the printed functions of package ease answer (a bend, a curve's time by sixteen halvings, a part of a time). No condition beyond those stated. -/
import Derived.Test.YtejnbjclcdmopaaMQ
import Derived.Test.YtejnbjclcdmopaaPAx5
set_option linter.unusedVariables false
namespace Go.Proofs.Ytejnbjclcdmopaa.MB
def bend (a b t : Int) : Int :=
  add (add (mul (3 * mul (mul (65536 - cl t 0 65536) (65536 - cl t 0 65536)) (cl t 0 65536)) a) (mul (3 * mul (mul (65536 - cl t 0 65536) (cl t 0 65536)) (cl t 0 65536)) b)) (mul (mul (cl t 0 65536) (cl t 0 65536)) (cl t 0 65536))
def halve : Nat → (Int → Int) → Int → Int → Int → Int
  | 0, _, _, lo, _ => lo
  | n + 1, g, x, lo, hi => if g ((lo + hi) / 2) ≤ x then halve n g x ((lo + hi) / 2) hi else halve n g x lo ((lo + hi) / 2)
def curve (x1 y1 x2 y2 x : Int) : Int := if x ≤ 0 then 0 else if x ≥ 65536 then 65536 else bend y1 y2 (halve 16 (bend x1 x2) x 0 65536)
def prt (a b t : Int) : Int := if hd t ≤ hd a then 0 else if hd t ≥ hd b then 65536 else (hd t - hd a) * 65536 / (hd b - hd a)
theorem halve_bd (g : Int → Int) (x : Int) : ∀ n lo hi, 0 ≤ lo → lo ≤ hi → hi ≤ 65536 → 0 ≤ halve n g x lo hi ∧ halve n g x lo hi ≤ 65536 := by
  intro n
  induction n with
  | zero => intro lo hi h1 h2 h3; exact ⟨h1, Int.le_trans h2 h3⟩
  | succ n ih =>
    intro lo hi h1 h2 h3
    simp only [halve]
    split
    · exact ih _ _ (by omega) (by omega) h3
    · exact ih _ _ h1 (by omega) (by omega)
theorem bend_bd (a b t : Int) : -1099511627776 ≤ bend a b t ∧ bend a b t ≤ 1099511627776 := add_bd _ _
end Go.Proofs.Ytejnbjclcdmopaa.MB
namespace Go.Proofs.Ytejnbjclcdmopaa.PA
open Go.RowKit Go.Proofs.YtejnbjclcdmopaaW.PrintWords Go.Proofs.YtejnbjclcdmopaaW.PrintLast Go.Proofs.YtejnbjclcdmopaaW.PrintMore Go.Proofs.Ytejnbjclcdmopaa.MB

theorem ease_Bend_eq {k : Nat} (hk : 1 ≤ k) (a b t : Int) : ease_Bend.f k a b t = some (bend a b t) := by
  unfold ease_Bend.f
  have hc := cl_bd t 0 65536 (by omega)
  rw [q_Clamp_eq]
  simp only [Option.bind_some]
  rw [w64 (x := 65536 - cl t 0 65536) (by omega) (by omega)]
  simp only [q_Mul_ge hk, Option.bind_some]
  have h1 := mul_bd (mul (65536 - cl t 0 65536) (65536 - cl t 0 65536)) (cl t 0 65536)
  have h2 := mul_bd (mul (65536 - cl t 0 65536) (cl t 0 65536)) (cl t 0 65536)
  rw [w64 (by omega) (by omega), w64 (by omega) (by omega)]
  simp only [q_Add_eq, Option.bind_some]
  rfl
theorem ease_At_l0 (x1 y1 x2 y2 x : Int) : ∀ (n k : Nat) (lo hi i : Int), 0 ≤ lo → lo ≤ hi → hi ≤ 65536 → i = 16 - (n : Int) → 0 ≤ i → n + 2 ≤ k →
    ease_At.l0 k x lo hi i x1 y1 x2 y2 = some (bend y1 y2 (halve n (bend x1 x2) x lo hi)) := by
  intro n
  induction n with
  | zero =>
    intro k lo hi i h1 h2 h3 h4 h5 hk
    obtain ⟨k, rfl⟩ : ∃ m, k = m + 1 := ⟨k - 1, by omega⟩
    simp only [ease_At.l0]
    rw [if_neg (by omega), ease_Bend_eq (by omega)]
    rfl
  | succ n ih =>
    intro k lo hi i h1 h2 h3 h4 h5 hk
    obtain ⟨k, rfl⟩ : ∃ m, k = m + 1 := ⟨k - 1, by omega⟩
    simp only [ease_At.l0]
    rw [if_pos (by omega), w64 (x := lo + hi) (by omega) (by omega), ease_Bend_eq (by omega)]
    simp only [Option.bind_some, halve]
    rw [w64 (x := i + 1) (by omega) (by omega)]
    split
    · exact ih _ _ _ _ (by omega) (by omega) h3 (by omega) (by omega) (by omega)
    · exact ih _ _ _ _ h1 (by omega) (by omega) (by omega) (by omega) (by omega)
theorem ease_At_eq {k : Nat} (hk : 18 ≤ k) (x1 y1 x2 y2 x : Int) : ease_At.f k x1 y1 x2 y2 x = some (curve x1 y1 x2 y2 x) := by
  unfold ease_At.f curve
  split
  · rfl
  · split
    · rfl
    · exact ease_At_l0 x1 y1 x2 y2 x 16 k 0 65536 0 (by omega) (by omega) (by omega) (by omega) (by omega) (by omega)
theorem part_of (a b t : Int) (h1 : ¬ hd t ≤ hd a) (h2 : ¬ hd t ≥ hd b) : wrap64 (hd b - hd a) ≠ 0 ∧ wrap64 (Int.tdiv (wrap64 ((wrap64 (hd t - hd a)) * 65536)) (wrap64 (hd b - hd a))) = (hd t - hd a) * 65536 / (hd b - hd a) := by
  have ha := hd_bd a
  have hb := hd_bd b
  have ht := hd_bd t
  generalize hd a = x at *
  generalize hd b = y at *
  generalize hd t = z at *
  rw [w64 (x := y - x) (by omega) (by omega), w64 (x := z - x) (by omega) (by omega), w64 (x := (z - x) * 65536) (by omega) (by omega)]
  refine ⟨by omega, ?_⟩
  rw [Int.tdiv_eq_ediv_of_nonneg (by omega)]
  have q1 : 0 ≤ (z - x) * 65536 / (y - x) := Int.ediv_nonneg (by omega) (by omega)
  have q2 : (z - x) * 65536 / (y - x) ≤ (z - x) * 65536 := Int.ediv_le_self _ (by omega)
  exact w64 (by omega) (by omega)
theorem ease_Part_eq (a b t : Int) : ease_Part.f a b t = some (prt a b t) := by
  unfold ease_Part.f prt
  simp only [q_Hold_eq, Option.bind_some]
  by_cases h1 : hd t ≤ hd a
  · rw [if_pos h1, if_pos h1]
  · rw [if_neg h1, if_neg h1]
    by_cases h2 : hd t ≥ hd b
    · rw [if_pos h2, if_pos h2]
    · rw [if_neg h2, if_neg h2]
      obtain ⟨n, e⟩ := part_of a b t h1 h2
      rw [if_neg n, e]
theorem ease_Right_some (a b c d : Int) : ∃ r, ease_Right.f a b c d = some r := by
  have hw : ∀ x y z : Int, ∃ r, ease_Right_1.f x y z = some r := by intro x y z; unfold ease_Right_1.f; split <;> exact ⟨_, rfl⟩
  unfold ease_Right.f
  obtain ⟨r1, e1⟩ := hw a 0 65536
  obtain ⟨r2, e2⟩ := hw c 0 65536
  obtain ⟨r3, e3⟩ := hw b (-131072) 196608
  obtain ⟨r4, e4⟩ := hw d (-131072) 196608
  simp only [e1, e2, e3, e4, Option.bind_some]
  repeat (first | exact ⟨_, rfl⟩ | split)
theorem ease_Right_in {a b c d : Int} (h1 : 0 ≤ a ∧ a ≤ 65536) (h2 : -131072 ≤ b ∧ b ≤ 196608) (h3 : 0 ≤ c ∧ c ≤ 65536) (h4 : -131072 ≤ d ∧ d ≤ 196608) : ease_Right.f a b c d = some true := by
  have hw : ∀ x y z : Int, y ≤ x → x ≤ z → ease_Right_1.f x y z = some true := by intro x y z p q; unfold ease_Right_1.f; rw [if_pos p, decide_eq_true q]
  unfold ease_Right.f
  simp only [hw _ _ _ h1.1 h1.2, hw _ _ _ h2.1 h2.2, hw _ _ _ h3.1 h3.2, hw _ _ _ h4.1 h4.2, Option.bind_some, if_true]
end Go.Proofs.Ytejnbjclcdmopaa.PA
