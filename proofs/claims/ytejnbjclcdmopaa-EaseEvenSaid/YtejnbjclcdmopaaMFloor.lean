/- Plain law, no program: what two roundings take from a product of three numbers of at most One; a curve's height as floors. No condition beyond those stated. -/
import Derived.Test.YtejnbjclcdmopaaMEase
set_option linter.unusedVariables false
namespace Go.Proofs.Ytejnbjclcdmopaa.MB

theorem mul_nn {a b : Int} (ha : 0 ≤ a) (ha' : a ≤ 1048576) (hb : 0 ≤ b) (hb' : b ≤ 1048576) : mul a b = a * b / 65536 := by
  unfold mul
  rw [hd_of (a := a) (by omega) (by omega), hd_of (a := b) (by omega) (by omega)]
  have h1 := Int.mul_nonneg ha hb
  have h2 : a * b ≤ 1048576 * 1048576 := Int.mul_le_mul ha' hb' hb (by omega)
  exact hd_of (by omega) (by omega)
theorem pbd {a b A B : Int} (ha : 0 ≤ a) (ha' : a ≤ A) (hb : 0 ≤ b) (hb' : b ≤ B) : 0 ≤ a * b ∧ a * b ≤ A * B :=
  ⟨Int.mul_nonneg ha hb, Int.mul_le_mul ha' hb' hb (by omega)⟩
/-- Two roundings of x t. -/
theorem two_floor {x t : Int} (hx : 0 ≤ x) (hx' : x ≤ 4294967296) (ht : 0 ≤ t) (ht' : t ≤ 65536) :
    4294967296 * (x / 65536 * t / 65536) ≤ x * t ∧ x * t < 4294967296 * (x / 65536 * t / 65536) + 8589934592 := by
  have h1 : (65536 * (x / 65536)) * t ≤ x * t := Int.mul_le_mul_of_nonneg_right (by omega) ht
  have h2 : x * t ≤ (65536 * (x / 65536) + 65535) * t := Int.mul_le_mul_of_nonneg_right (by omega) ht
  rw [Int.mul_assoc] at h1
  rw [Int.add_mul, Int.mul_assoc] at h2
  generalize x / 65536 * t = A at *
  generalize x * t = B at *
  omega
/-- A curve of heights within 0 and One, as floors. -/
theorem bend_floor {a b t : Int} (ha : 0 ≤ a) (ha' : a ≤ 65536) (hb : 0 ≤ b) (hb' : b ≤ 65536) (ht : 0 ≤ t) (ht' : t ≤ 65536) :
    bend a b t = 3 * ((65536 - t) * (65536 - t) / 65536 * t / 65536) * a / 65536 + 3 * ((65536 - t) * t / 65536 * t / 65536) * b / 65536 + t * t / 65536 * t / 65536 := by
  unfold bend
  rw [cl_of ht ht']
  generalize hu : 65536 - t = u
  have hu0 : 0 ≤ u ∧ u ≤ 65536 := by omega
  have b1 := pbd hu0.1 hu0.2 hu0.1 hu0.2
  have b2 := pbd hu0.1 hu0.2 ht ht'
  have b3 := pbd ht ht' ht ht'
  rw [mul_nn hu0.1 (by omega) hu0.1 (by omega), mul_nn hu0.1 (by omega) ht (by omega), mul_nn ht (by omega) ht (by omega)]
  have c1 := pbd (a := u * u / 65536) (A := 65536) (by omega) (by omega) ht ht'
  have c2 := pbd (a := u * t / 65536) (A := 65536) (by omega) (by omega) ht ht'
  have c3 := pbd (a := t * t / 65536) (A := 65536) (by omega) (by omega) ht ht'
  rw [mul_nn (a := u * u / 65536) (by omega) (by omega) ht (by omega), mul_nn (a := u * t / 65536) (by omega) (by omega) ht (by omega), mul_nn (a := t * t / 65536) (by omega) (by omega) ht (by omega)]
  generalize u * u / 65536 * t = X at *
  generalize u * t / 65536 * t = Y at *
  generalize t * t / 65536 * t = Z at *
  have d1 := pbd (a := 3 * (X / 65536)) (A := 196608) (by omega) (by omega) ha ha'
  have d2 := pbd (a := 3 * (Y / 65536)) (A := 196608) (by omega) (by omega) hb hb'
  rw [mul_nn (a := 3 * (X / 65536)) (by omega) (by omega) ha (by omega), mul_nn (a := 3 * (Y / 65536)) (by omega) (by omega) hb (by omega)]
  generalize 3 * (X / 65536) * a = X' at *
  generalize 3 * (Y / 65536) * b = Y' at *
  unfold add
  rw [hd_of (a := X' / 65536) (by omega) (by omega), hd_of (a := Y' / 65536) (by omega) (by omega), hd_of (a := X' / 65536 + Y' / 65536) (by omega) (by omega), hd_of (a := X' / 65536 + Y' / 65536) (by omega) (by omega), hd_of (a := Z / 65536) (by omega) (by omega)]
  exact hd_of (by omega) (by omega)
/-- Halving finds where a curve passes a height. -/
theorem halve_spec (g : Int → Int) (x : Int) : ∀ n lo hi, hi - lo = 2 ^ n → g lo ≤ x → (x < g hi ∨ x < hi) → 0 ≤ lo → hi ≤ 65536 →
    g (halve n g x lo hi) ≤ x ∧ (x < g (halve n g x lo hi + 1) ∨ x < halve n g x lo hi + 1) ∧ 0 ≤ halve n g x lo hi ∧ halve n g x lo hi + 1 ≤ 65536 := by
  intro n
  induction n with
  | zero => intro lo hi h h1 h2 h3 h4; simp only [Int.pow_zero] at h; simp only [halve]; rw [show lo + 1 = hi by omega]; exact ⟨h1, h2, h3, by omega⟩
  | succ n ih =>
    intro lo hi h h1 h2 h3 h4
    have hp : (0 : Int) < 2 ^ n := Int.pow_pos (by decide)
    rw [Int.pow_succ] at h
    simp only [halve]
    split
    · rename_i hc; exact ih _ _ (by omega) hc h2 (by omega) h4
    · exact ih _ _ (by omega) h1 (.inl (by omega)) h3 (by omega)
theorem halve_in (g : Int → Int) (x : Int) : ∀ n lo hi, lo ≤ hi → lo ≤ halve n g x lo hi ∧ halve n g x lo hi ≤ hi := by
  intro n
  induction n with
  | zero => intro lo hi h; exact ⟨Int.le_refl _, h⟩
  | succ n ih =>
    intro lo hi h
    simp only [halve]
    split
    · have := ih ((lo + hi) / 2) hi (by omega); omega
    · have := ih lo ((lo + hi) / 2) (by omega); omega
theorem halve_mono (g : Int → Int) {a b : Int} (h : a ≤ b) : ∀ n lo hi, lo ≤ hi → halve n g a lo hi ≤ halve n g b lo hi := by
  intro n
  induction n with
  | zero => intro lo hi _; exact Int.le_refl _
  | succ n ih =>
    intro lo hi hl
    simp only [halve]
    by_cases h1 : g ((lo + hi) / 2) ≤ a
    · rw [if_pos h1, if_pos (by omega)]; exact ih _ _ (by omega)
    · rw [if_neg h1]
      split
      · have h2 := halve_in g a n lo ((lo + hi) / 2) (by omega)
        have h3 := halve_in g b n ((lo + hi) / 2) hi (by omega)
        omega
      · exact ih _ _ (by omega)
end Go.Proofs.Ytejnbjclcdmopaa.MB
