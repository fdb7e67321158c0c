/- Lines are measured, and parts of them told, by arc as by the document. Plain Lean over what the functions compute. Conditions: those stated. -/
import Derived.Test.YtojigbcgmneiiaaQbS
set_option linter.unusedVariables false
set_option linter.unusedSimpArgs false
namespace Go.Proofs.Ytojigbcgmneiiaa.H
open Go Go.VM
set_option maxRecDepth 100000
theorem root_loop (a : Int) : ∀ (n m x : Nat), n ≤ 32 → n < m → x % 2 ^ n = 0 → x + 2 ^ n ≤ 4294967296 →
    ∃ r : Nat, L86_0 m a (x : Int) (((2 ^ n / 2 : Nat) : Int)) = some (.e0 (r : Int)) ∧ L79_0 m a (x : Int) (((2 ^ n / 2 : Nat) : Int)) = some (.e0 (r : Int)) ∧ r < 4294967296
  | _, 0, x, _, hm, _, _ => by omega
  | 0, m + 1, x, _, _, _, hx => ⟨x, by rw [L86_0, if_neg (by decide)], by rw [L79_0, if_neg (by decide)], by omega⟩
  | n + 1, m + 1, x, hn, hm, hz, hx => by
    have hp : 0 < 2 ^ n := Nat.two_pow_pos n
    have hq : 2 ^ n ≤ 2 ^ 31 := Nat.pow_le_pow_right (by decide) (by omega)
    have e : 2 ^ (n + 1) / 2 = 2 ^ n := by rw [Nat.pow_succ]; omega
    have e0 : 2 ^ (n + 1) = 2 * 2 ^ n := by rw [Nat.pow_succ]; omega
    rw [e]
    obtain ⟨o1, _, _, _⟩ := or_nat x (2 ^ n) (by omega) (by omega)
    have hor : x ||| 2 ^ n = x + 2 ^ n := by
      obtain ⟨k, hk⟩ := Nat.dvd_of_mod_eq_zero hz
      rw [hk]
      exact (Nat.two_pow_add_eq_or_of_lt (show 2 ^ n < 2 ^ (n + 1) by omega) k).symm
    rw [hor] at o1
    have o2 : IntKind.wrap IntKind.u64 ((x : Int) + ((2 ^ n : Nat) : Int)) = ((x + 2 ^ n : Nat) : Int) := by rw [u64id (by omega) (by omega)]; omega
    have e2 : Int.fdiv (((2 ^ n : Nat) : Int)) 2 = ((2 ^ n / 2 : Nat) : Int) := by rw [fd (by omega)]; omega
    have e3 : IntKind.wrap IntKind.u64 (Int.tdiv (((2 ^ n : Nat) : Int)) 2) = ((2 ^ n / 2 : Nat) : Int) := by
      rw [Int.tdiv_eq_ediv_of_nonneg (by omega), u64id (by omega) (by omega)]; omega
    have hz' : x % 2 ^ n = 0 := Nat.mod_eq_zero_of_dvd (Nat.dvd_trans ⟨2, by omega⟩ (Nat.dvd_of_mod_eq_zero hz))
    have hz2 : (x + 2 ^ n) % 2 ^ n = 0 := by rw [Nat.add_mod_right]; exact hz'
    have i1 := root_loop a n m (x + 2 ^ n) (by omega) (by omega) hz2 (by omega)
    have i2 := root_loop a n m x (by omega) (by omega) hz' (by omega)
    have hpos : ((2 ^ n : Nat) : Int) > 0 := by omega
    rw [L86_0, L79_0, if_pos hpos, if_pos hpos, o1, o2, e2, e3]
    by_cases h : IntKind.wrap IntKind.u64 (((x + 2 ^ n : Nat) : Int) * ((x + 2 ^ n : Nat) : Int)) ≤ a
    · rw [if_pos h, if_pos h]; exact i1
    · rw [if_neg h, if_neg h]; exact i2
theorem hyp2 (x y : Int) : ∃ h, F76 x y = some (.a0 h) ∧ F59 x y = some (.a0 h) ∧ 0 ≤ h ∧ h < 4294967296 := by
  have hx := cl_bd x (-1073741824) 1073741824 (by decide)
  have hy := cl_bd y (-1073741824) 1073741824 (by decide)
  unfold F76 F59
  simp only [bnd_def, F90_eq, F101_eq]
  generalize cl x (-1073741824) 1073741824 = u at *
  generalize cl y (-1073741824) 1073741824 = v at *
  have sqb : ∀ u : Int, -1073741824 ≤ u ∧ u ≤ 1073741824 → 0 ≤ u * u ∧ u * u ≤ 1152921504606846976 := fun u h => by
    have h1 : 0 ≤ (1073741824 - u) * (1073741824 + u) := Int.mul_nonneg (by omega) (by omega)
    have h2 : 0 ≤ u * u := by
      by_cases h : 0 ≤ u
      · exact Int.mul_nonneg h h
      · have := Int.mul_nonneg (show 0 ≤ -u by omega) (show 0 ≤ -u by omega)
        rw [Int.neg_mul_neg] at this; exact this
    simp only [Int.sub_mul, Int.mul_add] at h1
    exact ⟨h2, by omega⟩
  obtain ⟨u1, u2⟩ := sqb u hx
  obtain ⟨v1, v2⟩ := sqb v hy
  rw [w64_in (n := u * u) (by omega) (by omega), w64_in (n := v * v) (by omega) (by omega), w64_in (n := u * u + v * v) (by omega) (by omega), u64id (x := u * u) (by omega) (by omega), u64id (x := v * v) (by omega) (by omega), u64id (by omega) (by omega)]
  obtain ⟨r, r1, r2, r3⟩ := root_loop (u * u + v * v) 32 18446744073709551616 0 (by decide) (by decide) (by decide) (by decide)
  have k1 : F86 (u * u + v * v) = some (.a0 (r : Int)) := by
    unfold F86
    rw [show (0 : Int) = ((0 : Nat) : Int) by rfl, show (2147483648 : Int) = ((2 ^ 32 / 2 : Nat) : Int) by decide, r1, Option.bind_some]
    simp only []
    rw [w64_in (by omega) (by omega)]
  have k2 : F79 (u * u + v * v) = some (.a0 (r : Int)) := by
    unfold F79
    rw [show (0 : Int) = ((0 : Nat) : Int) by rfl, show (2147483648 : Int) = ((2 ^ 32 / 2 : Nat) : Int) by decide, r2, Option.bind_some]
  rw [k1, k2]
  simp only [Option.bind_some, F57_eq]
  rw [hd_of (by omega) (by omega), w64_in (by omega) (by omega)]
  exact ⟨_, rfl, rfl, by omega, by omega⟩
def pl (x : Int) : Int := cl x (-536870912) 536870912
def Near (x : Int) : Prop := -536870912 ≤ x ∧ x ≤ 536870912
theorem pl_bd (x : Int) : Near (pl x) := cl_bd _ _ _ (by decide)
theorem F71_eq (x y : Int) : F75 x y = some (.a0 (pl x) (pl y)) := rfl
theorem F73_eq (x y : Int) : F58 x y = some (.a0 (pl x) (pl y)) := rfl
def ns (c : Bool) (l : List W43) : Nat := if c = true ∧ 2 ≤ l.length then l.length else l.length - 1
theorem ns_le (c : Bool) (l : List W43) : ns c l ≤ l.length := by unfold ns; split <;> omega
theorem sidesA (c : Bool) (l : List W43) (hL : l.length ≤ 8796093022207) : F53 c (Rw l) = (ns c l : Int) := by
  have hlen : (Rw l).length = l.length := by simp
  have h1 : (if w64 ((l.length : Int) - 1) > 0 then w64 ((l.length : Int) - 1) else 0) = ((l.length - 1 : Nat) : Int) := by
    rw [w64_in (by omega) (by omega)]; split <;> omega
  unfold F53 ns
  rw [hlen, h1]
  cases c
  · rw [if_neg (by decide), if_neg (by simp)]
  · rw [if_pos rfl]
    by_cases h : 2 ≤ l.length
    · rw [if_pos (by omega), if_pos ⟨rfl, h⟩]
    · rw [if_neg (by omega), if_neg (fun h' => h h'.2)]
theorem sidesB (c : Bool) (l : List W43) (hL : l.length ≤ 8796093022207) : F21 c (Rw l) = (ns c l : Int) := by
  have hlen : (Rw l).length = l.length := by simp
  unfold F21 ns
  rw [hlen]
  by_cases h : 2 ≤ l.length
  · rw [if_neg (by omega)]
    cases c
    · rw [if_neg (by decide), if_neg (by simp), w64_in (by omega) (by omega)]; omega
    · rw [if_pos rfl, if_pos ⟨rfl, h⟩]
  · rw [if_pos (by omega), if_neg (fun h' => h h'.2)]; omega
theorem next_eq (i L : Nat) (hi : i < L) (hL : L ≤ 8796093022207) : Int.tmod (w64 ((i : Int) + 1)) (L : Int) = (((i + 1) % L : Nat) : Int) := by
  rw [w64_in (by omega) (by omega), Int.tmod_eq_emod_of_nonneg (by omega), Int.natCast_emod]; rfl
theorem side2 (c : Bool) {l : List W43} (hL : l.length ≤ 8796093022207) {i : Nat} (hi : i < l.length) :
    ∃ p q r s h, F54 c (Rw l) i = some (.a0 p q r s h) ∧ F34 c (Rw l) i = some (.a0 p q r s) ∧ F36 p q r s = some (.a0 h) ∧ (Near p ∧ Near q ∧ Near r ∧ Near s) ∧ 0 ≤ h ∧ h < 4294967296 := by
  have hm : (i + 1) % l.length < l.length := Nat.mod_lt _ (by omega)
  have hlen : (Rw l).length = l.length := by simp
  have g0 : (0 : Int) ≤ (i : Int) := by omega
  have g1 : (0 : Int) ≤ (((i + 1) % l.length : Nat) : Int) := by omega
  have g2 : ¬ (l.length : Int) = 0 := by omega
  have t0 : Int.toNat (i : Int) = i := by omega
  have t1 : Int.toNat (((i + 1) % l.length : Nat) : Int) = (i + 1) % l.length := by omega
  unfold F54 F34
  simp only [hlen, next_eq i _ hi hL, if_pos g0, if_pos g1, if_neg g2, t0, t1, rw_get, List.getElem?_eq_getElem hi, List.getElem?_eq_getElem hm, Option.bind_some, F71_eq, F73_eq]
  obtain ⟨h, e1, e2, b1, b2⟩ := hyp2 (w64 (pl (l[(i + 1) % l.length]).c0 - pl (l[i]).c0)) (w64 (pl (l[(i + 1) % l.length]).c1 - pl (l[i]).c1))
  refine ⟨_, _, _, _, h, by rw [e1]; rfl, rfl, ?_, ⟨pl_bd _, pl_bd _, pl_bd _, pl_bd _⟩, b1, b2⟩
  unfold F36
  rw [e2]; rfl
theorem wsucc {i : Nat} (h : i < 9000000000000) : w64 ((i : Int) + 1) = ((i + 1 : Nat) : Int) := by rw [w64_in (by omega) (by omega)]; omega
/-! ### A place on a side -/
theorem hd_hd (a : Int) : hd (hd a) = hd a := hd_of (hd_bd a).1 (hd_bd a).2
theorem mid_one {a b : Int} (ha : Near a) (hb : Near b) : add (hd a) (mul (add b (w64 (0 - hd a))) 65536) = b := by
  unfold Near at ha hb
  rw [hd_of (a := a) (by omega) (by omega), w64_in (by omega) (by omega)]
  have e1 : add b (0 - a) = b - a := by unfold add; rw [hd_of (a := b) (by omega) (by omega), hd_of (a := 0 - a) (by omega) (by omega), hd_of (by omega) (by omega)]; omega
  rw [e1]
  have e2 : mul (b - a) 65536 = b - a := by
    unfold mul
    rw [hd_of (a := b - a) (by omega) (by omega), hd_of (a := 65536) (by decide) (by decide), Int.mul_ediv_cancel _ (by decide), hd_of (by omega) (by omega)]
  rw [e2]
  unfold add
  rw [hd_of (a := a) (by omega) (by omega), hd_of (a := b - a) (by omega) (by omega), hd_of (by omega) (by omega)]; omega
theorem quo_bd {D L : Int} (hD : 0 ≤ D) (hL : D ≤ L) (h0 : 0 < L) : 0 ≤ D * 65536 / L ∧ D * 65536 / L ≤ 65536 := by
  refine ⟨Int.ediv_nonneg (by omega) (by omega), ?_⟩
  have : D * 65536 / L ≤ L * 65536 / L := Int.ediv_le_ediv h0 (by omega)
  rw [Int.mul_ediv_cancel_left _ (by omega)] at this; exact this
theorem div_ref {D l : Int} (hD : 0 ≤ D ∧ D ≤ 1099511627776) (hl : 0 < hd l) : F68 D l = some (.a0 (hd (D * 65536 / hd l))) := by
  have hb := hd_bd l
  unfold F68
  simp only [bnd_def, F74_eq, hd_of (a := D) (by omega) (by omega), F95_eq D (by omega), F95_eq (hd l) hb, Option.bind_some]
  have c1 : ¬ D < 0 := by omega
  have c2 : ¬ hd l < 0 := by omega
  rw [if_neg c1, if_neg c2, decide_eq_false c1, decide_eq_false c2, if_neg (by rw [beq_iff_eq]; omega), F96_eq _ _ (by omega) (by omega)]
  simp only [Option.bind_some]
  rw [show D * 65536 / 18446744073709551616 = 0 by omega, show D * 65536 % 18446744073709551616 = D * 65536 by omega, show (!false == false) = false by decide, F97_pos _ _ (by omega) hl (by omega)]
  rfl
theorem div_arc {d l : Int} (hd0 : 0 < d) (hl : d < l) : F60 d l = some (.a0 (hd (hd d * 65536 / hd l))) ∧ 0 < hd l ∧ 0 < hd d ∧ hd d ≤ hd l := by
  have b1 := hd_bd d
  have b2 := hd_bd l
  have o1 : 0 < hd d := by unfold hd cl; split <;> (try split) <;> omega
  have o2 : 0 < hd l := by unfold hd cl; split <;> (try split) <;> omega
  have o3 : hd d ≤ hd l := by unfold hd cl; split <;> (try split) <;> (try split) <;> (try split) <;> omega
  refine ⟨?_, o2, o1, o3⟩
  unfold F60
  simp only [bnd_def, F57_eq]
  generalize hd d = D at *
  generalize hd l = L at *
  have q := quo_bd (show 0 ≤ D by omega) o3 o2
  have c1 : ¬ D * 65536 < 0 := by omega
  have c2 : ¬ L < 0 := by omega
  rw [if_neg (by rw [beq_iff_eq]; omega), if_neg (by omega), w64_in (n := D * 65536) (by omega) (by omega), Int.tdiv_eq_ediv_of_nonneg (by omega), w64_in (n := D * 65536 / L) (by omega) (by omega), decide_eq_false c1, decide_eq_false c2]
  by_cases h : (Int.tmod (D * 65536) L != 0) = true
  · rw [if_pos h, if_neg (by decide)]
  · rw [if_neg h]
end Go.Proofs.Ytojigbcgmneiiaa.H
