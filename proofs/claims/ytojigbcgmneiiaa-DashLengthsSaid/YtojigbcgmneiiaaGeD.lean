/- How long a part of a line is, but for rounding. Plain Lean over what the functions compute. Conditions: those stated (small places, few of them). -/
import Derived.Test.YtojigbcgmneiiaaPpD
set_option linter.unusedVariables false
set_option linter.unusedSimpArgs false
namespace Go.Proofs.Ytojigbcgmneiiaa.H
open Go Go.VM
set_option maxRecDepth 100000
theorem lag (a b c d : Int) : (a*a+b*b)*(c*c+d*d) = (a*c+b*d)*(a*c+b*d) + (a*d-c*b)*(a*d-c*b) := by grind
theorem sq_nn (a : Int) : 0 ≤ a * a := by
  rcases Int.le_total 0 a with h | h
  · exact Int.mul_nonneg h h
  · have := Int.mul_nonneg (show 0 ≤ -a by omega) (show 0 ≤ -a by omega)
    rw [Int.neg_mul_neg] at this; exact this
theorem le_of_sq {a b : Int} (hb : 0 ≤ b) (h : a * a ≤ b * b) : a ≤ b := by
  refine Classical.byContradiction fun hn => ?_
  have h1 : 0 < a - b := by omega
  have h2 : 0 < a + b := by omega
  have := Int.mul_pos h1 h2
  have e : (a - b) * (a + b) = a * a - b * b := by grind
  omega
/-- Two ways, one behind the other, are no longer than both. -/
theorem mink {x1 y1 x2 y2 A B : Int} (hA : 0 ≤ A) (hB : 0 ≤ B) (h1 : x1*x1+y1*y1 ≤ A*A) (h2 : x2*x2+y2*y2 ≤ B*B) : (x1+x2)*(x1+x2) + (y1+y2)*(y1+y2) ≤ (A+B)*(A+B) := by
  have hd : (x1*x2+y1*y2)*(x1*x2+y1*y2) ≤ (A*B)*(A*B) := by
    have e := lag x1 y1 x2 y2
    have s := sq_nn (x1*y2-x2*y1)
    have m : (x1*x1+y1*y1)*(x2*x2+y2*y2) ≤ (A*A)*(B*B) := Int.mul_le_mul h1 h2 (by have := sq_nn x2; have := sq_nn y2; omega) (sq_nn A)
    have e2 : (A*A)*(B*B) = (A*B)*(A*B) := by grind
    omega
  have hdd := le_of_sq (Int.mul_nonneg hA hB) hd
  have e1 : (x1+x2)*(x1+x2) + (y1+y2)*(y1+y2) = (x1*x1+y1*y1) + (x2*x2+y2*y2) + 2*(x1*x2+y1*y2) := by grind
  have e2 : (A+B)*(A+B) = A*A + B*B + 2*(A*B) := by grind
  omega
theorem root_exact (a : Nat) : ∀ (n m x : Nat), n ≤ 32 → n < m → x % 2 ^ n = 0 → x + 2 ^ n ≤ 4294967296 → x * x ≤ a → a < (x + 2 ^ n) * (x + 2 ^ n) →
    ∃ r : Nat, L86_0 m (a : Int) (x : Int) (((2 ^ n / 2 : Nat) : Int)) = some (.e0 (r : Int)) ∧ r * r ≤ a ∧ a < (r + 1) * (r + 1) ∧ r < 4294967296
  | _, 0, x, _, hm, _, _, _, _ => by omega
  | 0, m + 1, x, _, _, _, hx, h1, h2 => ⟨x, by rw [L86_0, if_neg (by decide)], h1, h2, by omega⟩
  | n + 1, m + 1, x, hn, hm, hz, hx, h1, h2 => by
    have hp : 0 < 2 ^ n := Nat.two_pow_pos n
    have hq : 2 ^ n ≤ 2 ^ 31 := Nat.pow_le_pow_right (by decide) (by omega)
    have e : 2 ^ (n + 1) / 2 = 2 ^ n := by rw [Nat.pow_succ]; omega
    have e0 : 2 ^ (n + 1) = 2 * 2 ^ n := by rw [Nat.pow_succ]; omega
    rw [e]
    obtain ⟨o1, _, _, _⟩ := or_nat x (2 ^ n) (by omega) (by omega)
    have hor : x ||| 2 ^ n = x + 2 ^ n := by
      obtain ⟨k, hk⟩ := Nat.dvd_of_mod_eq_zero hz
      rw [hk]
      exact (Nat.two_pow_add_eq_or_of_lt (show 2 ^ n < 2 ^ (n + 1) by omega) k).symm
    rw [hor] at o1
    have e2 : Int.fdiv (((2 ^ n : Nat) : Int)) 2 = ((2 ^ n / 2 : Nat) : Int) := by rw [fd (by omega)]; omega
    have hz' : x % 2 ^ n = 0 := Nat.mod_eq_zero_of_dvd (Nat.dvd_trans ⟨2, by omega⟩ (Nat.dvd_of_mod_eq_zero hz))
    have hz2 : (x + 2 ^ n) % 2 ^ n = 0 := by rw [Nat.add_mod_right]; exact hz'
    have hpos : ((2 ^ n : Nat) : Int) > 0 := by omega
    have hlt : (x + 2 ^ n) * (x + 2 ^ n) < 18446744073709551616 := by
      have : x + 2 ^ n ≤ 4294967295 := by omega
      have := Nat.mul_le_mul this this
      omega
    have hw : IntKind.wrap IntKind.u64 (((x + 2 ^ n : Nat) : Int) * ((x + 2 ^ n : Nat) : Int)) = (((x + 2 ^ n) * (x + 2 ^ n) : Nat) : Int) := by
      rw [← Int.natCast_mul, u64id (by omega) (by omega)]
    rw [L86_0, if_pos hpos, o1, e2, hw]
    have hs : x + 2 ^ (n + 1) = x + 2 ^ n + 2 ^ n := by omega
    by_cases h : (((x + 2 ^ n) * (x + 2 ^ n) : Nat) : Int) ≤ (a : Int)
    · rw [if_pos h]
      exact root_exact a n m (x + 2 ^ n) (by omega) (by omega) hz2 (by omega) (by omega) (by rw [← hs]; exact h2)
    · rw [if_neg h]
      exact root_exact a n m x (by omega) (by omega) hz' (by omega) h1 (by omega)
theorem hyp_exact {x y : Int} (hx : -1073741824 ≤ x ∧ x ≤ 1073741824) (hy : -1073741824 ≤ y ∧ y ≤ 1073741824) : hypv x y * hypv x y ≤ x * x + y * y ∧ x * x + y * y < (hypv x y + 1) * (hypv x y + 1) := by
  have e := F89_eq x y
  unfold F76 at e
  simp only [bnd_def, F90_eq] at e
  rw [cl_of hx.1 hx.2, cl_of hy.1 hy.2] at e
  have sqb : ∀ u : Int, -1073741824 ≤ u ∧ u ≤ 1073741824 → 0 ≤ u * u ∧ u * u ≤ 1152921504606846976 := fun u h => by
    have h1 : 0 ≤ (1073741824 - u) * (1073741824 + u) := Int.mul_nonneg (by omega) (by omega)
    have h2 := sq_nn u
    have e : (1073741824 - u) * (1073741824 + u) = 1152921504606846976 - u * u := by grind
    omega
  obtain ⟨u1, u2⟩ := sqb x hx
  obtain ⟨v1, v2⟩ := sqb y hy
  rw [w64_in (n := x * x) (by omega) (by omega), w64_in (n := y * y) (by omega) (by omega), w64_in (n := x * x + y * y) (by omega) (by omega), u64id (by omega) (by omega)] at e
  generalize hs : x * x + y * y = s at *
  obtain ⟨r, r1, r2, r3, r4⟩ := root_exact s.toNat 32 18446744073709551616 0 (by decide) (by decide) (by decide) (by decide) (by omega) (by omega)
  have hsn : ((s.toNat : Nat) : Int) = s := by omega
  rw [hsn] at r1
  have r1' : L86_0 18446744073709551616 s 0 2147483648 = some (.e0 (r : Int)) := r1
  have k : F86 s = some (.a0 (r : Int)) := by
    unfold F86
    rw [r1', Option.bind_some]
    simp only []
    rw [w64_in (by omega) (by omega)]
  rw [k, Option.bind_some] at e
  simp only [F57_eq] at e
  rw [hd_of (by omega) (by omega)] at e
  have e' : (r : Int) = hypv x y := by simpa using e
  rw [← e']
  have q1 : (r : Int) * (r : Int) = ((r * r : Nat) : Int) := by rw [Int.natCast_mul]
  have q2 : ((r : Int) + 1) * ((r : Int) + 1) = (((r + 1) * (r + 1) : Nat) : Int) := by rw [Int.natCast_mul]; rfl
  rw [q1, q2]
  omega
/-! ### A place on a side -/
theorem mid_val {a b t : Int} (ha : -2097152 ≤ a ∧ a ≤ 2097152) (hb : -2097152 ≤ b ∧ b ≤ 2097152) (ht : 0 ≤ t ∧ t ≤ 65536) : F77 a b t = some (.a0 (a + (b - a) * t / 65536)) ∧
    (-4194304 ≤ (b - a) * t / 65536 ∧ (b - a) * t / 65536 ≤ 4194304) := by
  have p1 : 0 ≤ (4194304 - (b - a)) * t := Int.mul_nonneg (by omega) ht.1
  have p2 : 0 ≤ (4194304 + (b - a)) * t := Int.mul_nonneg (by omega) ht.1
  have q1 : (4194304 - (b - a)) * t = 4194304 * t - (b - a) * t := by grind
  have q2 : (4194304 + (b - a)) * t = 4194304 * t + (b - a) * t := by grind
  refine ⟨?_, by omega⟩
  rw [(mid2 a b t ht).1, hd_of (a := a) (by omega) (by omega), w64_in (by omega) (by omega)]
  have e1 : add b (0 - a) = b - a := by unfold add; rw [hd_of (a := b) (by omega) (by omega), hd_of (a := 0 - a) (by omega) (by omega), hd_of (by omega) (by omega)]; omega
  rw [e1]
  have e2 : mul (b - a) t = (b - a) * t / 65536 := by
    unfold mul
    rw [hd_of (a := b - a) (by omega) (by omega), hd_of (a := t) (by omega) (by omega), hd_of (by omega) (by omega)]
  rw [e2]
  unfold add
  rw [hd_of (a := a) (by omega) (by omega), hd_of (a := (b - a) * t / 65536) (by omega) (by omega), hd_of (by omega) (by omega)]
theorem onq {a b : W43} (ha : okp a) (hb : okp b) {d L : Int} (hL : 0 < L) (hL2 : L ≤ 1099511627776) (hd0 : 0 ≤ d) (hdL : d ≤ L) : ∃ t : Int, 0 ≤ t ∧ t ≤ 65536 ∧ t * L ≤ d * 65536 ∧ d * 65536 < (t + 1) * L ∧
    (onp a b d L).c0 = a.c0 + (b.c0 - a.c0) * t / 65536 ∧ (onp a b d L).c1 = a.c1 + (b.c1 - a.c1) * t / 65536 := by
  by_cases h1 : d = 0
  · subst h1
    refine ⟨0, by omega, by omega, by omega, by omega, ?_, ?_⟩ <;> rw [onp_a ha hb (by omega)] <;> simp
  · by_cases h2 : d = L
    · subst h2
      refine ⟨65536, by omega, by omega, by omega, by omega, ?_, ?_⟩ <;> rw [onp_b ha hb (by omega) (by omega), Int.mul_ediv_cancel _ (by decide)] <;> omega
    · obtain ⟨e1, _, _, _⟩ := div_arc (show 0 < d by omega) (show d < L by omega)
      rw [hd_of (a := d) (by omega) (by omega), hd_of (a := L) (by omega) (by omega)] at e1
      have q := quo_bd (show 0 ≤ d by omega) (show d ≤ L by omega) hL
      rw [hd_of (a := d * 65536 / L) (by omega) (by omega)] at e1
      generalize ht : d * 65536 / L = t at *
      have m1 : t * L ≤ d * 65536 := by rw [← ht]; exact Int.ediv_mul_le _ (by omega)
      have m2 : d * 65536 < (t + 1) * L := by rw [← ht]; exact Int.lt_ediv_add_one_mul_self _ hL
      have ho := onp_eq a b d L
      unfold okp at ha hb
      unfold F57 at ho
      rw [place_eq ha, Option.bind_some] at ho
      simp only [] at ho
      rw [place_eq hb, Option.bind_some] at ho
      simp only [] at ho
      rw [if_neg (by omega), if_neg (by omega), e1, Option.bind_some] at ho
      simp only [] at ho
      rw [(mid_val (a := a.c0) (b := b.c0) (by omega) (by omega) q).1, Option.bind_some] at ho
      simp only [] at ho
      rw [(mid_val (a := a.c1) (b := b.c1) (by omega) (by omega) q).1, Option.bind_some] at ho
      simp only [Option.some.injEq, A57.a0.injEq] at ho
      exact ⟨t, q.1, q.2, m1, m2, ho.1.symm, ho.2.symm⟩
/-- Between the ends lies what is between. -/
theorem frac_bd (D t : Int) (ht : 0 ≤ t ∧ t ≤ 65536) : (0 ≤ D → 0 ≤ D * t / 65536 ∧ D * t / 65536 ≤ D) ∧ (D ≤ 0 → D ≤ D * t / 65536 ∧ D * t / 65536 ≤ 0) := by
  constructor
  · intro h
    have p1 : 0 ≤ D * t := Int.mul_nonneg h ht.1
    have p2 : 0 ≤ D * (65536 - t) := Int.mul_nonneg h (by omega)
    have e : D * (65536 - t) = D * 65536 - D * t := by grind
    omega
  · intro h
    have p1 : 0 ≤ (-D) * t := Int.mul_nonneg (by omega) ht.1
    have p2 : 0 ≤ (-D) * (65536 - t) := Int.mul_nonneg (by omega) (by omega)
    have e1 : (-D) * t = -(D * t) := by grind
    have e : (-D) * (65536 - t) = D * t - D * 65536 := by grind
    omega
theorem onp_ok {a b : W43} (ha : okp a) (hb : okp b) {L : Int} (hL : 0 < L) (hL2 : L ≤ 1099511627776) (d : Int) : okp (onp a b d L) := by
  by_cases h1 : d ≤ 0
  · rw [onp_a ha hb h1]; exact ha
  · by_cases h2 : L ≤ d
    · rw [onp_b ha hb (by omega) h2]; exact hb
    · obtain ⟨t, t1, t2, _, _, e1, e2⟩ := onq ha hb hL hL2 (show 0 ≤ d by omega) (show d ≤ L by omega)
      have f1 := frac_bd (b.c0 - a.c0) t ⟨t1, t2⟩
      have f2 := frac_bd (b.c1 - a.c1) t ⟨t1, t2⟩
      unfold okp at *
      rw [e1, e2]
      generalize (b.c0 - a.c0) * t / 65536 = u at *
      generalize (b.c1 - a.c1) * t / 65536 = v at *
      rcases Int.le_total 0 (b.c0 - a.c0) with g | g
      · have := f1.1 g
        rcases Int.le_total 0 (b.c1 - a.c1) with g' | g'
        · have := f2.1 g'; omega
        · have := f2.2 g'; omega
      · have := f1.2 g
        rcases Int.le_total 0 (b.c1 - a.c1) with g' | g'
        · have := f2.1 g'; omega
        · have := f2.2 g'; omega
theorem dist_exact {a b : W43} (ha : okp a) (hb : okp b) : dist a b * dist a b ≤ (b.c0 - a.c0) * (b.c0 - a.c0) + (b.c1 - a.c1) * (b.c1 - a.c1) ∧ (b.c0 - a.c0) * (b.c0 - a.c0) + (b.c1 - a.c1) * (b.c1 - a.c1) < (dist a b + 1) * (dist a b + 1) := by
  unfold okp at ha hb
  exact hyp_exact (by omega) (by omega)
theorem dist_small {a b : W43} (ha : okp a) (hb : okp b) : dist a b ≤ 3407872 := by
  have h := (dist_exact ha hb).1
  have h0 := dist_bd a b
  unfold okp at ha hb
  refine le_of_sq (by omega) (Int.le_trans h ?_)
  have s1 : ∀ u : Int, -1703936 ≤ u ∧ u ≤ 1703936 → u * u ≤ 1703936 * 1703936 := fun u hu => by
    have h1 : 0 ≤ (1703936 - u) * (1703936 + u) := Int.mul_nonneg (by omega) (by omega)
    have e : (1703936 - u) * (1703936 + u) = 1703936 * 1703936 - u * u := by grind
    omega
  have a1 := s1 (b.c0 - a.c0) (by omega)
  have a2 := s1 (b.c1 - a.c1) (by omega)
  omega
/-- How far two places of a side are from each other, at most. -/
theorem far_up {a b p q : W43} (ha : okp a) (hb : okp b) (hp : okp p) (hq : okp q) {t1 t2 : Int} (h1 : 0 ≤ t1) (h12 : t1 ≤ t2) (h2 : t2 ≤ 65536)
    (ep0 : p.c0 = a.c0 + (b.c0 - a.c0) * t1 / 65536) (ep1 : p.c1 = a.c1 + (b.c1 - a.c1) * t1 / 65536) (eq0 : q.c0 = a.c0 + (b.c0 - a.c0) * t2 / 65536) (eq1 : q.c1 = a.c1 + (b.c1 - a.c1) * t2 / 65536) :
    65536 * dist p q ≤ (dist a b + 1) * (t2 - t1) + 131072 := by
  have d0 := dist_exact ha hb
  have d1 := dist_exact hp hq
  have b0 := dist_bd a b
  have b1 := dist_bd p q
  generalize hX : b.c0 - a.c0 = X at *
  generalize hY : b.c1 - a.c1 = Y at *
  generalize hL : dist a b = L at *
  generalize hh : dist p q = h at *
  -- what rounding takes
  obtain ⟨e, he, he'⟩ : ∃ e : Int, 65536 * (q.c0 - p.c0) = X * (t2 - t1) + e ∧ (-65536 ≤ e ∧ e ≤ 65536) := ⟨65536 * (q.c0 - p.c0) - X * (t2 - t1), by omega, by
    have : X * (t2 - t1) = X * t2 - X * t1 := by grind
    omega⟩
  obtain ⟨g, hg, hg'⟩ : ∃ g : Int, 65536 * (q.c1 - p.c1) = Y * (t2 - t1) + g ∧ (-65536 ≤ g ∧ g ≤ 65536) := ⟨65536 * (q.c1 - p.c1) - Y * (t2 - t1), by omega, by
    have : Y * (t2 - t1) = Y * t2 - Y * t1 := by grind
    omega⟩
  have s1 : ∀ u : Int, -65536 ≤ u ∧ u ≤ 65536 → u * u ≤ 65536 * 65536 := fun u hu => by
    have h1 : 0 ≤ (65536 - u) * (65536 + u) := Int.mul_nonneg (by omega) (by omega)
    have e : (65536 - u) * (65536 + u) = 65536 * 65536 - u * u := by grind
    omega
  have m := mink (x1 := X * (t2 - t1)) (y1 := Y * (t2 - t1)) (x2 := e) (y2 := g) (A := (L + 1) * (t2 - t1)) (B := 131072) (Int.mul_nonneg (by omega) (by omega)) (by decide) (by
    have e1 : X * (t2 - t1) * (X * (t2 - t1)) + Y * (t2 - t1) * (Y * (t2 - t1)) = (X * X + Y * Y) * ((t2 - t1) * (t2 - t1)) := by grind
    have e2 : (L + 1) * (t2 - t1) * ((L + 1) * (t2 - t1)) = ((L + 1) * (L + 1)) * ((t2 - t1) * (t2 - t1)) := by grind
    rw [e1, e2]
    exact Int.mul_le_mul_of_nonneg_right (by omega) (sq_nn _)) (by have := s1 e he'; have := s1 g hg'; omega)
  rw [← he, ← hg] at m
  refine le_of_sq (by have : 0 ≤ (L + 1) * (t2 - t1) := Int.mul_nonneg (by omega) (by omega); omega) ?_
  have e1 : 65536 * (q.c0 - p.c0) * (65536 * (q.c0 - p.c0)) + 65536 * (q.c1 - p.c1) * (65536 * (q.c1 - p.c1)) = 4294967296 * ((q.c0 - p.c0) * (q.c0 - p.c0) + (q.c1 - p.c1) * (q.c1 - p.c1)) := by grind
  have e2 : 65536 * h * (65536 * h) = 4294967296 * (h * h) := by grind
  omega
/-- Two ways, one behind the other. -/
theorem far_tri {a p b : W43} (ha : okp a) (hp : okp p) (hb : okp b) : dist a b ≤ dist a p + dist p b + 2 := by
  have d0 := dist_exact ha hb
  have d1 := dist_exact ha hp
  have d2 := dist_exact hp hb
  have b1 := dist_bd a p
  have b2 := dist_bd p b
  have m := mink (x1 := p.c0 - a.c0) (y1 := p.c1 - a.c1) (x2 := b.c0 - p.c0) (y2 := b.c1 - p.c1) (A := dist a p + 1) (B := dist p b + 1) (by omega) (by omega) (by omega) (by omega)
  rw [show p.c0 - a.c0 + (b.c0 - p.c0) = b.c0 - a.c0 by omega, show p.c1 - a.c1 + (b.c1 - p.c1) = b.c1 - a.c1 by omega] at m
  have := le_of_sq (a := dist a b) (b := dist a p + 1 + (dist p b + 1)) (by omega) (by omega)
  omega
/-- Two places of a side, by how far along they are. -/
theorem far_on {a b : W43} (ha : okp a) (hb : okp b) (hL : 0 < dist a b) {d1 d2 : Int} (h1 : 0 ≤ d1) (h12 : d1 ≤ d2) (h2 : d2 ≤ dist a b) :
    dist (onp a b d1 (dist a b)) (onp a b d2 (dist a b)) ≤ d2 - d1 + 56 ∧ d2 - d1 - 116 ≤ dist (onp a b d1 (dist a b)) (onp a b d2 (dist a b)) := by
  have hs := dist_small ha hb
  have ok := fun d => onp_ok ha hb hL (by omega) d
  have up : ∀ {x y : Int}, 0 ≤ x → x ≤ y → y ≤ dist a b → dist (onp a b x (dist a b)) (onp a b y (dist a b)) ≤ y - x + 56 := by
    intro x y hx hxy hy
    obtain ⟨t1, s1, s2, s3, s4, s5, s6⟩ := onq ha hb hL (by omega) (d := x) (by omega) (by omega)
    obtain ⟨t2, u1, u2, u3, u4, u5, u6⟩ := onq ha hb hL (by omega) (d := y) (by omega) (by omega)
    have mono : t1 ≤ t2 := by
      refine Classical.byContradiction fun hn => ?_
      have : (t2 + 1) * dist a b ≤ t1 * dist a b := Int.mul_le_mul_of_nonneg_right (by omega) (by omega)
      omega
    have f := far_up ha hb (ok x) (ok y) s1 mono u2 s5 s6 u5 u6
    have e1 : (dist a b + 1) * (t2 - t1) = t2 * dist a b - t1 * dist a b + (t2 - t1) := by grind
    have e2 : (t1 + 1) * dist a b = t1 * dist a b + dist a b := by grind
    omega
  refine ⟨up h1 h12 h2, ?_⟩
  have a0 : onp a b 0 (dist a b) = a := onp_a ha hb (by omega)
  have bL : onp a b (dist a b) (dist a b) = b := onp_b ha hb hL (by omega)
  have r1 := up (x := 0) (y := d1) (by omega) h1 (by omega)
  have r2 := up (x := d2) (y := dist a b) (by omega) h2 (by omega)
  rw [a0] at r1
  rw [bL] at r2
  have t1 := far_tri ha (ok d1) hb
  have t2 := far_tri (ok d1) (ok d2) hb
  omega
end Go.Proofs.Ytojigbcgmneiiaa.H
