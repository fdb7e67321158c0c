/- HueTells in plain Lean: hue's functions and the document's tell the same. No condition beyond those stated. -/
import Derived.Test.YtcomanfboibhiaaQBase
set_option linter.unusedVariables false
set_option linter.unusedSimpArgs false
namespace Go.Proofs.Ytcomanfboibhiaa.H
open Go Go.VM
set_option maxRecDepth 100000
theorem rw_get (ks : List W33) (i : Nat) : ((Rw ks)[i]?).bind W33.dec = ks[i]? := by
  simp only [Rw, List.getElem?_map]
  cases ks[i]? <;> rfl
theorem and_le (x : Int) (m : Nat) (hm : m < 2 ^ 64) : (BitVec.toNat (BitVec.ofInt (IntKind.bits IntKind.i64) x &&& BitVec.ofInt (IntKind.bits IntKind.i64) m)) ≤ m := by
  rw [BitVec.toNat_and]
  refine Nat.le_trans Nat.and_le_right ?_
  show (BitVec.ofInt 64 (m : Int)).toNat ≤ m
  simp
  omega
structure Gd (rs : List W33) : Prop where
  inc : ∀ (i j : Nat) (a b : W33), rs[i]? = some a → rs[j]? = some b → i < j → a.c0 < b.c0
  bd : ∀ (i : Nat) (a : W33), rs[i]? = some a → (-100 ≤ a.c0 ∧ a.c0 ≤ 1000) ∧ (0 ≤ a.c1 ∧ a.c1 ≤ 255) ∧ (0 ≤ a.c2 ∧ a.c2 ≤ 255) ∧ (0 ≤ a.c3 ∧ a.c3 ≤ 255) ∧ (0 ≤ a.c4 ∧ a.c4 ≤ 255)
def Hw (a : W33) : Prop := (a.c5 = 0 ∨ a.c5 = 1) ∧ a.c6 = 0 ∧ a.c7 = 0 ∧ a.c8 = 0 ∧ a.c9 = 0
def Col (a : W33) : Prop := (0 ≤ a.c1 ∧ a.c1 ≤ 255) ∧ (0 ≤ a.c2 ∧ a.c2 ≤ 255) ∧ (0 ≤ a.c3 ∧ a.c3 ≤ 255) ∧ (0 ≤ a.c4 ∧ a.c4 ≤ 255)

theorem get_push {rs : List W33} {k : W33} {i : Nat} {a : W33} (h : (rs ++ [k])[i]? = some a) : (rs[i]? = some a ∧ i < rs.length) ∨ (i = rs.length ∧ a = k) := by
  by_cases hi : i < rs.length
  · rw [List.getElem?_append_left hi] at h; exact .inl ⟨h, hi⟩
  · rw [List.getElem?_append_right (by omega)] at h
    have := (List.getElem?_eq_some_iff.1 h).1
    simp at this
    have hi' : i - rs.length = 0 := by omega
    rw [hi'] at h
    exact .inr ⟨by omega, by simpa using h.symm⟩
theorem gd_push {rs : List W33} {k : W33} {at_ : Int} (h : Gd rs) (hl : ∀ (j : Nat) (a : W33), rs[j]? = some a → a.c0 ≤ at_) (hk : at_ < k.c0) (hb : -100 ≤ k.c0 ∧ k.c0 ≤ 1000) (hc : Col k) : Gd (rs ++ [k]) := by
  constructor
  · intro i j a b ha hb' hij
    rcases get_push ha with ⟨h1, h2⟩ | ⟨h1, h2⟩ <;> rcases get_push hb' with ⟨h3, h4⟩ | ⟨h3, h4⟩
    · exact h.inc i j a b h1 h3 hij
    · subst h4; exact Int.lt_of_le_of_lt (hl _ _ h1) hk
    · omega
    · omega
  · intro i a ha
    rcases get_push ha with ⟨h1, h2⟩ | ⟨h1, h2⟩
    · exact h.bd i a h1
    · subst h2; exact ⟨hb, hc⟩

/-- How a key goes on behind rising: none, straight, or by a curve. -/
def Hw2 (a : W33) : Prop := Hw a ∨ a.c5 = 2
theorem rise_step (at_ : Int) (x : Int) (h : -5 ≤ at_) (h' : at_ ≤ 1000) : ∃ d : Int, (0 ≤ d ∧ d ≤ 7) ∧ w64 (w64 (at_ + 1) + w64 (↑(BitVec.toNat (BitVec.ofInt (IntKind.bits IntKind.i64) x &&& BitVec.ofInt (IntKind.bits IntKind.i64) 7)) : Int)) = at_ + 1 + d := by
  have := and_le x 7 (by omega)
  refine ⟨((BitVec.toNat (BitVec.ofInt (IntKind.bits IntKind.i64) x &&& BitVec.ofInt (IntKind.bits IntKind.i64) 7) : Nat) : Int), ⟨by omega, by exact_mod_cast this⟩, ?_⟩
  have h7 : ((BitVec.toNat (BitVec.ofInt (IntKind.bits IntKind.i64) x &&& BitVec.ofInt (IntKind.bits IntKind.i64) 7) : Nat) : Int) ≤ 7 := by exact_mod_cast this
  rw [w64_in (n := at_ + 1) (by omega) (by omega), w64_in (n := ((BitVec.toNat _ : Nat) : Int)) (by omega) (by omega), w64_in (by omega) (by omega)]

theorem tm3 {c : Int} (h : 0 ≤ c ∧ c ≤ 255) : Int.tmod (w64 c) 3 = 0 ∨ Int.tmod (w64 c) 3 = 1 ∨ Int.tmod (w64 c) 3 = 2 := by
  rw [w64_in (by omega) (by omega), Int.tmod_eq_emod_of_nonneg h.1]
  omega

theorem rise (ks : List W33) (hks : ∀ (i : Nat) (k : W33), ks[i]? = some k → Col k) : ∀ (n i : Nat) (at_ : Int) (rs : List W33), i = rs.length → 0 < i → i ≤ 40 → i ≤ ks.length → Gd rs → (∀ (j : Nat) (a : W33), rs[j]? = some a → a.c0 ≤ at_) → at_ ≤ 8 * i → -5 ≤ at_ →
    (∀ (j : Nat) (a : W33), rs[j]? = some a → Hw2 a) → 42 ≤ n + i →
    ∃ rs' : List W33, (L14_0s1 n (Rw ks) i at_ i (Rw rs) = some (.e1 rs'.length (Rw rs')) ∨ L14_0s1 n (Rw ks) i at_ i (Rw rs) = some (.e2 rs'.length (Rw rs'))) ∧ Gd rs' ∧ (∀ (j : Nat) (a : W33), rs'[j]? = some a → Hw2 a) ∧ 0 < rs'.length ∧ rs'.length ≤ 40
  | 0, i, at_, rs, _, _, h40, _, _, _, _, _, _, hn => by omega
  | n + 1, i, at_, rs, hi, h0, h40, hle, hg, hat, hb, hb', hw, hn => by
    rw [L14_0s1]
    have hlen : (Rw ks).length = ks.length := by simp
    by_cases h1 : i < ks.length
    · rw [if_pos (by rw [hlen]; omega)]
      by_cases h2 : i < 40
      · rw [if_pos (by omega), if_pos (by omega), show Int.toNat (i : Int) = i by omega, rw_get, List.getElem?_eq_getElem h1, Option.bind_some]
        have hc := hks i ks[i] (List.getElem?_eq_getElem h1)
        obtain ⟨d, hd, he⟩ := rise_step at_ ks[i].c0 hb' (by omega)
        rw [he]
        have hrl : (Rw rs).length = rs.length := by simp
        have hck : 0 + i ≤ (Rw rs).length ∧ (i + 1) * 56 ≤ 140737488355328 ∧ i + 1 ≤ 140737488355328 := by rw [hrl]; omega
        have htk : List.take i (Rw rs) = Rw rs := by rw [List.take_of_length_le (by rw [hrl]; omega)]
        have hwi : w64 ((i : Int) + 1) = ((i + 1 : Nat) : Int) := by rw [w64_in (by omega) (by omega)]; omega
        have go : ∀ k : W33, k.c0 = at_ + 1 + d → Col k → Hw2 k → ∃ rs' : List W33, (L14_0s1 n (Rw ks) (i + 1) (at_ + 1 + d) ((i + 1 : Nat) : Int) (Rw rs ++ [k.cells]) = some (.e1 rs'.length (Rw rs')) ∨ L14_0s1 n (Rw ks) (i + 1) (at_ + 1 + d) ((i + 1 : Nat) : Int) (Rw rs ++ [k.cells]) = some (.e2 rs'.length (Rw rs'))) ∧ Gd rs' ∧ (∀ (j : Nat) (a : W33), rs'[j]? = some a → Hw2 a) ∧ 0 < rs'.length ∧ rs'.length ≤ 40 := by
          intro k hk0 hkc hkw
          have e : Rw rs ++ [k.cells] = Rw (rs ++ [k]) := by simp
          rw [e]
          refine rise ks hks n (i + 1) (at_ + 1 + d) (rs ++ [k]) (by simp [hi]) (by omega) (by omega) (by omega) (gd_push hg hat (by omega) (by omega) hkc) ?_ (by omega) (by omega) ?_ (by omega)
          · intro j a ha
            rcases get_push ha with ⟨h1, h2⟩ | ⟨h1, h2⟩
            · have := hat j a h1; omega
            · subst h2; omega
          · intro j a ha
            rcases get_push ha with ⟨h1, h2⟩ | ⟨h1, h2⟩
            · exact hw j a h1
            · subst h2; exact hkw
        by_cases h3 : (Int.tmod (w64 ks[i].c1) 3 != 2) = true
        · rw [if_pos h3, if_pos hck, htk, hwi]
          refine go ⟨at_ + 1 + d, ks[i].c1, ks[i].c2, ks[i].c3, ks[i].c4, Int.tmod (w64 ks[i].c1) 3, 0, 0, 0, 0⟩ rfl hc (.inl ⟨?_, rfl, rfl, rfl, rfl⟩)
          rcases tm3 hc.1 with h | h | h
          · exact .inl h
          · exact .inr h
          · rw [h] at h3; simp at h3
        · rw [if_neg h3, if_pos hck, htk, hwi]
          refine go ⟨at_ + 1 + d, ks[i].c1, ks[i].c2, ks[i].c3, ks[i].c4, Int.tmod (w64 ks[i].c1) 3, _, _, _, _⟩ rfl hc (.inr ?_)
          simpa using h3
      · rw [if_neg (by omega)]
        subst hi
        exact ⟨rs, .inl rfl, hg, hw, h0, h40⟩
    · rw [if_neg (by rw [hlen]; omega)]
      subst hi
      exact ⟨rs, .inr rfl, hg, hw, h0, h40⟩

theorem rising_nil : F14 (Rw []) = some .a0 := by rfl
theorem rising_ok (ks : List W33) (hks : ∀ (i : Nat) (k : W33), ks[i]? = some k → Col k) (h0 : 0 < ks.length) : ∃ rs : List W33, F14 (Rw ks) = some (.a1 rs.length (Rw rs)) ∧ Gd rs ∧ (∀ (j : Nat) (a : W33), rs[j]? = some a → Hw2 a) ∧ 0 < rs.length ∧ rs.length ≤ 40 := by
  unfold F14
  have hlen : (Rw ks).length = ks.length := by simp
  have hc := hks 0 ks[0] (List.getElem?_eq_getElem h0)
  obtain ⟨d, hd, he⟩ := rise_step (-5) ks[0].c0 (by omega) (by omega)
  rw [show (-5 : Int) + 1 + d = -4 + d by omega] at he
  have key : ∀ k : W33, k.c0 = -4 + d → Col k → Hw2 k → ∃ rs' : List W33, (L14_0s1 99999 (Rw ks) 1 (-4 + d) 1 [k.cells] = some (.e1 rs'.length (Rw rs')) ∨ L14_0s1 99999 (Rw ks) 1 (-4 + d) 1 [k.cells] = some (.e2 rs'.length (Rw rs'))) ∧ Gd rs' ∧ (∀ (j : Nat) (a : W33), rs'[j]? = some a → Hw2 a) ∧ 0 < rs'.length ∧ rs'.length ≤ 40 := by
    intro k hk hkc hkw
    have g : Gd ([] ++ [k]) := gd_push (at_ := -5) (rs := []) ⟨fun i j a b h => by simp at h, fun i a h => by simp at h⟩ (fun j a h => by simp at h) (by omega) (by omega) hkc
    exact rise ks hks 99999 1 (-4 + d) [k] rfl (by omega) (by omega) (by omega) g (fun j a ha => by
      rcases get_push (rs := []) ha with ⟨h1, h2⟩ | ⟨h1, h2⟩
      · simp at h1
      · subst h2; omega) (by omega) (by omega) (fun j a ha => by
      rcases get_push (rs := []) ha with ⟨h1, h2⟩ | ⟨h1, h2⟩
      · simp at h1
      · subst h2; exact hkw) (by omega)
  have fin : ∀ (o : Option R14_0), (∃ rs' : List W33, (o = some (.e1 rs'.length (Rw rs')) ∨ o = some (.e2 rs'.length (Rw rs'))) ∧ Gd rs' ∧ (∀ (j : Nat) (a : W33), rs'[j]? = some a → Hw2 a) ∧ 0 < rs'.length ∧ rs'.length ≤ 40) →
      ∃ rs : List W33, (o.bind fun r => match r with | .e0 => some A14.a0 | .e1 k59 l65 => some (A14.a1 k59 l65) | .e2 k70 l75 => some (A14.a1 k70 l75)) = some (.a1 rs.length (Rw rs)) ∧ Gd rs ∧ (∀ (j : Nat) (a : W33), rs[j]? = some a → Hw2 a) ∧ 0 < rs.length ∧ rs.length ≤ 40 := by
    rintro o ⟨rs', h | h, h'⟩ <;> subst h <;> exact ⟨rs', rfl, h'⟩
  apply fin
  rw [show (100000 : Nat) = 99999 + 1 by rfl, L14_0, if_pos (by rw [hlen]; omega), rw_get, List.getElem?_eq_getElem h0, Option.bind_some]
  rw [show ((-4 : Int) + w64 (↑(BitVec.toNat (BitVec.ofInt (IntKind.bits IntKind.i64) ks[0].c0 &&& BitVec.ofInt (IntKind.bits IntKind.i64) 7)) : Int)) = w64 (-5 + 1) + w64 (↑(BitVec.toNat (BitVec.ofInt (IntKind.bits IntKind.i64) ks[0].c0 &&& BitVec.ofInt (IntKind.bits IntKind.i64) 7)) : Int) by rfl, he]
  by_cases h3 : (Int.tmod (w64 ks[0].c1) 3 != 2) = true
  · rw [if_pos h3]
    refine key ⟨-4 + d, ks[0].c1, ks[0].c2, ks[0].c3, ks[0].c4, Int.tmod (w64 ks[0].c1) 3, 0, 0, 0, 0⟩ rfl hc (.inl ⟨?_, rfl, rfl, rfl, rfl⟩)
    rcases tm3 hc.1 with h | h | h
    · exact .inl h
    · exact .inr h
    · rw [h] at h3; simp at h3
  · rw [if_neg h3]
    exact key ⟨-4 + d, ks[0].c1, ks[0].c2, ks[0].c3, ks[0].c4, Int.tmod (w64 ks[0].c1) 3, _, _, _, _⟩ rfl hc (.inr (by simpa using h3))


/-! ### Curves -/
theorem mul_bds {x y : Int} (hx : 0 ≤ x ∧ x ≤ 65536) (hy : 0 ≤ y ∧ y ≤ 65536) : 0 ≤ x * y ∧ x * y ≤ 4294967296 := by
  refine ⟨Int.mul_nonneg hx.1 hy.1, ?_⟩
  have := Int.mul_le_mul hx.2 hy.2 hy.1 (by decide)
  omega
theorem small {x y : Int} (hx : 0 ≤ x ∧ x ≤ 65536) (hy : 0 ≤ y ∧ y ≤ 65536) : F85 x y = some (.a0 (mul x y)) ∧ 0 ≤ mul x y ∧ mul x y ≤ 65536 := by
  have b := mul_bds hx hy
  have e1 : hd x = x := hd_of (by omega) (by omega)
  have e2 : hd y = y := hd_of (by omega) (by omega)
  refine ⟨F85_eq _ _ (by rw [e1, e2]; omega), ?_⟩
  unfold mul
  rw [e1, e2, hd_of (by omega) (by omega)]
  omega
theorem big {x a : Int} (hx : 0 ≤ x ∧ x ≤ 65536) : F85 (w64 (3 * x)) a = some (.a0 (mul (w64 (3 * x)) a)) := by
  rw [w64_in (by omega) (by omega)]
  have e1 : hd (3 * x) = 3 * x := hd_of (by omega) (by omega)
  refine F85_eq _ _ ?_
  rw [e1]
  have h2 := hd_bd a
  generalize hd a = z at *
  have p1 : 0 ≤ (3 * x) * (1099511627776 - z) := Int.mul_nonneg (by omega) (by omega)
  have p2 : 0 ≤ (3 * x) * (1099511627776 + z) := Int.mul_nonneg (by omega) (by omega)
  simp only [Int.mul_sub, Int.mul_add] at p1 p2
  omega
theorem bend_ex (a b t : Int) : ∃ r, F94 a b t = some (.a0 r) ∧ F114 a b t = some (.a0 r) := by
  have hT := cl_bd t 0 65536 (by decide)
  unfold F94 F114
  simp only [bnd_def, F33_eq, F43_eq, F39_eq, F100_eq, F119_eq, Option.bind_some]
  generalize cl t 0 65536 = T at *
  have hu : 0 ≤ w64 (65536 - T) ∧ w64 (65536 - T) ≤ 65536 := by rw [w64_in (by omega) (by omega)]; omega
  generalize w64 (65536 - T) = u at *
  obtain ⟨e1, b1⟩ := small hu hu
  obtain ⟨e2, b2⟩ := small b1 hT
  obtain ⟨e3, b3⟩ := small hu hT
  obtain ⟨e4, b4⟩ := small b3 hT
  obtain ⟨e5, b5⟩ := small hT hT
  obtain ⟨e6, b6⟩ := small b5 hT
  refine ⟨_, rfl, ?_⟩
  simp only [e1, e2, e3, e4, e5, e6, big b2, big b4, Option.bind_some]
theorem curve_loop (x X1 Y1 X2 Y2 : Int) : ∀ (n i : Nat) (lo hi : Int), 0 ≤ lo ∧ lo ≤ 65536 → 0 ≤ hi ∧ hi ≤ 65536 → i ≤ 16 → 16 < n + i →
    ∃ r, L66_1 n x lo hi i X1 Y1 X2 Y2 = some (.e0 r Y1 Y2) ∧ L99_0 n x lo hi i X1 Y1 X2 Y2 = some (.e0 r Y1 Y2)
  | 0, i, lo, hi, _, _, h1, h2 => by omega
  | n + 1, i, lo, hi, hl, hh, h1, h2 => by
    rw [L66_1, L99_0]
    by_cases h : (i : Int) < 16
    · rw [if_pos h, if_pos h, fd (by decide), w64_in (n := lo + hi) (by omega) (by omega), Int.tdiv_eq_ediv_of_nonneg (by omega), w64_in (n := (lo + hi) / 2) (by omega) (by omega)]
      obtain ⟨r, e1, e2⟩ := bend_ex X1 X2 ((lo + hi) / 2)
      rw [e1, e2]
      simp only [Option.bind_some]
      rw [w64_in (by omega) (by omega), show (i : Int) + 1 = ((i + 1 : Nat) : Int) by omega]
      by_cases hr : r ≤ x
      · rw [if_pos hr, if_pos hr]
        exact curve_loop x X1 Y1 X2 Y2 n (i + 1) _ _ (by omega) hh (by omega) (by omega)
      · rw [if_neg hr, if_neg hr]
        exact curve_loop x X1 Y1 X2 Y2 n (i + 1) _ _ hl (by omega) (by omega) (by omega)
    · rw [if_neg h, if_neg h]
      exact ⟨lo, rfl, rfl⟩
theorem curve_ex (X1 Y1 X2 Y2 x : Int) : ∃ r, F66 X1 Y1 X2 Y2 x = some (.a0 r) ∧ F99 X1 Y1 X2 Y2 x = some (.a0 r) := by
  unfold F66 F99
  by_cases h1 : x ≤ 0
  · rw [if_pos h1, if_pos h1]; exact ⟨_, rfl, rfl⟩
  · rw [if_neg h1, if_neg h1]
    by_cases h2 : x ≥ 65536
    · rw [if_pos h2, if_pos h2]; exact ⟨_, rfl, rfl⟩
    · rw [if_neg h2, if_neg h2]
      obtain ⟨r, e1, e2⟩ := curve_loop x X1 Y1 X2 Y2 100000 0 0 65536 (by decide) (by decide) (by decide) (by decide)
      rw [show ((0 : Nat) : Int) = 0 by rfl] at e1 e2
      rw [e1, e2]
      simp only [Option.bind_some]
      obtain ⟨v, e3, e4⟩ := bend_ex Y1 Y2 r
      rw [e3, e4]
      exact ⟨v, rfl, rfl⟩
theorem goes_ex (how X1 Y1 X2 Y2 p : Int) : ∃ r, F34 how X1 Y1 X2 Y2 p = some (.a0 r) ∧ F72 how X1 Y1 X2 Y2 p = some (.a0 r) := by
  obtain ⟨v, e1, e2⟩ := curve_ex X1 Y1 X2 Y2 p
  unfold F34 F72
  rw [e1, e2]
  simp only [Option.bind_some, beq_iff_eq]
  by_cases h0 : how = 0
  · subst h0
    simp only [if_true]
    by_cases hp : p ≥ 65536
    · rw [if_pos hp, if_pos hp]; exact ⟨_, rfl, rfl⟩
    · rw [if_neg hp, if_neg hp, if_neg (by decide), if_neg (by decide)]; exact ⟨_, rfl, rfl⟩
  · rw [if_neg h0, if_neg h0]
    by_cases h1 : how = 1
    · rw [if_pos h1, if_pos h1]; exact ⟨_, rfl, rfl⟩
    · rw [if_neg h1, if_neg h1]
      by_cases h2 : how = 2
      · rw [if_pos h2, if_pos h2]; exact ⟨_, rfl, rfl⟩
      · rw [if_neg h2, if_neg h2]; exact ⟨_, rfl, rfl⟩
theorem part_ex (a b t : Int) : ∃ r, F35 a b t = some (.a0 r) ∧ F73 a b t = some (.a0 r) := by
  have h1 := hd_bd a
  have h2 := hd_bd b
  have h3 := hd_bd t
  unfold F35 F73
  simp only [bnd_def, F32_eq, F42_eq]
  by_cases c1 : hd t ≤ hd a
  · rw [if_pos c1, if_pos c1]; exact ⟨_, rfl, rfl⟩
  · rw [if_neg c1, if_neg c1]
    by_cases c2 : hd t ≥ hd b
    · rw [if_pos c2, if_pos c2]; exact ⟨_, rfl, rfl⟩
    · have c3 : ¬ w64 (hd b - hd a) = 0 := by rw [w64_in (by omega) (by omega)]; omega
      rw [if_neg c2, if_neg c2, if_neg c3, if_neg c3]; exact ⟨_, rfl, rfl⟩
/-! ### Mixes -/
theorem chan (a b P : Int) (ha : In8 a) (hb : In8 b) (hP : -1099511627776 ≤ P ∧ P ≤ 1099511627776) :
    w64 (w64 a + Int.fdiv (w64 (w64 (w64 b - w64 a) * P)) 65536) = a + (b - a) * P / 65536 ∧
    (Int.tmod (w64 (w64 (w64 b - w64 a) * P)) 65536 < 0 → w64 (w64 a + w64 (w64 (Int.tdiv (w64 (w64 (w64 b - w64 a) * P)) 65536) - 1)) = a + (b - a) * P / 65536) ∧
    (¬ Int.tmod (w64 (w64 (w64 b - w64 a) * P)) 65536 < 0 → w64 (w64 a + w64 (Int.tdiv (w64 (w64 (w64 b - w64 a) * P)) 65536)) = a + (b - a) * P / 65536) := by
  unfold In8 at ha hb
  have hD : -280375465082880 ≤ (b - a) * P ∧ (b - a) * P ≤ 280375465082880 := by
    have q1 : 0 ≤ (255 - (b - a)) * (1099511627776 - P) := Int.mul_nonneg (by omega) (by omega)
    have q2 : 0 ≤ (255 + (b - a)) * (1099511627776 - P) := Int.mul_nonneg (by omega) (by omega)
    have q3 : 0 ≤ (255 - (b - a)) * (1099511627776 + P) := Int.mul_nonneg (by omega) (by omega)
    have q4 : 0 ≤ (255 + (b - a)) * (1099511627776 + P) := Int.mul_nonneg (by omega) (by omega)
    generalize b - a = d at *
    simp only [Int.add_mul, Int.sub_mul, Int.mul_add, Int.mul_sub] at q1 q2 q3 q4
    omega
  rw [w64_in (n := a) (by omega) (by omega), w64_in (n := b) (by omega) (by omega), w64_in (n := b - a) (by omega) (by omega), w64_in (n := (b - a) * P) (by omega) (by omega)]
  generalize (b - a) * P = D at *
  have hq : Int.tdiv D 65536 * 65536 + Int.tmod D 65536 = D := by have := Int.mul_tdiv_add_tmod D 65536; omega
  have hm : -65536 < Int.tmod D 65536 ∧ Int.tmod D 65536 < 65536 := by
    have h1 := Int.tmod_lt_of_pos D (show (0 : Int) < 65536 by decide)
    have h2 := Int.tmod_lt_of_pos (-D) (show (0 : Int) < 65536 by decide)
    rw [Int.neg_tmod] at h2; omega
  have hn : 0 ≤ D → 0 ≤ Int.tmod D 65536 := fun h => Int.tmod_nonneg _ h
  refine ⟨by rw [fd (by decide), w64_in (by omega) (by omega)], fun h => ?_, fun h => ?_⟩
  · rw [w64_in (n := Int.tdiv D 65536) (by omega) (by omega), w64_in (n := Int.tdiv D 65536 - 1) (by omega) (by omega), w64_in (by omega) (by omega)]; omega
  · rw [w64_in (n := Int.tdiv D 65536) (by omega) (by omega), w64_in (by omega) (by omega)]; omega
theorem mix_ex (a b c d e f g h p : Int) (ha : In8 a) (hb : In8 b) (hc : In8 c) (hd' : In8 d) (he : In8 e) (hf : In8 f) (hg : In8 g) (hh : In8 h) :
    ∃ x y z u, F12 a b c d e f g h p = some (.a0 x y z u) ∧ F22 a b c d e f g h p = some (.a0 x y z u) := by
  have hP := hd_bd p
  unfold F12 F22
  simp only [bnd_def, F32_eq, F42_eq, F33_eq, F43_eq]
  generalize hd p = P at *
  obtain ⟨p1, q1, r1⟩ := chan a e P ha he hP
  obtain ⟨p2, q2, r2⟩ := chan b f P hb hf hP
  obtain ⟨p3, q3, r3⟩ := chan c g P hc hg hP
  obtain ⟨p4, q4, r4⟩ := chan d h P hd' hh hP
  rw [p1, p2, p3, p4]
  refine ⟨_, _, _, _, rfl, ?_⟩
  by_cases c1 : Int.tmod (w64 (w64 (w64 e - w64 a) * P)) 65536 < 0
  · rw [if_pos c1, q1 c1]
    by_cases c2 : Int.tmod (w64 (w64 (w64 f - w64 b) * P)) 65536 < 0
    · rw [if_pos c2, q2 c2]
      by_cases c3 : Int.tmod (w64 (w64 (w64 g - w64 c) * P)) 65536 < 0
      · rw [if_pos c3, q3 c3]
        by_cases c4 : Int.tmod (w64 (w64 (w64 h - w64 d) * P)) 65536 < 0
        · rw [if_pos c4, q4 c4]
        · rw [if_neg c4, r4 c4]
      · rw [if_neg c3, r3 c3]
        by_cases c4 : Int.tmod (w64 (w64 (w64 h - w64 d) * P)) 65536 < 0
        · rw [if_pos c4, q4 c4]
        · rw [if_neg c4, r4 c4]
    · rw [if_neg c2, r2 c2]
      by_cases c3 : Int.tmod (w64 (w64 (w64 g - w64 c) * P)) 65536 < 0
      · rw [if_pos c3, q3 c3]
        by_cases c4 : Int.tmod (w64 (w64 (w64 h - w64 d) * P)) 65536 < 0
        · rw [if_pos c4, q4 c4]
        · rw [if_neg c4, r4 c4]
      · rw [if_neg c3, r3 c3]
        by_cases c4 : Int.tmod (w64 (w64 (w64 h - w64 d) * P)) 65536 < 0
        · rw [if_pos c4, q4 c4]
        · rw [if_neg c4, r4 c4]
  · rw [if_neg c1, r1 c1]
    by_cases c2 : Int.tmod (w64 (w64 (w64 f - w64 b) * P)) 65536 < 0
    · rw [if_pos c2, q2 c2]
      by_cases c3 : Int.tmod (w64 (w64 (w64 g - w64 c) * P)) 65536 < 0
      · rw [if_pos c3, q3 c3]
        by_cases c4 : Int.tmod (w64 (w64 (w64 h - w64 d) * P)) 65536 < 0
        · rw [if_pos c4, q4 c4]
        · rw [if_neg c4, r4 c4]
      · rw [if_neg c3, r3 c3]
        by_cases c4 : Int.tmod (w64 (w64 (w64 h - w64 d) * P)) 65536 < 0
        · rw [if_pos c4, q4 c4]
        · rw [if_neg c4, r4 c4]
    · rw [if_neg c2, r2 c2]
      by_cases c3 : Int.tmod (w64 (w64 (w64 g - w64 c) * P)) 65536 < 0
      · rw [if_pos c3, q3 c3]
        by_cases c4 : Int.tmod (w64 (w64 (w64 h - w64 d) * P)) 65536 < 0
        · rw [if_pos c4, q4 c4]
        · rw [if_neg c4, r4 c4]
      · rw [if_neg c3, r3 c3]
        by_cases c4 : Int.tmod (w64 (w64 (w64 h - w64 d) * P)) 65536 < 0
        · rw [if_pos c4, q4 c4]
        · rw [if_neg c4, r4 c4]
/-! ### Which keys may be -/
theorem F67_eq (a b c d : Int) : F67 a b c d = F98 a b c d := rfl
def ways (how X1 Y1 X2 Y2 : Int) : Bool := if (how == 2) = true then F98 X1 Y1 X2 Y2 else if (how == 0) = true then X1 == 0 && (Y1 == 0 && (X2 == 0 && (Y2 == 0 && true))) else if (how == 1) = true then X1 == 0 && (Y1 == 0 && (X2 == 0 && (Y2 == 0 && true))) else false
theorem F71_eq (t how X1 Y1 X2 Y2 : Int) : F71 t how X1 Y1 X2 Y2 = if -1073741824 ≤ t ∧ t ≤ 1073741824 then ways how X1 Y1 X2 Y2 else false := by
  unfold F71 F97 ways
  simp only [bnd_def]
  by_cases h1 : t ≥ -1073741824
  · by_cases h2 : t ≤ 1073741824
    · rw [if_pos h1, decide_eq_true h2, if_neg (by decide), if_pos (show -1073741824 ≤ t ∧ t ≤ 1073741824 from ⟨h1, h2⟩)]
    · rw [if_pos h1, decide_eq_false h2, if_pos (by decide), if_neg (by omega)]
  · rw [if_neg h1, if_pos (by decide), if_neg (by omega)]
theorem F36_eq (i ahead t how X1 Y1 X2 Y2 : Int) : F36 i ahead t how X1 Y1 X2 Y2 = if -1073741824 ≤ t ∧ t ≤ 1073741824 ∧ (i > 0 → ahead < t) then ways how X1 Y1 X2 Y2 else false := by
  unfold F36 ways
  simp only [bnd_def, F67_eq]
  by_cases h1 : t < -1073741824
  · rw [if_pos h1, if_neg (by omega)]
  · rw [if_neg h1]
    by_cases h2 : t > 1073741824
    · rw [if_pos h2, if_neg (by omega)]
    · rw [if_neg h2]
      by_cases h3 : i > 0
      · rw [if_pos h3]
        by_cases h4 : t ≤ ahead
        · rw [if_pos h4, if_neg (by intro h; have := h.2.2 h3; omega)]
        · rw [if_neg h4, if_pos (show -1073741824 ≤ t ∧ t ≤ 1073741824 ∧ (i > 0 → ahead < t) from ⟨by omega, by omega, fun _ => by omega⟩)]
      · rw [if_neg h3, if_pos (show -1073741824 ≤ t ∧ t ≤ 1073741824 ∧ (i > 0 → ahead < t) from ⟨by omega, by omega, fun h => absurd h h3⟩)]
theorem right_loop (ks : List W33) (hl : ks.length ≤ 40) : ∀ (n i : Nat) (ahead : Int), i ≤ ks.length → (∀ x, 0 < i → ks[i - 1]? = some x → ahead = x.c0) → ks.length < n + i →
    (L16v1_0 n (Rw ks) ahead ks.length i = some (.e1 (Rw ks)) ∧ L44v1_0 n (Rw ks) i = some (.e2 (Rw ks))) ∨
    (L16v1_0 n (Rw ks) ahead ks.length i = some .e0 ∧ (L44v1_0 n (Rw ks) i = some .e0 ∨ L44v1_0 n (Rw ks) i = some .e1))
  | 0, i, ahead, hi, _, hn => by omega
  | n + 1, i, ahead, hi, ha, hn => by
    have hlen : (Rw ks).length = ks.length := by simp
    rw [L16v1_0, L44v1_0, hlen]
    by_cases h : i < ks.length
    · have hii := List.getElem?_eq_getElem h
      have hc : (i : Int) < (ks.length : Int) := by omega
      have h0 : (0 : Int) ≤ (i : Int) := by omega
      have hw : w64 ((i : Int) + 1) = ((i + 1 : Nat) : Int) := by rw [w64_in (by omega) (by omega)]; omega
      rw [if_pos hc, if_pos h0, if_pos hc, if_pos h0, show Int.toNat (i : Int) = i by omega, rw_get, hii]
      simp only [Option.bind_some, bnd_def, hw]
      have ih := right_loop ks hl n (i + 1) ks[i].c0 (by omega) (fun x _ hx => by rw [show i + 1 - 1 = i by omega, hii] at hx; cases hx; rfl) (by omega)
      have f36 := F36_eq i ahead ks[i].c0 ks[i].c5 ks[i].c6 ks[i].c7 ks[i].c8 ks[i].c9
      have f71 := F71_eq ks[i].c0 ks[i].c5 ks[i].c6 ks[i].c7 ks[i].c8 ks[i].c9
      generalize F36 i ahead ks[i].c0 ks[i].c5 ks[i].c6 ks[i].c7 ks[i].c8 ks[i].c9 = v36 at *
      generalize F71 ks[i].c0 ks[i].c5 ks[i].c6 ks[i].c7 ks[i].c8 ks[i].c9 = v71 at *
      generalize ways ks[i].c5 ks[i].c6 ks[i].c7 ks[i].c8 ks[i].c9 = w at *
      have bad : v71 = false → v36 = false := by
        intro h7
        rw [f36]
        rw [f71] at h7
        split
        · rename_i hq; rw [if_pos ⟨hq.1, hq.2.1⟩] at h7; exact h7
        · rfl
      cases hv : v71 with
      | false =>
        rw [bad hv]
        exact .inr ⟨by rw [if_pos (by rfl)], .inl (by rw [if_pos (by rfl)])⟩
      | true =>
        have hb : -1073741824 ≤ ks[i].c0 ∧ ks[i].c0 ≤ 1073741824 := by
          refine Classical.byContradiction fun hb => ?_
          rw [if_neg hb] at f71
          rw [f71] at hv; cases hv
        have hw1 : w = true := by rw [if_pos hb] at f71; rw [← f71]; exact hv
        rw [if_neg (show ¬ (!true) = true by decide)]
        by_cases hi0 : (i : Int) > 0
        · have hp : i - 1 < ks.length := by omega
          have hpp := List.getElem?_eq_getElem hp
          have hah := ha _ (by omega) hpp
          have hw3 : w64 ((i : Int) - 1) = ((i - 1 : Nat) : Int) := by rw [w64_in (by omega) (by omega)]; omega
          have h0' : (0 : Int) ≤ ((i - 1 : Nat) : Int) := by omega
          rw [if_pos hi0, hw3, if_pos h0', show Int.toNat ((i - 1 : Nat) : Int) = i - 1 by omega, rw_get, hpp]
          simp only [Option.bind_some]
          by_cases hlt : ahead < ks[i].c0
          · have e36 : v36 = true := by rw [f36, if_pos ⟨hb.1, hb.2, fun _ => hlt⟩]; exact hw1
            have hge : ¬ (ks[i - 1].c0 ≥ ks[i].c0) := by omega
            rw [e36, if_neg (show ¬ (!true) = true by decide), if_neg hge]; exact ih
          · have e36 : v36 = false := by rw [f36, if_neg (fun hq => hlt (hq.2.2 hi0))]
            have hge : ks[i - 1].c0 ≥ ks[i].c0 := by omega
            rw [e36, if_pos (show (!false) = true by decide), if_pos hge]
            exact .inr ⟨rfl, .inr rfl⟩
        · have e36 : v36 = true := by rw [f36, if_pos ⟨hb.1, hb.2, fun hq => absurd hq hi0⟩]; exact hw1
          rw [e36, if_neg (show ¬ (!true) = true by decide), if_neg hi0]; exact ih
    · rw [if_neg (by omega), if_neg (by omega)]
      exact .inl ⟨rfl, rfl⟩
theorem right_ex (ks : List W33) (hl : ks.length ≤ 40) : ∃ b, F16v1 (Rw ks) = some (.a0 b) ∧ F44v1 (Rw ks) = some (.a0 b) := by
  have hlen : (Rw ks).length = ks.length := by simp
  unfold F16v1 F44v1
  rw [hlen]
  have := right_loop ks hl 100000 0 0 (by omega) (fun x h => by omega) (by omega)
  rw [show ((0 : Nat) : Int) = 0 by rfl] at this
  rcases this with ⟨e1, e2⟩ | ⟨e1, e2 | e2⟩ <;> rw [e1, e2] <;> exact ⟨_, rfl, rfl⟩
/-! ### The colour at a tick -/
/-- The last of the first m keys at a tick, or ahead of it. -/
def lst (ks : List W33) (t : Int) : Nat → Int
  | 0 => -1
  | m + 1 => match ks[m]? with
    | some k => if k.c0 ≤ t then m else lst ks t m
    | none => lst ks t m
theorem lst_bd (ks : List W33) (t : Int) : ∀ m : Nat, -1 ≤ lst ks t m ∧ lst ks t m < m
  | 0 => by simp [lst]
  | m + 1 => by
    have := lst_bd ks t m
    unfold lst
    split
    · split <;> omega
    · omega
theorem down (ks : List W33) (hl : ks.length ≤ 40) (t : Int) : ∀ (n m : Nat), m ≤ ks.length → m < n →
    L15v1_0 n (Rw ks) t ((m : Int) - 1) = some (.e0 (Rw ks) t (lst ks t m)) ∨ L15v1_0 n (Rw ks) t ((m : Int) - 1) = some (.e1 (Rw ks) t (lst ks t m))
  | 0, m, _, hn => by omega
  | n + 1, m, hm, hn => by
    rw [L15v1_0]
    cases m with
    | zero => rw [if_neg (by decide)]; exact .inr rfl
    | succ m =>
      have hi : m < ks.length := by omega
      have e : ((m + 1 : Nat) : Int) - 1 = (m : Int) := by omega
      rw [e, if_pos (by omega), if_pos (by omega), show Int.toNat (m : Int) = m by omega, rw_get, List.getElem?_eq_getElem hi, Option.bind_some]
      unfold lst
      rw [List.getElem?_eq_getElem hi]
      simp only []
      by_cases h : ks[m].c0 ≤ t
      · rw [if_neg (by omega), if_pos h]; exact .inl rfl
      · rw [if_pos (by omega), if_neg h, w64_in (by omega) (by omega)]
        exact down ks hl t n m (by omega) (by omega)
theorem up (ks : List W33) (hl : ks.length ≤ 40) (t : Int) : ∀ (n i : Nat), i ≤ ks.length → ks.length < n + i →
    L45v1_0 n (Rw ks) t (lst ks t i) i = some (.e0 (Rw ks) t (lst ks t ks.length))
  | 0, i, _, hn => by omega
  | n + 1, i, hi, hn => by
    have hlen : (Rw ks).length = ks.length := by simp
    rw [L45v1_0, hlen]
    by_cases h : i < ks.length
    · rw [if_pos (by omega), if_pos (by omega), show Int.toNat (i : Int) = i by omega, rw_get, List.getElem?_eq_getElem h, Option.bind_some, w64_in (by omega) (by omega), show (i : Int) + 1 = ((i + 1 : Nat) : Int) by omega]
      have ih := up ks hl t n (i + 1) (by omega) (by omega)
      have e : lst ks t (i + 1) = if ks[i].c0 ≤ t then (i : Int) else lst ks t i := by
        rw [lst, List.getElem?_eq_getElem h]
      rw [e] at ih
      by_cases hc : ks[i].c0 ≤ t
      · rw [if_pos hc] at ih ⊢; exact ih
      · rw [if_neg hc] at ih ⊢; exact ih
    · rw [if_neg (by omega), show i = ks.length by omega]
theorem at_ex (ks : List W33) (hl : ks.length ≤ 40) (hk : ∀ (i : Nat) (k : W33), ks[i]? = some k → Col k) (t a b c d : Int) : ∃ x y z u, F15v1 (Rw ks) t a b c d = some (.a0 x y z u) ∧ F45v1 (Rw ks) t a b c d = some (.a0 x y z u) := by
  have hlen : (Rw ks).length = ks.length := by simp
  unfold F15v1 F45v1
  rw [hlen]
  simp only [beq_iff_eq]
  by_cases h0 : (ks.length : Int) = 0
  · rw [if_pos h0, if_pos h0]; exact ⟨_, _, _, _, rfl, rfl⟩
  · have hw : w64 ((ks.length : Int) - 1) = (ks.length : Int) - 1 := w64_in (by omega) (by omega)
    rw [if_neg h0, if_neg h0, hw]
    have hu := up ks hl t 100000 0 (by omega) (by omega)
    rw [show lst ks t 0 = -1 by rfl, show ((0 : Nat) : Int) = 0 by rfl] at hu
    rw [hu]
    simp only [Option.bind_some, hlen]
    have hb := lst_bd ks t ks.length
    have hd := down ks hl t 100000 ks.length (by omega) (by omega)
    generalize lst ks t ks.length = z at *
    have hz : 0 < ks.length := by omega
    rcases hd with hd | hd <;> rw [hd] <;> simp only [Option.bind_some, hlen, hw] <;> (
      by_cases h1 : z = -1
      · have g1 : z < 0 := by omega
        rw [if_pos h1, if_pos g1, rw_get, List.getElem?_eq_getElem hz]
        exact ⟨_, _, _, _, rfl, rfl⟩
      · have g1 : ¬ z < 0 := by omega
        have g2 : 0 ≤ z := by omega
        rw [if_neg h1, if_neg g1]
        have hzl : z.toNat < ks.length := by omega
        by_cases h2 : z = (ks.length : Int) - 1
        · rw [if_pos h2, if_pos h2, if_pos g2, if_pos g2, rw_get, List.getElem?_eq_getElem hzl]
          exact ⟨_, _, _, _, rfl, rfl⟩
        · have hw2 : w64 (z + 1) = z + 1 := w64_in (by omega) (by omega)
          have hzl2 : (z + 1).toNat < ks.length := by omega
          have g3 : 0 ≤ z + 1 := by omega
          rw [if_neg h2, if_neg h2, if_pos g2, if_pos g2]
          simp only [hw2, rw_get, List.getElem?_eq_getElem hzl, List.getElem?_eq_getElem hzl2, Option.bind_some]
          rw [if_pos g3, if_pos g3]
          obtain ⟨p, e1, e2⟩ := part_ex (ks[z.toNat]).c0 (ks[(z + 1).toNat]).c0 t
          rw [e1, e2]
          simp only [Option.bind_some]
          obtain ⟨q, e3, e4⟩ := goes_ex (ks[z.toNat]).c5 (ks[z.toNat]).c6 (ks[z.toNat]).c7 (ks[z.toNat]).c8 (ks[z.toNat]).c9 p
          rw [e3, e4]
          simp only [Option.bind_some]
          obtain ⟨k1, k2, k3, k4⟩ := hk _ _ (List.getElem?_eq_getElem hzl)
          obtain ⟨m1, m2, m3, m4⟩ := hk _ _ (List.getElem?_eq_getElem hzl2)
          obtain ⟨x, y, v, u, e5, e6⟩ := mix_ex _ _ _ _ _ _ _ _ q k1 k2 k3 k4 m1 m2 m3 m4
          rw [e5, e6]
          exact ⟨x, y, v, u, rfl, rfl⟩)
theorem eq4 (a b c d : Int) : (a == a && (b == b && (c == c && (d == d && true)))) = true := by simp
theorem same_ok (ks : List W33) (hl : ks.length ≤ 40) (hk : ∀ (i : Nat) (k : W33), ks[i]? = some k → Col k) (t a b c d : Int) : F24v1 (Rw ks) t a b c d = some (.a0 true) := by
  obtain ⟨r, e1, e2⟩ := right_ex ks hl
  obtain ⟨x, y, z, u, e3, e4⟩ := at_ex ks hl hk t a b c d
  unfold F24v1
  rw [e1, Option.bind_some]
  simp only []
  rw [e2, Option.bind_some]
  simp only []
  rw [if_pos (by simp), e3, Option.bind_some]
  simp only []
  rw [e4, Option.bind_some]
  simp only [eq4]
theorem same_nil (t a b c d : Int) : F24 t a b c d = some (.a0 true) := by
  unfold F24
  rw [show F16 = some (.a0 true) by rfl, show F44 = some (.a0 true) by rfl]
  simp only [Option.bind_some]
  rw [if_pos (by decide)]
  unfold F15 F45
  simp only [Option.bind_some, eq4]
theorem known6 : F13 = some (.a0 true) := by rfl
theorem luma_eq (a b c d : Int) : F17 a b c d = F23 a b c d := rfl
theorem hueTells_plain (a0 a1 a2 a3 b0 b1 b2 b3 p t x0 x1 x2 x3 : Int) (ks : List W33) (hk : ∀ (i : Nat) (k : W33), ks[i]? = some k → Col k)
    (h1 : In8 a0 ∧ In8 a1 ∧ In8 a2 ∧ In8 a3) (h2 : In8 b0 ∧ In8 b1 ∧ In8 b2 ∧ In8 b3) : F7 a0 a1 a2 a3 b0 b1 b2 b3 p (Rw ks) t x0 x1 x2 x3 = some (.a0 true) := by
  obtain ⟨i0, i1, i2, i3⟩ := h1
  obtain ⟨j0, j1, j2, j3⟩ := h2
  have hlen : (Rw ks).length = ks.length := by simp
  have main : ∀ ls : List W33, ls.length ≤ 40 → (∀ (i : Nat) (k : W33), ls[i]? = some k → Col k) → (F14 (Rw ls) = some .a0 ∨ ∃ rs : List W33, F14 (Rw ls) = some (.a1 rs.length (Rw rs)) ∧ rs.length ≤ 40 ∧ ∀ (i : Nat) (k : W33), rs[i]? = some k → Col k) := by
    intro ls hl hc
    by_cases h0 : ls.length = 0
    · rw [List.length_eq_zero_iff.1 h0]; exact .inl rising_nil
    · obtain ⟨rs, e, hg, _, _, h40⟩ := rising_ok ls hc (by omega)
      exact .inr ⟨rs, e, h40, fun i k hi => (hg.bd i k hi).2⟩
  have fit : ∀ rs : List W33, List.take rs.length (Rw rs) = Rw rs := fun rs => by rw [List.take_of_length_le (by simp)]
  obtain ⟨m0, m1, m2, m3, e1, e2⟩ := mix_ex a0 a1 a2 a3 b0 b1 b2 b3 p i0 i1 i2 i3 j0 j1 j2 j3
  obtain ⟨n0, n1, n2, n3, e3, e4⟩ := mix_ex a0 a1 a2 a3 b0 b1 b2 b3 (w64 (↑(BitVec.toNat (BitVec.ofInt (IntKind.bits IntKind.i64) p &&& BitVec.ofInt (IntKind.bits IntKind.i64) 65535)) : Int)) i0 i1 i2 i3 j0 j1 j2 j3
  unfold F7
  rw [hlen]
  by_cases hc : (ks.length : Int) > 40
  · have ht : List.take 40 (Rw ks) = Rw (ks.take 40) := by simp [Rw, List.map_take]
    have htl : (ks.take 40).length ≤ 40 := by rw [List.length_take]; omega
    have htc : ∀ (i : Nat) (k : W33), (ks.take 40)[i]? = some k → Col k := fun i k hi => by
      rw [List.getElem?_take] at hi
      split at hi
      · exact hk i k hi
      · cases hi
    rw [if_pos hc, if_pos (by omega), e1, ht]
    simp only [Option.bind_some]
    rw [e2]
    simp only [Option.bind_some, eq4, if_true]
    rw [e3]
    simp only [Option.bind_some]
    rw [e4]
    simp only [Option.bind_some, eq4, if_true]
    rcases main (ks.take 40) htl htc with e | ⟨rs, e, hr, hrc⟩
    · rw [e]
      simp only [Option.bind_some, same_nil, if_true, same_ok _ htl htc, bnd_def, luma_eq, beq_self_eq_true, known6]
    · rw [e]
      simp only [Option.bind_some]
      rw [if_pos (by simp), fit]
      simp only [Option.bind_some, same_ok _ hr hrc, if_true, same_ok _ htl htc, bnd_def, luma_eq, beq_self_eq_true, known6]
  · rw [if_neg hc, e1]
    have hl : ks.length ≤ 40 := by omega
    simp only [Option.bind_some]
    rw [e2]
    simp only [Option.bind_some, eq4, if_true]
    rw [e3]
    simp only [Option.bind_some]
    rw [e4]
    simp only [Option.bind_some, eq4, if_true]
    rcases main ks hl hk with e | ⟨rs, e, hr, hrc⟩
    · rw [e]
      simp only [Option.bind_some, same_nil, if_true, same_ok _ hl hk, bnd_def, luma_eq, beq_self_eq_true, known6]
    · rw [e]
      simp only [Option.bind_some]
      rw [if_pos (by simp), fit]
      simp only [Option.bind_some, same_ok _ hr hrc, if_true, same_ok _ hl hk, bnd_def, luma_eq, beq_self_eq_true, known6]
end Go.Proofs.Ytcomanfboibhiaa.H
namespace Go.Proofs.Ytcomanfboibhiaa.H
open Go Go.VM
/-- A colour, laid open. -/
theorem color {vs : List V} (g : vs.length = 4 ∧ ∀ x ∈ vs, (fun y => ∃ z, y = [V.int .u8 z] ∧ (Lit.int .u8 z).wf = true) [x]) :
    ∃ a b c d : Int, vs = [.int .u8 a, .int .u8 b, .int .u8 c, .int .u8 d] ∧ In8 a ∧ In8 b ∧ In8 c ∧ In8 d := by
  obtain ⟨hl, hg⟩ := g
  match vs, hl with
  | [x, y, z, u], _ =>
    obtain ⟨a, ha, wa⟩ := hg x (by simp)
    obtain ⟨b, hb, wb⟩ := hg y (by simp)
    obtain ⟨c, hc, wc⟩ := hg z (by simp)
    obtain ⟨d, hd, wd⟩ := hg u (by simp)
    cases ha; cases hb; cases hc; cases hd
    exact ⟨a, b, c, d, rfl, bounds_u8 wa, bounds_u8 wb, bounds_u8 wc, bounds_u8 wd⟩
theorem hueTells_call {vs us ws : List V} {xs : List (List V)} (g0 : vs.length = 4 ∧ ∀ x ∈ vs, (fun y => ∃ z, y = [V.int .u8 z] ∧ (Lit.int .u8 z).wf = true) [x]) (g1 : us.length = 4 ∧ ∀ x ∈ us, (fun y => ∃ z, y = [V.int .u8 z] ∧ (Lit.int .u8 z).wf = true) [x])
    (p : Int) (h : ∃ ks : List W33, xs = Rw ks ∧ ∀ k ∈ ks, KeyOk k) (t : Int) (g5 : ws.length = 4 ∧ ∀ x ∈ ws, (fun y => ∃ z, y = [V.int .u8 z] ∧ (Lit.int .u8 z).wf = true) [x]) :
    call Try.prog X O0 100000 11 7 [.agg vs, .agg us, .int .i64 p, .list 10 xs, .int .i64 t, .agg ws] [] = some (.bool true, []) := by
  obtain ⟨a0, a1, a2, a3, rfl, h1⟩ := color g0
  obtain ⟨b0, b1, b2, b3, rfl, h2⟩ := color g1
  obtain ⟨x0, x1, x2, x3, rfl, h3⟩ := color g5
  obtain ⟨ks, rfl, hk⟩ := h
  exact F7_ok 0 a0 a1 a2 a3 b0 b1 b2 b3 p (Rw ks) t x0 x1 x2 x3 (.a0 true) (hueTells_plain a0 a1 a2 a3 b0 b1 b2 b3 p t x0 x1 x2 x3 ks (fun i k hi => (hk k (List.mem_of_getElem? hi)).c) h1 h2)
end Go.Proofs.Ytcomanfboibhiaa.H
