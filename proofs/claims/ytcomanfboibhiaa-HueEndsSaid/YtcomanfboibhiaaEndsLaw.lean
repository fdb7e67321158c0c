/- HueEnds in plain Lean: what its functions compute answers true. No condition beyond those stated. -/
import Derived.Test.YtcomanfboibhiaaPEnds
import Derived.Test.YtcomanfboibhiaaKeyRow
set_option linter.unusedVariables false
set_option linter.unusedSimpArgs false
namespace Go.Proofs.Ytcomanfboibhiaa.H
open Go Go.VM
set_option maxRecDepth 100000
theorem rw_get (ks : List W33) (i : Nat) : ((Rw ks)[i]?).bind W33.dec = ks[i]? := by
  simp only [Rw, List.getElem?_map]
  cases ks[i]? <;> rfl
theorem w64_in {n : Int} (h : -9223372036854775808 ≤ n) (h' : n ≤ 9223372036854775807) : w64 n = n := by
  simp [IntKind.wrap, IntKind.bits, IntKind.signed]; omega
theorem and_le (x : Int) (m : Nat) (hm : m < 2 ^ 64) : (BitVec.toNat (BitVec.ofInt (IntKind.bits IntKind.i64) x &&& BitVec.ofInt (IntKind.bits IntKind.i64) m)) ≤ m := by
  rw [BitVec.toNat_and]
  refine Nat.le_trans Nat.and_le_right ?_
  show (BitVec.ofInt 64 (m : Int)).toNat ≤ m
  simp
  omega
structure Gd (rs : List W33) : Prop where
  inc : ∀ (i j : Nat) (a b : W33), rs[i]? = some a → rs[j]? = some b → i < j → a.c0 < b.c0
  bd : ∀ (i : Nat) (a : W33), rs[i]? = some a → (-100 ≤ a.c0 ∧ a.c0 ≤ 1000) ∧ (0 ≤ a.c1 ∧ a.c1 ≤ 255) ∧ (0 ≤ a.c2 ∧ a.c2 ≤ 255) ∧ (0 ≤ a.c3 ∧ a.c3 ≤ 255) ∧ (0 ≤ a.c4 ∧ a.c4 ≤ 255)
def Hw (a : W33) : Prop := (a.c5 = 0 ∨ a.c5 = 1) ∧ a.c6 = 0 ∧ a.c7 = 0 ∧ a.c8 = 0 ∧ a.c9 = 0
def Col (a : W33) : Prop := (0 ≤ a.c1 ∧ a.c1 ≤ 255) ∧ (0 ≤ a.c2 ∧ a.c2 ≤ 255) ∧ (0 ≤ a.c3 ∧ a.c3 ≤ 255) ∧ (0 ≤ a.c4 ∧ a.c4 ≤ 255)

theorem get_push {rs : List W33} {k : W33} {i : Nat} {a : W33} (h : (rs ++ [k])[i]? = some a) : (rs[i]? = some a ∧ i < rs.length) ∨ (i = rs.length ∧ a = k) := by
  by_cases hi : i < rs.length
  · rw [List.getElem?_append_left hi] at h; exact .inl ⟨h, hi⟩
  · rw [List.getElem?_append_right (by omega)] at h
    have := (List.getElem?_eq_some_iff.1 h).1
    simp at this
    have hi' : i - rs.length = 0 := by omega
    rw [hi'] at h
    exact .inr ⟨by omega, by simpa using h.symm⟩
theorem gd_push {rs : List W33} {k : W33} {at_ : Int} (h : Gd rs) (hl : ∀ (j : Nat) (a : W33), rs[j]? = some a → a.c0 ≤ at_) (hk : at_ < k.c0) (hb : -100 ≤ k.c0 ∧ k.c0 ≤ 1000) (hc : Col k) : Gd (rs ++ [k]) := by
  constructor
  · intro i j a b ha hb' hij
    rcases get_push ha with ⟨h1, h2⟩ | ⟨h1, h2⟩ <;> rcases get_push hb' with ⟨h3, h4⟩ | ⟨h3, h4⟩
    · exact h.inc i j a b h1 h3 hij
    · subst h4; exact Int.lt_of_le_of_lt (hl _ _ h1) hk
    · omega
    · omega
  · intro i a ha
    rcases get_push ha with ⟨h1, h2⟩ | ⟨h1, h2⟩
    · exact h.bd i a h1
    · subst h2; exact ⟨hb, hc⟩

/-- How a key goes on behind rising: none, straight, or by a curve. -/
def Hw2 (a : W33) : Prop := Hw a ∨ a.c5 = 2
theorem rise_step (at_ : Int) (x : Int) (h : -5 ≤ at_) (h' : at_ ≤ 1000) : ∃ d : Int, (0 ≤ d ∧ d ≤ 7) ∧ w64 (w64 (at_ + 1) + w64 (↑(BitVec.toNat (BitVec.ofInt (IntKind.bits IntKind.i64) x &&& BitVec.ofInt (IntKind.bits IntKind.i64) 7)) : Int)) = at_ + 1 + d := by
  have := and_le x 7 (by omega)
  refine ⟨((BitVec.toNat (BitVec.ofInt (IntKind.bits IntKind.i64) x &&& BitVec.ofInt (IntKind.bits IntKind.i64) 7) : Nat) : Int), ⟨by omega, by exact_mod_cast this⟩, ?_⟩
  have h7 : ((BitVec.toNat (BitVec.ofInt (IntKind.bits IntKind.i64) x &&& BitVec.ofInt (IntKind.bits IntKind.i64) 7) : Nat) : Int) ≤ 7 := by exact_mod_cast this
  rw [w64_in (n := at_ + 1) (by omega) (by omega), w64_in (n := ((BitVec.toNat _ : Nat) : Int)) (by omega) (by omega), w64_in (by omega) (by omega)]

theorem tm3 {c : Int} (h : 0 ≤ c ∧ c ≤ 255) : Int.tmod (w64 c) 3 = 0 ∨ Int.tmod (w64 c) 3 = 1 ∨ Int.tmod (w64 c) 3 = 2 := by
  rw [w64_in (by omega) (by omega), Int.tmod_eq_emod_of_nonneg h.1]
  omega

theorem rise (ks : List W33) (hks : ∀ (i : Nat) (k : W33), ks[i]? = some k → Col k) : ∀ (n i : Nat) (at_ : Int) (rs : List W33), i = rs.length → 0 < i → i ≤ 40 → i ≤ ks.length → Gd rs → (∀ (j : Nat) (a : W33), rs[j]? = some a → a.c0 ≤ at_) → at_ ≤ 8 * i → -5 ≤ at_ →
    (∀ (j : Nat) (a : W33), rs[j]? = some a → Hw2 a) → 42 ≤ n + i →
    ∃ rs' : List W33, (L14_0s1 n (Rw ks) i at_ i (Rw rs) = some (.e1 rs'.length (Rw rs')) ∨ L14_0s1 n (Rw ks) i at_ i (Rw rs) = some (.e2 rs'.length (Rw rs'))) ∧ Gd rs' ∧ (∀ (j : Nat) (a : W33), rs'[j]? = some a → Hw2 a) ∧ 0 < rs'.length ∧ rs'.length ≤ 40
  | 0, i, at_, rs, _, _, h40, _, _, _, _, _, _, hn => by omega
  | n + 1, i, at_, rs, hi, h0, h40, hle, hg, hat, hb, hb', hw, hn => by
    rw [L14_0s1]
    have hlen : (Rw ks).length = ks.length := by simp
    by_cases h1 : i < ks.length
    · rw [if_pos (by rw [hlen]; omega)]
      by_cases h2 : i < 40
      · rw [if_pos (by omega), if_pos (by omega), show Int.toNat (i : Int) = i by omega, rw_get, List.getElem?_eq_getElem h1, Option.bind_some]
        have hc := hks i ks[i] (List.getElem?_eq_getElem h1)
        obtain ⟨d, hd, he⟩ := rise_step at_ ks[i].c0 hb' (by omega)
        rw [he]
        have hrl : (Rw rs).length = rs.length := by simp
        have hck : 0 + i ≤ (Rw rs).length ∧ (i + 1) * 56 ≤ 140737488355328 ∧ i + 1 ≤ 140737488355328 := by rw [hrl]; omega
        have htk : List.take i (Rw rs) = Rw rs := by rw [List.take_of_length_le (by rw [hrl]; omega)]
        have hwi : w64 ((i : Int) + 1) = ((i + 1 : Nat) : Int) := by rw [w64_in (by omega) (by omega)]; omega
        have go : ∀ k : W33, k.c0 = at_ + 1 + d → Col k → Hw2 k → ∃ rs' : List W33, (L14_0s1 n (Rw ks) (i + 1) (at_ + 1 + d) ((i + 1 : Nat) : Int) (Rw rs ++ [k.cells]) = some (.e1 rs'.length (Rw rs')) ∨ L14_0s1 n (Rw ks) (i + 1) (at_ + 1 + d) ((i + 1 : Nat) : Int) (Rw rs ++ [k.cells]) = some (.e2 rs'.length (Rw rs'))) ∧ Gd rs' ∧ (∀ (j : Nat) (a : W33), rs'[j]? = some a → Hw2 a) ∧ 0 < rs'.length ∧ rs'.length ≤ 40 := by
          intro k hk0 hkc hkw
          have e : Rw rs ++ [k.cells] = Rw (rs ++ [k]) := by simp
          rw [e]
          refine rise ks hks n (i + 1) (at_ + 1 + d) (rs ++ [k]) (by simp [hi]) (by omega) (by omega) (by omega) (gd_push hg hat (by omega) (by omega) hkc) ?_ (by omega) (by omega) ?_ (by omega)
          · intro j a ha
            rcases get_push ha with ⟨h1, h2⟩ | ⟨h1, h2⟩
            · have := hat j a h1; omega
            · subst h2; omega
          · intro j a ha
            rcases get_push ha with ⟨h1, h2⟩ | ⟨h1, h2⟩
            · exact hw j a h1
            · subst h2; exact hkw
        by_cases h3 : (Int.tmod (w64 ks[i].c1) 3 != 2) = true
        · rw [if_pos h3, if_pos hck, htk, hwi]
          refine go ⟨at_ + 1 + d, ks[i].c1, ks[i].c2, ks[i].c3, ks[i].c4, Int.tmod (w64 ks[i].c1) 3, 0, 0, 0, 0⟩ rfl hc (.inl ⟨?_, rfl, rfl, rfl, rfl⟩)
          rcases tm3 hc.1 with h | h | h
          · exact .inl h
          · exact .inr h
          · rw [h] at h3; simp at h3
        · rw [if_neg h3, if_pos hck, htk, hwi]
          refine go ⟨at_ + 1 + d, ks[i].c1, ks[i].c2, ks[i].c3, ks[i].c4, Int.tmod (w64 ks[i].c1) 3, _, _, _, _⟩ rfl hc (.inr ?_)
          simpa using h3
      · rw [if_neg (by omega)]
        subst hi
        exact ⟨rs, .inl rfl, hg, hw, h0, h40⟩
    · rw [if_neg (by rw [hlen]; omega)]
      subst hi
      exact ⟨rs, .inr rfl, hg, hw, h0, h40⟩

theorem rising_nil : F14 (Rw []) = some .a0 := by rfl
theorem rising_ok (ks : List W33) (hks : ∀ (i : Nat) (k : W33), ks[i]? = some k → Col k) (h0 : 0 < ks.length) : ∃ rs : List W33, F14 (Rw ks) = some (.a1 rs.length (Rw rs)) ∧ Gd rs ∧ (∀ (j : Nat) (a : W33), rs[j]? = some a → Hw2 a) ∧ 0 < rs.length ∧ rs.length ≤ 40 := by
  unfold F14
  have hlen : (Rw ks).length = ks.length := by simp
  have hc := hks 0 ks[0] (List.getElem?_eq_getElem h0)
  obtain ⟨d, hd, he⟩ := rise_step (-5) ks[0].c0 (by omega) (by omega)
  rw [show (-5 : Int) + 1 + d = -4 + d by omega] at he
  have key : ∀ k : W33, k.c0 = -4 + d → Col k → Hw2 k → ∃ rs' : List W33, (L14_0s1 99999 (Rw ks) 1 (-4 + d) 1 [k.cells] = some (.e1 rs'.length (Rw rs')) ∨ L14_0s1 99999 (Rw ks) 1 (-4 + d) 1 [k.cells] = some (.e2 rs'.length (Rw rs'))) ∧ Gd rs' ∧ (∀ (j : Nat) (a : W33), rs'[j]? = some a → Hw2 a) ∧ 0 < rs'.length ∧ rs'.length ≤ 40 := by
    intro k hk hkc hkw
    have g : Gd ([] ++ [k]) := gd_push (at_ := -5) (rs := []) ⟨fun i j a b h => by simp at h, fun i a h => by simp at h⟩ (fun j a h => by simp at h) (by omega) (by omega) hkc
    exact rise ks hks 99999 1 (-4 + d) [k] rfl (by omega) (by omega) (by omega) g (fun j a ha => by
      rcases get_push (rs := []) ha with ⟨h1, h2⟩ | ⟨h1, h2⟩
      · simp at h1
      · subst h2; omega) (by omega) (by omega) (fun j a ha => by
      rcases get_push (rs := []) ha with ⟨h1, h2⟩ | ⟨h1, h2⟩
      · simp at h1
      · subst h2; exact hkw) (by omega)
  have fin : ∀ (o : Option R14_0), (∃ rs' : List W33, (o = some (.e1 rs'.length (Rw rs')) ∨ o = some (.e2 rs'.length (Rw rs'))) ∧ Gd rs' ∧ (∀ (j : Nat) (a : W33), rs'[j]? = some a → Hw2 a) ∧ 0 < rs'.length ∧ rs'.length ≤ 40) →
      ∃ rs : List W33, (o.bind fun r => match r with | .e0 => some A14.a0 | .e1 k59 l65 => some (A14.a1 k59 l65) | .e2 k70 l75 => some (A14.a1 k70 l75)) = some (.a1 rs.length (Rw rs)) ∧ Gd rs ∧ (∀ (j : Nat) (a : W33), rs[j]? = some a → Hw2 a) ∧ 0 < rs.length ∧ rs.length ≤ 40 := by
    rintro o ⟨rs', h | h, h'⟩ <;> subst h <;> exact ⟨rs', rfl, h'⟩
  apply fin
  rw [show (100000 : Nat) = 99999 + 1 by rfl, L14_0, if_pos (by rw [hlen]; omega), rw_get, List.getElem?_eq_getElem h0, Option.bind_some]
  rw [show ((-4 : Int) + w64 (↑(BitVec.toNat (BitVec.ofInt (IntKind.bits IntKind.i64) ks[0].c0 &&& BitVec.ofInt (IntKind.bits IntKind.i64) 7)) : Int)) = w64 (-5 + 1) + w64 (↑(BitVec.toNat (BitVec.ofInt (IntKind.bits IntKind.i64) ks[0].c0 &&& BitVec.ofInt (IntKind.bits IntKind.i64) 7)) : Int) by rfl, he]
  by_cases h3 : (Int.tmod (w64 ks[0].c1) 3 != 2) = true
  · rw [if_pos h3]
    refine key ⟨-4 + d, ks[0].c1, ks[0].c2, ks[0].c3, ks[0].c4, Int.tmod (w64 ks[0].c1) 3, 0, 0, 0, 0⟩ rfl hc (.inl ⟨?_, rfl, rfl, rfl, rfl⟩)
    rcases tm3 hc.1 with h | h | h
    · exact .inl h
    · exact .inr h
    · rw [h] at h3; simp at h3
  · rw [if_neg h3]
    exact key ⟨-4 + d, ks[0].c1, ks[0].c2, ks[0].c3, ks[0].c4, Int.tmod (w64 ks[0].c1) 3, _, _, _, _⟩ rfl hc (.inr (by simpa using h3))

theorem bnd_def {α β : Type} (x : α) (f : α → β) : bnd x f = f x := rfl
theorem search (rs : List W33) (t : Int) (i : Nat) (hl : rs.length ≤ 40) : ∀ (n j : Nat), j < rs.length → i ≤ j → (∀ a, rs[i]? = some a → a.c0 ≤ t) → (∀ (k : Nat) a, i < k → k ≤ j → rs[k]? = some a → t < a.c0) → j < n + i →
    L15v1_0 n (Rw rs) t j = some (.e0 (Rw rs) t i)
  | 0, j, _, hij, _, _, hn => by omega
  | n + 1, j, hj, hij, hi, hk, hn => by
    rw [L15v1_0, if_pos (by omega), if_pos (by omega), show Int.toNat (j : Int) = j by omega, rw_get, List.getElem?_eq_getElem hj, Option.bind_some]
    by_cases h : j = i
    · subst h
      rw [if_neg (by have := hi _ (List.getElem?_eq_getElem hj); omega)]
    · rw [if_pos (hk j _ (by omega) (Nat.le_refl _) (List.getElem?_eq_getElem hj)), w64_in (by omega) (by omega), show (j : Int) - 1 = ((j - 1 : Nat) : Int) by omega]
      exact search rs t i hl n (j - 1) (by omega) (by omega) hi (fun k a h1 h2 h3 => hk k a h1 (by omega) h3) (by omega)
theorem search0 (rs : List W33) (t : Int) (hl : rs.length ≤ 40) : ∀ (n j : Nat), j ≤ rs.length → (∀ (k : Nat) a, k < j → rs[k]? = some a → t < a.c0) → j < n →
    L15v1_0 n (Rw rs) t ((j : Int) - 1) = some (.e1 (Rw rs) t (-1))
  | 0, j, _, _, hn => by omega
  | n + 1, j, hj, hk, hn => by
    rw [L15v1_0]
    by_cases h : j = 0
    · subst h
      rw [if_neg (by omega)]; rfl
    · have hj' : j - 1 < rs.length := by omega
      rw [if_pos (by omega), if_pos (by omega), show Int.toNat ((j : Int) - 1) = j - 1 by omega, rw_get, List.getElem?_eq_getElem hj', Option.bind_some,
        if_pos (hk (j - 1) _ (by omega) (List.getElem?_eq_getElem hj')), w64_in (by omega) (by omega), show (j : Int) - 1 - 1 = ((j - 1 : Nat) : Int) - 1 by omega]
      exact search0 rs t hl n (j - 1) (by omega) (fun k a h1 h2 => hk k a (by omega) h2) (by omega)

theorem mix0 (a b c d e f g h : Int) (ha : 0 ≤ a ∧ a ≤ 255) (hb : 0 ≤ b ∧ b ≤ 255) (hc : 0 ≤ c ∧ c ≤ 255) (hd : 0 ≤ d ∧ d ≤ 255) : F12 a b c d e f g h 0 = some (.a0 a b c d) := by
  have one : ∀ x y : Int, 0 ≤ x ∧ x ≤ 255 → IntKind.wrap .u8 (F33 (w64 (w64 x + Int.fdiv (w64 (w64 (w64 y - w64 x) * 0)) 65536)) 0 255) = x := by
    intro x y hx
    rw [Int.mul_zero, show w64 0 = 0 by rfl, Int.zero_fdiv, Int.add_zero, w64_in (n := x) (by omega) (by omega), w64_in (by omega) (by omega)]
    unfold F33
    rw [if_neg (by omega), if_neg (by omega)]
    simp [IntKind.wrap, IntKind.bits, IntKind.signed]; omega
  unfold F12
  simp only [bnd_def]
  rw [show F32 0 = 0 by rfl, one a e ha, one b f hb, one c g hc, one d h hd]

theorem part0 (a b : Int) : F35 a b a = some (.a0 0) := by
  unfold F35
  simp only [bnd_def]
  rw [if_pos (Int.le_refl _)]
theorem goes0 {k : W33} (h : Hw k) : F34 k.c5 k.c6 k.c7 k.c8 k.c9 0 = some (.a0 0) := by
  unfold F34
  rcases h.1 with h | h <;> rw [h] <;> rfl

theorem at_of (rs : List W33) (hl : rs.length ≤ 40) (hg : Gd rs) (hw : ∀ (j : Nat) (a : W33), rs[j]? = some a → Hw a) (i : Nat) (hi : i < rs.length) (t : Int) (a b c d : Int)
    (h1 : rs[i].c0 ≤ t) (h2 : ∀ (k : Nat) x, i < k → rs[k]? = some x → t < x.c0) (h3 : i + 1 < rs.length → t = rs[i].c0) : F15v1 (Rw rs) t a b c d = some (.a0 rs[i].c1 rs[i].c2 rs[i].c3 rs[i].c4) := by
  unfold F15v1
  have hlen : (Rw rs).length = rs.length := by simp
  have he : ((↑(List.length (Rw rs)) : Int) == 0) = false := by
    rw [hlen, beq_eq_false_iff_ne]; omega
  rw [if_neg (by rw [he]; simp), hlen, w64_in (by omega) (by omega), show (rs.length : Int) - 1 = ((rs.length - 1 : Nat) : Int) by omega]
  rw [search rs t i hl 100000 (rs.length - 1) (by omega) (by omega) (fun x hx => by rw [List.getElem?_eq_getElem hi] at hx; cases hx; exact h1) (fun k x hk _ hx => h2 k x hk hx) (by omega)]
  rw [Option.bind_some]
  simp only []
  rw [if_neg (by rw [beq_iff_eq]; omega)]
  by_cases hlast : i + 1 < rs.length
  · rw [if_neg (by rw [hlen, w64_in (by omega) (by omega), beq_iff_eq]; omega), if_pos (by omega), show Int.toNat (i : Int) = i by omega, rw_get, List.getElem?_eq_getElem hi, Option.bind_some,
      w64_in (by omega) (by omega), if_pos (by omega), show Int.toNat ((i : Int) + 1) = i + 1 by omega, rw_get, List.getElem?_eq_getElem hlast, Option.bind_some]
    have hb := hg.bd i _ (List.getElem?_eq_getElem hi)
    rw [h3 hlast, part0, Option.bind_some]
    simp only []
    rw [goes0 (hw i _ (List.getElem?_eq_getElem hi)), Option.bind_some]
    simp only []
    rw [mix0 _ _ _ _ _ _ _ _ hb.2.1 hb.2.2.1 hb.2.2.2.1 hb.2.2.2.2, Option.bind_some]
  · rw [if_pos (by rw [hlen, w64_in (by omega) (by omega), beq_iff_eq]; omega), if_pos (by omega), show Int.toNat (i : Int) = i by omega, rw_get, List.getElem?_eq_getElem hi, Option.bind_some]

theorem at_ahead (rs : List W33) (hl : rs.length ≤ 40) (hg : Gd rs) (h0 : 0 < rs.length) (t : Int) (a b c d : Int) (h1 : t < rs[0].c0) : F15v1 (Rw rs) t a b c d = some (.a0 rs[0].c1 rs[0].c2 rs[0].c3 rs[0].c4) := by
  unfold F15v1
  have hlen : (Rw rs).length = rs.length := by simp
  have he : ((↑(List.length (Rw rs)) : Int) == 0) = false := by
    rw [hlen, beq_eq_false_iff_ne]; omega
  rw [if_neg (by rw [he]; simp), hlen, w64_in (by omega) (by omega)]
  rw [search0 rs t hl 100000 rs.length (by omega) (fun k x hk hx => by
    by_cases hk0 : k = 0
    · subst hk0; rw [List.getElem?_eq_getElem h0] at hx; cases hx; exact h1
    · exact Int.lt_trans h1 (hg.inc 0 k _ _ (List.getElem?_eq_getElem h0) hx (by omega))) (by omega)]
  rw [Option.bind_some]
  simp only []
  rw [if_pos (by rfl), rw_get, List.getElem?_eq_getElem h0, Option.bind_some]

theorem right_ok (rs : List W33) (hl : rs.length ≤ 40) (hg : Gd rs) (hw : ∀ (j : Nat) (a : W33), rs[j]? = some a → Hw a) : ∀ (n i : Nat) (ahead : Int), i ≤ rs.length → (∀ x, rs[i]? = some x → 0 < i → ahead < x.c0) → rs.length < n + i →
    L16v1_0 n (Rw rs) ahead rs.length i = some (.e1 (Rw rs))
  | 0, i, ahead, hi, _, hn => by omega
  | n + 1, i, ahead, hi, ha, hn => by
    rw [L16v1_0]
    by_cases h : i < rs.length
    · rw [if_pos (by omega), if_pos (by omega), show Int.toNat (i : Int) = i by omega, rw_get, List.getElem?_eq_getElem h, Option.bind_some, bnd_def]
      have hb := hg.bd i _ (List.getElem?_eq_getElem h)
      have hh := hw i _ (List.getElem?_eq_getElem h)
      have hs : F36 i ahead rs[i].c0 rs[i].c5 rs[i].c6 rs[i].c7 rs[i].c8 rs[i].c9 = true := by
        unfold F36
        rw [if_neg (by omega), if_neg (by omega)]
        obtain ⟨h5, h6, h7, h8, h9⟩ := hh
        rw [h6, h7, h8, h9]
        by_cases hi0 : (i : Int) > 0
        · rw [if_pos hi0, if_neg (by have := ha _ (List.getElem?_eq_getElem h) (by omega); omega)]
          rcases h5 with h5 | h5 <;> rw [h5] <;> rfl
        · rw [if_neg hi0]
          rcases h5 with h5 | h5 <;> rw [h5] <;> rfl
      rw [hs, if_neg (by simp), w64_in (by omega) (by omega), show (i : Int) + 1 = ((i + 1 : Nat) : Int) by omega]
      exact right_ok rs hl hg hw n (i + 1) rs[i].c0 (by omega) (fun x hx _ => hg.inc i (i + 1) _ _ (List.getElem?_eq_getElem h) hx (by omega)) (by omega)
    · rw [if_neg (by omega)]

/-- Behind the first loop: keys that went by a curve go straight. -/
def Ab (i : Nat) (rs : List W33) : Prop := ∀ (j : Nat) (a : W33), rs[j]? = some a → Hw2 a ∧ (j < i → Hw a)
theorem get_set {rs : List W33} {i : Nat} {k : W33} (hi : i < rs.length) {j : Nat} {a : W33} (h : (rs.set i k)[j]? = some a) : (j = i ∧ a = k) ∨ (j ≠ i ∧ rs[j]? = some a) := by
  rw [List.getElem?_set] at h
  by_cases hj : i = j
  · rw [if_pos hj] at h
    rw [if_pos hi] at h
    exact .inl ⟨hj.symm, by simpa using h.symm⟩
  · rw [if_neg hj] at h
    exact .inr ⟨fun e => hj e.symm, h⟩
theorem gd_set {rs : List W33} {i : Nat} {k : W33} (hi : i < rs.length) (hg : Gd rs) (h0 : k.c0 = rs[i].c0) (h1 : k.c1 = rs[i].c1) (h2 : k.c2 = rs[i].c2) (h3 : k.c3 = rs[i].c3) (h4 : k.c4 = rs[i].c4) : Gd (rs.set i k) := by
  have hii := List.getElem?_eq_getElem hi
  constructor
  · intro p q a b ha hb hpq
    rcases get_set hi ha with ⟨e1, e2⟩ | ⟨e1, e2⟩ <;> rcases get_set hi hb with ⟨e3, e4⟩ | ⟨e3, e4⟩
    · omega
    · subst e2; subst e1; rw [h0]; exact hg.inc _ _ _ _ hii e4 hpq
    · subst e4; subst e3; rw [h0]; exact hg.inc _ _ _ _ e2 hii hpq
    · exact hg.inc _ _ _ _ e2 e4 hpq
  · intro p a ha
    rcases get_set hi ha with ⟨e1, e2⟩ | ⟨e1, e2⟩
    · subst e2; rw [h0, h1, h2, h3, h4]; exact hg.bd i _ hii
    · exact hg.bd p a e2
theorem loop0 (z : Int) : ∀ (n i : Nat) (rs : List W33), rs.length ≤ 40 → Gd rs → Ab i rs → i ≤ rs.length → rs.length < n + i →
    ∃ rs' : List W33, L4_0s1 n z rs.length rs.length i (Rw rs) = some (.e1 z rs'.length (Rw rs')) ∧ rs'.length = rs.length ∧ Gd rs' ∧ ∀ (j : Nat) (a : W33), rs'[j]? = some a → Hw a
  | 0, i, rs, _, _, _, hi, hn => by omega
  | n + 1, i, rs, hl, hg, hab, hi, hn => by
    rw [L4_0s1]
    by_cases h : i < rs.length
    · rw [if_pos (by omega), if_pos (by omega), show 0 + Int.toNat (i : Int) = i by omega, rw_get, List.getElem?_eq_getElem h, Option.bind_some]
      have hii := List.getElem?_eq_getElem h
      have hwi : w64 ((i : Int) + 1) = ((i + 1 : Nat) : Int) := by rw [w64_in (by omega) (by omega)]; omega
      by_cases h5 : (rs[i].c5 == 2) = true
      · rw [if_pos h5, Option.bind_some, hwi]
        have e1 : List.set (Rw rs) i [i64 rs[i].c0, u8 rs[i].c1, u8 rs[i].c2, u8 rs[i].c3, u8 rs[i].c4, i64 1, i64 rs[i].c6, i64 rs[i].c7, i64 rs[i].c8, i64 rs[i].c9] = Rw (rs.set i ⟨rs[i].c0, rs[i].c1, rs[i].c2, rs[i].c3, rs[i].c4, 1, rs[i].c6, rs[i].c7, rs[i].c8, rs[i].c9⟩) := by
          simp [Rw, List.map_set]
        rw [e1, rw_get, List.getElem?_set, if_pos rfl, if_pos h, Option.bind_some]
        have e2 : ∀ (l : List W33) (k : W33), List.set (Rw l) i k.cells = Rw (l.set i k) := fun l k => by simp [Rw, List.map_set]
        rw [e2 _ ⟨rs[i].c0, rs[i].c1, rs[i].c2, rs[i].c3, rs[i].c4, 1, 0, 0, 0, 0⟩, List.set_set]
        have hl' : (rs.set i (⟨rs[i].c0, rs[i].c1, rs[i].c2, rs[i].c3, rs[i].c4, 1, 0, 0, 0, 0⟩ : W33)).length = rs.length := List.length_set
        have := loop0 z n (i + 1) (rs.set i ⟨rs[i].c0, rs[i].c1, rs[i].c2, rs[i].c3, rs[i].c4, 1, 0, 0, 0, 0⟩) (by rw [hl']; exact hl) (gd_set h hg rfl rfl rfl rfl rfl) ?_ (by rw [hl']; omega) (by rw [hl']; omega)
        · rw [hl'] at this; exact this
        · intro j a ha
          rcases get_set h ha with ⟨e1, e2⟩ | ⟨e1, e2⟩
          · subst e2; exact ⟨.inl ⟨.inr rfl, rfl, rfl, rfl, rfl⟩, fun _ => ⟨.inr rfl, rfl, rfl, rfl, rfl⟩⟩
          · exact ⟨(hab j a e2).1, fun hj => (hab j a e2).2 (by omega)⟩
      · rw [if_neg h5, hwi]
        refine loop0 z n (i + 1) rs hl hg (fun j a ha => ⟨(hab j a ha).1, fun hj => ?_⟩) (by omega) (by omega)
        by_cases hj' : j < i
        · exact (hab j a ha).2 hj'
        · obtain rfl : j = i := by omega
          rw [hii] at ha; cases ha
          rcases (hab j _ hii).1 with hx | hx
          · exact hx
          · rw [hx] at h5; simp at h5
    · rw [if_neg (by omega)]
      exact ⟨rs, rfl, rfl, hg, fun j a ha => (hab j a ha).2 (by have := (List.getElem?_eq_some_iff.1 ha).1; omega)⟩

theorem same4 (a b c d : Int) : (!(a == a && (b == b && (c == c && (d == d && true))))) = false := by simp
theorem loop2 (z : Int) (rs : List W33) (hl : rs.length ≤ 40) (hg : Gd rs) (hw : ∀ (j : Nat) (a : W33), rs[j]? = some a → Hw a) : ∀ (n i : Nat), i ≤ rs.length → rs.length < n + i →
    L4_2s1 n z rs.length rs.length i (Rw rs) = some (.e2 z rs.length (Rw rs))
  | 0, i, hi, hn => by omega
  | n + 1, i, hi, hn => by
    rw [L4_2s1]
    have hlen : (Rw rs).length = rs.length := by simp
    by_cases h : i < rs.length
    · have hii := List.getElem?_eq_getElem h
      rw [if_pos (by omega), if_pos (by omega), show 0 + Int.toNat (i : Int) = i by omega, rw_get, hii, Option.bind_some, if_pos (by rw [hlen]; omega), List.take_of_length_le (by rw [hlen]; omega),
        at_of rs hl hg hw i h rs[i].c0 0 0 0 0 (Int.le_refl _) (fun k x hk hx => hg.inc i k _ _ hii hx hk) (fun _ => rfl), Option.bind_some]
      simp only []
      rw [Option.bind_some, same4, if_neg (by simp), w64_in (by omega) (by omega), show (i : Int) + 1 = ((i + 1 : Nat) : Int) by omega]
      exact loop2 z rs hl hg hw n (i + 1) (by omega) (by omega)
    · rw [if_neg (by omega)]

theorem known_ok : F13 = some (.a0 true) := by rfl
theorem and255 (x : Int) : ∃ d : Int, (0 ≤ d ∧ d ≤ 255) ∧ w64 (↑(BitVec.toNat (BitVec.ofInt (IntKind.bits IntKind.i64) x &&& BitVec.ofInt (IntKind.bits IntKind.i64) 255)) : Int) = d := by
  have h := and_le x 255 (by omega)
  have h' : ((BitVec.toNat (BitVec.ofInt (IntKind.bits IntKind.i64) x &&& BitVec.ofInt (IntKind.bits IntKind.i64) 255) : Nat) : Int) ≤ 255 := by exact_mod_cast h
  exact ⟨_, ⟨by omega, h'⟩, w64_in (by omega) (by omega)⟩
theorem hueEnds_plain (ks : List W33) (hks : ∀ (i : Nat) (k : W33), ks[i]? = some k → Col k) (t : Int) : F4 (Rw ks) t = some (.a0 true) := by
  unfold F4
  by_cases h0 : ks.length = 0
  · obtain rfl := List.length_eq_zero_iff.1 h0
    rw [rising_nil, Option.bind_some]
    rfl
  · obtain ⟨rs0, e, hg0, hw0, hp, h40⟩ := rising_ok ks hks (by omega)
    rw [e, Option.bind_some]
    simp only []
    obtain ⟨rs, e1, hlen0, hg, hw⟩ := loop0 t 100000 0 rs0 h40 hg0 (fun j a ha => ⟨hw0 j a ha, fun h => by omega⟩) (by omega) (by omega)
    have hl : rs.length ≤ 40 := by omega
    have hlen : (Rw rs).length = rs.length := by simp
    rw [show ((0 : Int)) = ((0 : Nat) : Int) by rfl, e1, Option.bind_some]
    simp only []
    rw [loop2 t rs hl hg hw 100000 0 (by omega) (by omega), Option.bind_some]
    simp only []
    have hr : 0 < rs.length := by omega
    obtain ⟨d, hd, he⟩ := and255 t
    have hz := List.getElem?_eq_getElem hr
    have hlt : rs.length - 1 < rs.length := by omega
    have hz' := List.getElem?_eq_getElem hlt
    have b0 := hg.bd 0 _ hz
    have b1 := hg.bd _ _ hz'
    have hn1 : w64 ((rs.length : Int) - 1) = ((rs.length - 1 : Nat) : Int) := by rw [w64_in (by omega) (by omega)]; omega
    rw [if_pos (by omega), if_pos (by omega), rw_get, hz, Option.bind_some, if_pos (by rw [hlen]; omega), List.take_of_length_le (by rw [hlen]; omega), he, w64_in (n := rs[0].c0 - 1) (by omega) (by omega), w64_in (by omega) (by omega),
      at_ahead rs hl hg hr _ _ _ _ _ (by omega), Option.bind_some]
    simp only []
    rw [Option.bind_some, same4, if_neg (by simp), hn1, if_pos (by omega), show 0 + Int.toNat ((rs.length - 1 : Nat) : Int) = rs.length - 1 by omega, rw_get, hz', Option.bind_some, w64_in (n := rs[rs.length - 1].c0 + 1) (by omega) (by omega), w64_in (by omega) (by omega),
      at_of rs hl hg hw (rs.length - 1) hlt _ _ _ _ _ (by omega) (fun k x hk hx => by have := (List.getElem?_eq_some_iff.1 hx).1; omega) (fun h => by omega), Option.bind_some]
    simp only []
    rw [Option.bind_some, same4, if_neg (by simp)]
    have hri : F16v1 (Rw rs) = some (.a0 (decide ((rs.length : Int) ≤ 32))) := by
      unfold F16v1
      rw [hlen]
      have := right_ok rs hl hg hw 100000 0 0 (by omega) (fun x hx h => by omega) (by omega)
      rw [show ((0 : Nat) : Int) = 0 by rfl] at this
      rw [this, Option.bind_some]
      simp only [hlen]
    rw [hri, Option.bind_some]
    simp only []
    rw [if_pos (by simp), bnd_def, if_pos (by rfl), known_ok]
    rfl
end Go.Proofs.Ytcomanfboibhiaa.H
namespace Go.Proofs.Ytcomanfboibhiaa.H
open Go Go.VM
theorem hueEnds_call {xs : List (List V)} (h : ∃ ks : List W33, xs = Rw ks ∧ ∀ k ∈ ks, KeyOk k) (t : Int) : call Try.prog X O0 100000 8 4 [.list 10 xs, .int .i64 t] [] = some (.bool true, []) := by
  obtain ⟨ks, rfl, hk⟩ := h
  exact F4_ok 0 (Rw ks) t (.a0 true) (hueEnds_plain ks (fun i k hi => (hk k (List.mem_of_getElem? hi)).c) t)
end Go.Proofs.Ytcomanfboibhiaa.H
