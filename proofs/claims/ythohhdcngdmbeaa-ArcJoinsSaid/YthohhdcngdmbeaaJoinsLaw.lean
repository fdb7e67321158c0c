/- An open line is as long as its two pieces at a corner; a part of it begins where it should: plain Lean over what the functions compute. Conditions: those of the statement. -/
import Derived.Test.YthohhdcngdmbeaaArcLaw
import Derived.KernelRfl
set_option linter.unusedVariables false
set_option linter.unusedSimpArgs false
namespace Go.Proofs.Ythohhdcngdmbeaa.H
open Go Go.VM
set_option maxRecDepth 100000
def goPoly (n : Nat) (m : Int) (tape : List W3) (s : Int) (c : Bool) (o : List W34) : Option R22_0 := match o with
  | [] => L22_0 n m (Rt tape) s c
  | x :: xs => L22_0s1 n m (Rt tape) s c (xs.length + 1) (Rw (x :: xs))
def endPoly (tape : List W3) (s : Int) (c : Bool) (o : List W34) : R22_0 := match o with
  | [] => .e0 (Rt tape) s c
  | x :: xs => .e1 (Rt tape) s c (xs.length + 1) (Rw (x :: xs))
def resPoly (tape : List W3) (s : Int) (c : Bool) (o : List W34) : A22 := match o with
  | [] => .a0 c (Rt tape) s
  | x :: xs => .a1 c (xs.length + 1) (Rt tape) s (Rw (x :: xs))
theorem goPoly_push (n : Nat) (m : Int) (tape : List W3) (s : Int) (c : Bool) (o : List W34) (p : W34) : goPoly n m tape s c (o ++ [p]) = L22_0s1 n m (Rt tape) s c (o.length + 1) (Rw (o ++ [p])) := by
  cases o with
  | nil => rfl
  | cons a o => simp [goPoly]
theorem poly_loop (tape : List W3) (hl : (tape.length : Int) ≤ 9223372036854775807) (c : Bool) : ∀ (m k : Nat) (o : List W34) (s : Int), 0 ≤ s → (∀ p ∈ o, okp p) → o.length + 2 * m ≤ 59 → m < k →
    ∃ (o' : List W34) (s' : Int), goPoly k m tape s c o = some (endPoly tape s' c o') ∧ (∀ p ∈ o', okp p) ∧ o'.length ≤ 59
  | _, 0, _, _, _, _, _, hk => by omega
  | 0, k + 1, o, s, hs, hp, hn, hk => by
    refine ⟨o, s, ?_, hp, by omega⟩
    cases o with
    | nil => simp only [goPoly, endPoly]; rw [L22_0, if_neg (by omega)]
    | cons x xs => simp only [goPoly, endPoly]; rw [L22_0s1, if_neg (by omega)]
  | m + 1, k + 1, o, s, hs, hp, hn, hk => by
    obtain ⟨x, s1, e1, x1, x2, p1⟩ := number_ex tape s hs hl
    obtain ⟨y, s2, e2, y1, y2, p2⟩ := number_ex tape s1 p1 hl
    obtain ⟨v, s3, e3, v1, v2, p3⟩ := next_ex tape s2 6 p2 hl (by decide)
    have hq : okp (⟨x, y⟩ : W34) := ⟨x1, x2, y1, y2⟩
    have hp1 : ∀ p ∈ o ++ [(⟨x, y⟩ : W34)], okp p := fun p h => by
      rw [List.mem_append, List.mem_singleton] at h; rcases h with h | rfl
      · exact hp p h
      · exact hq
    have hp2 : ∀ p ∈ o ++ [(⟨x, y⟩ : W34)] ++ [(⟨x, y⟩ : W34)], okp p := fun p h => by
      rw [List.mem_append, List.mem_singleton] at h; rcases h with h | rfl
      · exact hp1 p h
      · exact hq
    have n1 : (o ++ [(⟨x, y⟩ : W34)]).length = o.length + 1 := by simp
    have n2 : (o ++ [(⟨x, y⟩ : W34)] ++ [(⟨x, y⟩ : W34)]).length = o.length + 2 := by simp
    have hw : w64 (((m + 1 : Nat) : Int) - 1) = (m : Int) := by rw [w64_in (by omega) (by omega)]; omega
    have i1 := poly_loop tape hl c m k (o ++ [(⟨x, y⟩ : W34)]) s3 p3 hp1 (by omega) (by omega)
    have i2 := poly_loop tape hl c m k (o ++ [(⟨x, y⟩ : W34)] ++ [(⟨x, y⟩ : W34)]) s3 p3 hp2 (by omega) (by omega)
    rw [goPoly_push] at i1 i2
    rw [n1] at i2
    cases o with
    | nil =>
      simp only [goPoly]
      rw [L22_0, if_pos (by omega), e1, Option.bind_some]
      simp only []
      rw [e2, Option.bind_some]
      simp only []
      rw [e3, Option.bind_some]
      simp only []
      rw [hw]
      by_cases h0 : v = 0
      · rw [if_pos (by rw [beq_iff_eq]; exact h0)]; exact i2
      · rw [if_neg (by rw [beq_iff_eq]; exact h0)]; exact i1
    | cons a t =>
      simp only [List.length_cons] at hn
      have hl2 : (Rw (a :: t)).length = t.length + 1 := by simp
      have ht : List.take (t.length + 1) (Rw (a :: t)) ++ [[i64 x, i64 y]] = Rw (a :: t ++ [⟨x, y⟩]) := by rw [List.take_of_length_le (by rw [hl2]; omega)]; exact rw_push (a :: t) ⟨x, y⟩
      have hl3 : (Rw (a :: t ++ [(⟨x, y⟩ : W34)])).length = t.length + 2 := by simp
      have ht2 : List.take (t.length + 1 + 1) (Rw (a :: t ++ [⟨x, y⟩])) ++ [[i64 x, i64 y]] = Rw (a :: t ++ [⟨x, y⟩] ++ [⟨x, y⟩]) := by rw [List.take_of_length_le (by rw [hl3]; omega)]; exact rw_push (a :: t ++ [⟨x, y⟩]) ⟨x, y⟩
      simp only [goPoly]
      rw [L22_0s1, if_pos (by omega), e1, Option.bind_some]
      simp only []
      rw [e2, Option.bind_some]
      simp only []
      rw [if_pos (by rw [hl2]; omega), e3, Option.bind_some]
      simp only []
      rw [hw, ht]
      by_cases h0 : v = 0
      · rw [if_pos (by rw [beq_iff_eq]; exact h0), if_pos (by rw [hl3]; omega), ht2]; exact i2
      · rw [if_neg (by rw [beq_iff_eq]; exact h0)]; exact i1
theorem poly_ex (tape : List W3) (hl : (tape.length : Int) ≤ 9223372036854775807) : ∃ (c : Bool) (o : List W34) (s : Int), F22 (Rt tape) 0 = some (resPoly tape s c o) ∧ (∀ p ∈ o, okp p) ∧ o.length ≤ 59 := by
  obtain ⟨v1, s1, e1, l1, u1, p1⟩ := next_ex tape 0 2 (by decide) hl (by decide)
  obtain ⟨v2, s2, e2, l2, u2, p2⟩ := next_ex tape s1 7 p1 hl (by decide)
  obtain ⟨o, s, h, r1, r2⟩ := poly_loop tape hl (v1 == 0) v2.toNat 100000 [] s2 p2 (by simp) (by simp only [List.length_nil]; omega) (by omega)
  refine ⟨v1 == 0, o, s, ?_, r1, r2⟩
  unfold F22
  rw [e1, Option.bind_some]
  simp only []
  rw [e2, Option.bind_some]
  simp only []
  have e : ((v2.toNat : Nat) : Int) = v2 := by omega
  rw [e] at h
  simp only [goPoly] at h
  rw [h, Option.bind_some]
  cases o <;> rfl
theorem known9 : F25 = some (.a0 true) := by kernel_rfl
theorem len0 : F23 false = some (.a0 0) := by kernel_rfl
theorem idx_ex (a : Int) (L : Nat) (h0 : 0 < L) (hL : L ≤ 59) : ∃ q : Nat, Int.tmod (w64 ((Int.tmod a (L : Int)) + (L : Int))) (L : Int) = (q : Int) ∧ q < L := by
  have t1 : Int.tmod a (L : Int) < (L : Int) := Int.tmod_lt_of_pos a (by omega)
  have t2 : -(L : Int) < Int.tmod a (L : Int) := by have := Int.tmod_lt_of_pos (-a) (show (0 : Int) < (L : Int) by omega); rw [Int.neg_tmod] at this; omega
  rw [w64_in (by omega) (by omega)]
  have t3 : Int.tmod (Int.tmod a (L : Int) + (L : Int)) (L : Int) < (L : Int) := Int.tmod_lt_of_pos _ (by omega)
  have t4 : 0 ≤ Int.tmod (Int.tmod a (L : Int) + (L : Int)) (L : Int) := Int.tmod_nonneg _ (by omega)
  exact ⟨(Int.tmod (Int.tmod a (L : Int) + (L : Int)) (L : Int)).toNat, by omega, by omega⟩
theorem rw_take (l : List W34) (k : Nat) : List.take k (Rw l) = Rw (l.take k) := by simp [Rw, List.map_take]
theorem rw_drop (l : List W34) (k : Nat) : List.drop k (Rw l) = Rw (l.drop k) := by simp [Rw, List.map_drop]
theorem arcJoins_plain (tape : List W3) (hl : (tape.length : Int) ≤ 9223372036854775807) (a : Int) : F5 (Rt tape) a = some (.a0 true) := by
  obtain ⟨c, l, s, hp, hk, hL⟩ := poly_ex tape hl
  have hs := open_sides l
  unfold F5
  rw [hp]
  cases l with
  | nil =>
    simp only [resPoly, Option.bind_some]
    rw [len0, Option.bind_some]
    simp only []
    rw [if_pos (by rfl), bnd_def, if_pos (by rfl), known9]; rfl
  | cons x xs =>
    simp only [resPoly, Option.bind_some]
    generalize hl0 : x :: xs = l at *
    have hlen : xs.length + 1 = l.length := by rw [← hl0]; rfl
    rw [hlen]
    have hr : (Rw l).length = l.length := by simp
    have ht : List.take l.length (Rw l) = Rw l := by rw [List.take_of_length_le (by rw [hr]; omega)]
    have e2 : sm (ll l) 0 = 0 := rfl
    by_cases c2 : (l.length : Int) < 2
    · have hz : nsides false l = 0 := by omega
      rw [if_pos c2, if_pos (by rw [hr]; omega), ht, length_eq false hk (by omega), hz, Option.bind_some]
      simp only []
      rw [e2, if_pos (by rfl), bnd_def, sides_eq false l (by omega), hz, if_pos (by rfl), known9]; rfl
    · obtain ⟨q, eq, hq⟩ := idx_ex a l.length (by omega) hL
      have ew : w64 ((q : Int) + 1) = ((q + 1 : Nat) : Int) := by rw [w64_in (by omega) (by omega)]; omega
      have hd : ∀ p ∈ l.drop q, okp p := fun p h => hk p (List.mem_of_mem_drop h)
      have htk : ∀ p ∈ l.take (q + 1), okp p := fun p h => hk p (List.mem_of_mem_take h)
      have nd : (l.drop q).length = l.length - q := List.length_drop
      have nt : (l.take (q + 1)).length = q + 1 := by rw [List.length_take]; omega
      have sd : nsides false (l.drop q) = nsides false l - q := by rw [open_sides, nd]; omega
      have st : nsides false (l.take (q + 1)) = q := by rw [open_sides, nt]; omega
      have lt_ := length_eq false htk (by omega)
      rw [st, sm_take l q (by omega)] at lt_
      have ld := length_eq false hd (by omega)
      rw [sd] at ld
      have lf := length_eq false hk (by omega)
      have lx : F23v1 false (Rw (oo (l.drop q) (nsides false l - q))) = some (.a0 (sm (ll (l.drop q)) (nsides false l - q))) := by
        have ho := (oo_len (l.drop q) (nsides false l - q)).1
        rw [length_eq false (oo_ok hd _) (by omega), plen_open]
        by_cases h0 : (oo (l.drop q) (nsides false l - q)).length = 0
        · rw [(oo_nil (l.drop q) _).1 h0, List.length_eq_zero_iff.1 h0]; rfl
        · obtain ⟨_, _, _, e, _⟩ := oo_plen false (l.drop q) (nsides false l - q) (by omega) h0
          rw [e]
      have hsum := sm_drop l q (nsides false l - q) (by omega)
      rw [show q + (nsides false l - q) = nsides false l by omega] at hsum
      have b1 := sm_bd (ll_bd l) q
      have b2 := sm_bd (ll_bd l) (nsides false l)
      have b3 := sm_le (ll_bd l) (show q ≤ nsides false l by omega)
      have eS : w64 (sm (ll l) q + sm (ll (l.drop q)) (nsides false l - q)) = sm (ll l) (nsides false l) := by rw [hsum, w64_in (by omega) (by omega)]; omega
      have eL : w64 ((l.length : Int) - 1) = ((nsides false l : Nat) : Int) := by rw [w64_in (by omega) (by omega)]; omega
      have tt : List.take (Int.toNat (((q + 1 : Nat) : Int)) - 0) (Rw l) = Rw (l.take (q + 1)) := by rw [show Int.toNat (((q + 1 : Nat) : Int)) - 0 = q + 1 by omega, rw_take]
      have td : List.take (Int.toNat (l.length : Int) - Int.toNat (q : Int)) (List.drop (0 + Int.toNat (q : Int)) (Rw l)) = Rw (l.drop q) := by
        rw [show Int.toNat (l.length : Int) - Int.toNat (q : Int) = l.length - q by omega, show 0 + Int.toNat (q : Int) = q by omega, rw_drop, List.take_of_length_le (by simp)]
      simp only [eq, ew, tt, td, ht]
      rw [if_neg c2, if_neg (by omega), if_pos (by omega), if_pos (by omega), if_pos (by rw [hr]; omega), lt_, Option.bind_some]
      simp only []
      rw [if_pos (by rw [hr]; omega), lf, Option.bind_some]
      simp only []
      rw [part_from hk (by omega) (by omega), Option.bind_some]
      have hh := oo_head (l.drop q) (nsides false l - q) (by omega)
      cases ho : oo (l.drop q) (nsides false l - q) with
      | nil =>
        rw [ho] at lx
        have hz := (oo_nil (l.drop q) (nsides false l - q)).1 (by rw [ho]; rfl)
        simp only [resPart]
        rw [if_pos (by rw [hr]; omega), ld, Option.bind_some]
        simp only []
        rw [Option.bind_some]
        simp only []
        rw [eS, if_pos (by rw [beq_iff_eq]), len0, Option.bind_some]
        simp only []
        rw [Option.bind_some, hz, if_pos (by rfl), bnd_def, sides_eq false l (by omega), eL, if_pos (by rw [beq_iff_eq]), known9]; rfl
      | cons y ys =>
        rw [ho] at lx hh
        have hr2 : (Rw (y :: ys)).length = ys.length + 1 := by simp
        have ht2 : List.take (ys.length + 1) (Rw (y :: ys)) = Rw (y :: ys) := by rw [List.take_of_length_le (by rw [hr2]; omega)]
        simp only [resPart]
        rw [if_pos (by rw [hr]; omega), ld, Option.bind_some]
        simp only []
        rw [Option.bind_some]
        simp only []
        rw [eS, if_pos (by rw [beq_iff_eq]), if_pos (by rw [hr2]; omega), ht2, lx, Option.bind_some]
        simp only []
        rw [Option.bind_some, if_pos (by rw [beq_iff_eq]), if_neg (by rw [beq_iff_eq]; omega), if_pos (by omega), rw_get]
        simp only [List.getElem?_cons_zero, Option.bind_some]
        rw [if_pos (by omega), show 0 + Int.toNat (q : Int) = q by omega, get_gt (by omega), Option.bind_some]
        have e1 : y = gt l q := by
          have := hh (by simp)
          rw [gt_drop] at this
          exact this
        rw [e1, if_pos (by simp), bnd_def, sides_eq false l (by omega), eL, if_pos (by rw [beq_iff_eq]), known9]; rfl
end Go.Proofs.Ythohhdcngdmbeaa.H
namespace Go.Proofs.Ythohhdcngdmbeaa.H
open Go Go.VM
theorem arcJoins_call {xs : List (List V)} (hl : xs.length ≤ maxLen) (h : ∃ ks : List W3, xs = Rt ks) (a : Int) : call Try.prog X O0 100000 8 5 [.list 1 xs, .int .i64 a] [] = some (.bool true, []) := by
  obtain ⟨ks, rfl⟩ := h
  have hk : (ks.length : Int) ≤ 9223372036854775807 := by
    unfold maxLen at hl
    simp only [List.length_map] at hl
    omega
  exact F5_ok 0 (Rt ks) a (.a0 true) (arcJoins_plain ks hk a)
end Go.Proofs.Ythohhdcngdmbeaa.H
