/- How much lies within, which way round, places as they may be: by the program and by the document. Plain Lean over what the functions compute. Conditions: those stated. -/
import Derived.Test.YtojigbcgmneiiaaPoS
set_option linter.unusedVariables false
set_option linter.unusedSimpArgs false
namespace Go.Proofs.Ytojigbcgmneiiaa.H
open Go Go.VM
set_option maxRecDepth 100000
def gt (l : List W43) (i : Nat) : W43 := l.getD i (⟨0, 0⟩ : W43)
theorem get_gt {l : List W43} {i : Nat} (hi : i < l.length) : ((Rw l)[i]?).bind W43.dec = some (gt l i) := by
  rw [rw_get]; unfold gt; rw [List.getD_eq_getElem?_getD, List.getElem?_eq_getElem hi]; rfl
theorem gt_ext {a b : List W43} (h : a.length = b.length) (hg : ∀ m, m < a.length → gt a m = gt b m) : a = b := by
  refine List.ext_getElem h fun m h1 h2 => ?_
  have := hg m h1
  unfold gt at this
  rw [List.getD_eq_getElem?_getD, List.getD_eq_getElem?_getD, List.getElem?_eq_getElem h1, List.getElem?_eq_getElem h2] at this
  exact this
theorem F41_eq (x y : Int) : F41 x y = some (.a0 (pl x) (pl y)) := rfl
theorem F58_eq (x y : Int) : F58 x y = some (.a0 (pl x) (pl y)) := rfl
/-- A side's part of how much lies within. -/
def T (l : List W43) (i : Nat) : Int := pl (gt l i).c0 * pl (gt l ((i + 1) % l.length)).c1 - pl (gt l ((i + 1) % l.length)).c0 * pl (gt l i).c1
def arw (l : List W43) : Nat → Int
  | 0 => 0
  | m + 1 => w64 (arw l m + T l m)
theorem nexti {i L : Nat} (hi : i < L) (hL : L ≤ 8796093022208) : Int.tmod (w64 ((i : Int) + 1)) (L : Int) = (((i + 1) % L : Nat) : Int) := by
  rw [w64_in (by omega) (by omega), Int.tmod_eq_emod_of_nonneg (by omega), Int.natCast_emod]; rfl
theorem area_loop {l : List W43} (hL : l.length ≤ 8796093022208) : ∀ (m n i : Nat), i + m = l.length → m < n →
    L17_0 n (Rw l) (arw l i) l.length i = some (.e0 (arw l l.length)) ∧ L48_0 n (Rw l) (arw l i) i = some (.e0 (arw l l.length))
  | _, 0, _, _, h => by omega
  | 0, n + 1, i, h, _ => by
    have hi : i = l.length := by omega
    rw [hi]
    exact ⟨by rw [L17_0, if_neg (by omega)], by rw [L48_0, rw_len, if_neg (by omega)]⟩
  | m + 1, n + 1, i, h, hn => by
    have hi : i < l.length := by omega
    have hm : (i + 1) % l.length < l.length := Nat.mod_lt _ (by omega)
    have ih := area_loop hL m n (i + 1) (by omega) (by omega)
    have c0 : (i : Int) < (l.length : Int) := by omega
    have c1 : (0 : Int) ≤ (i : Int) := by omega
    have c2 : ¬ (l.length : Int) = 0 := by omega
    have c3 : (0 : Int) ≤ (((i + 1) % l.length : Nat) : Int) := by omega
    have hs : w64 ((i : Int) + 1) = ((i + 1 : Nat) : Int) := by rw [w64_in (by omega) (by omega)]; omega
    rw [L17_0, L48_0]
    simp only [rw_len, if_pos c0, if_pos c1, if_neg c2, nexti hi hL, if_pos c3, show Int.toNat (i : Int) = i by omega, show Int.toNat (((i + 1) % l.length : Nat) : Int) = (i + 1) % l.length by omega, get_gt hi, get_gt hm, Option.bind_some, F41_eq, F58_eq]
    have e : ∀ a b z : Int, w64 (z + w64 (w64 a - w64 b)) = w64 (z + (a - b)) ∧ w64 (w64 (z + w64 a) - w64 b) = w64 (z + (a - b)) := fun a b z => by
      simp only [w64_eq]; omega
    rw [(e _ _ _).1, (e _ _ _).2, hs]
    exact ih
theorem area_eq {l : List W43} (hL : l.length ≤ 8796093022208) : F17 (Rw l) = some (.a0 (arw l l.length)) ∧ F48 (Rw l) = some (.a0 (arw l l.length)) := by
  obtain ⟨h1, h2⟩ := area_loop hL l.length 18446744073709551616 0 (by omega) (by omega)
  rw [show ((0 : Nat) : Int) = 0 by rfl] at h1 h2
  have h1' : L17_0 18446744073709551616 (Rw l) 0 l.length 0 = some (.e0 (arw l l.length)) := h1
  have h2' : L48_0 18446744073709551616 (Rw l) 0 0 = some (.e0 (arw l l.length)) := h2
  constructor
  · unfold F17; rw [rw_len, h1']; rfl
  · unfold F48; rw [h2']; rfl
theorem rw_set (o : List W43) (i : Nat) (x y : Int) : List.set (Rw o) i [i64 x, i64 y] = Rw (o.set i ⟨x, y⟩) := by
  simp only [Rw, List.map_set]
theorem gt_set (o : List W43) (i m : Nat) (p : W43) (hi : i < o.length) : gt (o.set i p) m = if m = i then p else gt o m := by
  unfold gt
  rw [List.getD_eq_getElem?_getD, List.getD_eq_getElem?_getD, List.getElem?_set]
  by_cases h : i = m
  · subst h; simp [hi]
  · rw [if_neg h, if_neg (fun e => h e.symm)]
theorem rev_loop {l : List W43} (hL : l.length ≤ 8796093022208) : ∀ (n i : Nat) (o : List W43), o.length = l.length → i ≤ l.length → l.length < n + i →
    (∀ m, m < l.length → gt o m = if m < i ∨ l.length ≤ m + i then gt l (l.length - 1 - m) else gt l m) → 2 * i ≤ l.length + 1 →
    ∃ o' : List W43, L42_0 n l.length i ((l.length : Int) - 1 - i) (Rw o) = some (.e0 (Rw o')) ∧ o'.length = l.length ∧ ∀ m, m < l.length → gt o' m = gt l (l.length - 1 - m)
  | 0, i, o, h1, h2, h3, _, _ => by omega
  | n + 1, i, o, h1, h2, h3, hg, h4 => by
    rw [L42_0]
    by_cases hc : (i : Int) < (l.length : Int) - 1 - i
    · have hj : (l.length : Int) - 1 - i = ((l.length - 1 - i : Nat) : Int) := by omega
      have hi : i < o.length := by omega
      have hjl : l.length - 1 - i < o.length := by omega
      rw [if_pos hc, hj]
      have s1 : ((Rw (o.set i (gt o (l.length - 1 - i))))[l.length - 1 - i]?).bind W43.dec = some (gt o (l.length - 1 - i)) := by
        rw [get_gt (by rw [List.length_set]; omega), gt_set _ _ _ _ hi, if_neg (by omega)]
      rw [if_pos (by omega), show 0 + Int.toNat ((l.length - 1 - i : Nat) : Int) = l.length - 1 - i by omega, get_gt hjl, Option.bind_some, if_pos (by omega), show 0 + Int.toNat (i : Int) = i by omega, get_gt hi, Option.bind_some, rw_set, s1, Option.bind_some, rw_set]
      have w1 : w64 ((i : Int) + 1) = ((i + 1 : Nat) : Int) := by rw [w64_in (by omega) (by omega)]; omega
      have w2 : w64 (((l.length - 1 - i : Nat) : Int) - 1) = (l.length : Int) - 1 - ((i + 1 : Nat) : Int) := by rw [w64_in (by omega) (by omega)]; omega
      rw [w1, w2]
      refine rev_loop hL n (i + 1) _ (by simp; omega) (by omega) (by omega) (fun m hm => ?_) (by omega)
      rw [gt_set _ _ _ _ (by rw [List.length_set]; omega), gt_set _ _ _ _ hi]
      have gi := hg i (by omega)
      have gj := hg (l.length - 1 - i) (by omega)
      rw [if_neg (by omega)] at gi gj
      by_cases m1 : m = l.length - 1 - i
      · rw [if_pos m1, if_pos (by omega), m1, show l.length - 1 - (l.length - 1 - i) = i by omega]; exact gi
      · rw [if_neg m1]
        by_cases m2 : m = i
        · rw [if_pos m2, if_pos (by omega), m2]; exact gj
        · rw [if_neg m2, hg m hm]
          by_cases m3 : m < i ∨ l.length ≤ m + i
          · rw [if_pos m3, if_pos (by omega)]
          · rw [if_neg m3, if_neg (by omega)]
    · rw [if_neg hc]
      refine ⟨o, rfl, h1, fun m hm => ?_⟩
      rw [hg m hm]
      by_cases m3 : m < i ∨ l.length ≤ m + i
      · rw [if_pos m3]
      · rw [if_neg m3]
        have : l.length - 1 - m = m := by omega
        rw [this]
theorem gt_rev {l : List W43} {m : Nat} (hm : m < l.length) : gt l.reverse m = gt l (l.length - 1 - m) := by
  unfold gt
  rw [List.getD_eq_getElem?_getD, List.getD_eq_getElem?_getD, List.getElem?_reverse hm]
theorem rev_eq {l : List W43} (hL : l.length ≤ 8796093022208) : F42 l.length (Rw l) = some (.a0 (Rw l.reverse)) := by
  obtain ⟨o, h1, h2, h3⟩ := rev_loop hL 18446744073709551616 0 l rfl (by omega) (by omega) (fun m hm => by rw [if_neg (by omega)]) (by omega)
  have e : o = l.reverse := gt_ext (by simp [h2]) fun m hm => by rw [h3 m (by omega), gt_rev (by omega)]
  subst e
  have hw : w64 ((l.length : Int) - 1) = (l.length : Int) - 1 - ((0 : Nat) : Int) := by rw [w64_in (by omega) (by omega)]; omega
  unfold F42
  rw [hw]
  have h1' : L42_0 18446744073709551616 l.length 0 ((l.length : Int) - 1 - ((0 : Nat) : Int)) (Rw l) = some (.e0 (Rw l.reverse)) := h1
  rw [h1']; rfl
/-- The right way round. -/
def turn (l : List W43) : List W43 := if arw l l.length < 0 then l.reverse else l
theorem turn_len (l : List W43) : (turn l).length = l.length := by unfold turn; split <;> simp
theorem turned1 {l : List W43} (hL : l.length ≤ 8796093022208) : F18 (Rw l) = some (.a0 l.length (Rw (turn l))) := by
  have c31 : F31 (Rw l) = some (.a0 (Rw l)) := by unfold F31; rw [if_pos (by rw [rw_len]; omega)]
  unfold F18
  rw [c31, Option.bind_some]
  simp only []
  rw [(area_eq hL).1, Option.bind_some]
  simp only [rw_len]
  unfold turn
  by_cases h : arw l l.length < 0
  · rw [if_pos h, if_pos h, rev_eq hL]; rfl
  · rw [if_neg h, if_neg h]
theorem turn_loop {l : List W43} (hL : l.length ≤ 8796093022208) (b : Bool) : ∀ (m n i : Nat), i + m = l.length → m < n →
    L49_0 n (Rw l) i b i (Rw ((if b = true then l.reverse else l).take i)) = some (.e0 l.length (Rw (if b = true then l.reverse else l)))
  | _, 0, _, _, h => by omega
  | 0, n + 1, i, h, _ => by
    rw [L49_0, rw_len, if_neg (by omega), show i = l.length by omega, List.take_of_length_le (by split <;> simp)]
  | m + 1, n + 1, i, h, hn => by
    have hi : i < l.length := by omega
    have ih := turn_loop hL b m n (i + 1) (by omega) (by omega)
    have hs : w64 ((i : Int) + 1) = ((i + 1 : Nat) : Int) := by rw [w64_in (by omega) (by omega)]; omega
    have tl : ((if b = true then l.reverse else l).take i).length = i := by rw [List.length_take]; split <;> (try rw [List.length_reverse]) <;> omega
    have snoc : ∀ p : W43, gt (if b = true then l.reverse else l) i = p → List.take i (Rw ((if b = true then l.reverse else l).take i)) ++ [[i64 p.c0, i64 p.c1]] = Rw ((if b = true then l.reverse else l).take (i + 1)) := fun p hp => by
      have h1 := push2 ((if b = true then l.reverse else l).take i) p.c0 p.c1
      rw [tl] at h1
      rw [h1, List.take_add_one]
      have hl2 : i < (if b = true then l.reverse else l).length := by split <;> (try rw [List.length_reverse]) <;> omega
      have : (if b = true then l.reverse else l)[i]? = some p := by
        rw [← hp]; unfold gt
        rw [List.getD_eq_getElem?_getD, List.getElem?_eq_getElem hl2]; rfl
      rw [this]; rfl
    rw [L49_0, rw_len, if_pos (by omega)]
    have gd : 0 + i ≤ List.length (Rw ((if b = true then l.reverse else l).take i)) ∧ (i + 1) * 16 ≤ 140737488355328 ∧ i + 1 ≤ 140737488355328 := by rw [rw_len, tl]; omega
    cases b with
    | true =>
      have hk : w64 (w64 ((l.length : Int) - 1) - i) = ((l.length - 1 - i : Nat) : Int) := by rw [w64_in (n := (l.length : Int) - 1) (by omega) (by omega), w64_in (by omega) (by omega)]; omega
      rw [if_pos rfl, hk, if_pos (by omega), show Int.toNat ((l.length - 1 - i : Nat) : Int) = l.length - 1 - i by omega, get_gt (by omega), Option.bind_some, if_pos gd, snoc _ (by rw [if_pos rfl]; exact gt_rev hi), hs]
      exact ih
    | false =>
      rw [if_neg (by decide), if_pos (by omega), show Int.toNat (i : Int) = i by omega, get_gt hi, Option.bind_some, if_pos gd, snoc _ (by rw [if_neg (by decide)]), hs]
      exact ih
theorem turned2 {l : List W43} (hL : l.length ≤ 8796093022208) : F49 (Rw l) = some (.a0 l.length (Rw (turn l))) := by
  have h := turn_loop hL (decide (arw l l.length < 0)) l.length 18446744073709551616 0 (by omega) (by omega)
  have h' : L49_0 18446744073709551616 (Rw l) 0 (decide (arw l l.length < 0)) 0 [] = some (.e0 l.length (Rw (if decide (arw l l.length < 0) = true then l.reverse else l))) := h
  unfold F49
  rw [(area_eq hL).2, Option.bind_some]
  simp only []
  rw [h', Option.bind_some]
  simp only [decide_eq_true_eq]
  rfl
def plc (p : W43) : W43 := ⟨pl p.c0, pl p.c1⟩
def pls (l : List W43) : List W43 := l.map plc
theorem pls_len (l : List W43) : (pls l).length = l.length := by simp [pls]
theorem gt_pls {l : List W43} {i : Nat} (hi : i < l.length) : gt (pls l) i = plc (gt l i) := by
  unfold gt pls
  rw [List.getD_eq_getElem?_getD, List.getD_eq_getElem?_getD, List.getElem?_map, List.getElem?_eq_getElem hi]; rfl
theorem place_loop {l : List W43} (hL : l.length ≤ 8796093022208) : ∀ (m n i : Nat) (o : List W43), i + m = l.length → m < n → o.length = l.length → (∀ q, q < l.length → gt o q = if q < i then plc (gt l q) else gt l q) →
    L64_0 n l.length l.length i (Rw o) = some (.e0 l.length (Rw (pls l)))
  | _, 0, _, _, _, h, _, _ => by omega
  | 0, n + 1, i, o, h, _, ho, hg => by
    have e : o = pls l := gt_ext (by rw [ho, pls_len]) fun q hq => by rw [hg q (by omega), if_pos (by omega), gt_pls (by omega)]
    rw [L64_0, if_neg (by omega), e]
  | m + 1, n + 1, i, o, h, hn, ho, hg => by
    have hs : w64 ((i : Int) + 1) = ((i + 1 : Nat) : Int) := by rw [w64_in (by omega) (by omega)]; omega
    have gi := hg i (by omega)
    rw [if_neg (by omega)] at gi
    rw [L64_0, if_pos (by omega), if_pos (by omega), show 0 + Int.toNat (i : Int) = i by omega, get_gt (by omega), Option.bind_some, F41_eq, Option.bind_some]
    simp only []
    rw [rw_set, hs]
    refine place_loop hL m n (i + 1) _ (by omega) (by omega) (by simp; omega) fun q hq => ?_
    rw [gt_set _ _ _ _ (by omega)]
    by_cases h1 : q = i
    · rw [if_pos h1, if_pos (by omega), h1, ← gi]; rfl
    · rw [if_neg h1, hg q hq]
      by_cases h2 : q < i
      · rw [if_pos h2, if_pos (by omega)]
      · rw [if_neg h2, if_neg (by omega)]
theorem poly1 {l : List W43} (hL : l.length ≤ 8796093022208) : F64 l.length (Rw l) = some (.a0 true l.length (Rw (pls l)) (Rw (turn (pls l)))) := by
  have h := place_loop hL l.length 18446744073709551616 0 l (by omega) (by omega) rfl (fun q hq => by rw [if_neg (by omega)])
  rw [show ((0 : Nat) : Int) = 0 by rfl] at h
  have hp := pls_len l
  have t := turned1 (l := pls l) (by omega)
  rw [hp] at t
  have tk : List.take l.length (Rw (pls l)) = Rw (pls l) := by rw [← hp]; exact rw_all (pls l)
  unfold F64
  rw [h, Option.bind_some]
  simp only []
  rw [if_pos (by rw [rw_len, hp]; omega), tk, t]; rfl
theorem shape_loop {l : List W43} (hL : l.length ≤ 8796093022207) : ∀ (m n i : Nat), i + m = l.length → m < n → L72_0 n (Rw l) i i (Rw ((pls l).take i)) = some (.e0 l.length (Rw (pls l)))
  | _, 0, _, _, h => by omega
  | 0, n + 1, i, h, _ => by
    rw [L72_0, rw_len, if_neg (by omega), show i = l.length by omega, List.take_of_length_le (by rw [pls_len]; omega)]
  | m + 1, n + 1, i, h, hn => by
    have hi : i < l.length := by omega
    have hp := pls_len l
    have ih := shape_loop hL m n (i + 1) (by omega) (by omega)
    have hs : w64 ((i : Int) + 1) = ((i + 1 : Nat) : Int) := by rw [w64_in (by omega) (by omega)]; omega
    have tl : ((pls l).take i).length = i := by rw [List.length_take]; omega
    have snoc : List.take i (Rw ((pls l).take i)) ++ [[i64 (pl (gt l i).c0), i64 (pl (gt l i).c1)]] = Rw ((pls l).take (i + 1)) := by
      have h1 := push2 ((pls l).take i) (pl (gt l i).c0) (pl (gt l i).c1)
      rw [tl] at h1
      rw [h1, List.take_add_one]
      have : (pls l)[i]? = some (plc (gt l i)) := by
        rw [← gt_pls hi]; unfold gt
        rw [List.getD_eq_getElem?_getD, List.getElem?_eq_getElem (by omega)]; rfl
      rw [this]; rfl
    rw [L72_0, rw_len, if_pos (by omega), if_pos (by omega), show Int.toNat (i : Int) = i by omega, get_gt hi, Option.bind_some, F58_eq, Option.bind_some]
    simp only []
    rw [if_pos (by rw [rw_len, tl]; omega), snoc, hs]
    exact ih
theorem poly2 {l : List W43} (hL : l.length ≤ 8796093022207) : F72 (Rw l) = some (.a0 true l.length (Rw (turn (pls l)))) := by
  have h := shape_loop hL l.length 18446744073709551616 0 (by omega) (by omega)
  rw [show ((0 : Nat) : Int) = 0 by rfl] at h
  have h' : L72_0 18446744073709551616 (Rw l) 0 0 [] = some (.e0 l.length (Rw (pls l))) := h
  have hp := pls_len l
  have t := turned2 (l := pls l) (by omega)
  rw [hp] at t
  have tk : List.take l.length (Rw (pls l)) = Rw (pls l) := by rw [← hp]; exact rw_all (pls l)
  unfold F72
  rw [h', Option.bind_some]
  simp only []
  rw [if_pos (by rw [rw_len, hp]; omega), tk, t]; rfl
end Go.Proofs.Ytojigbcgmneiiaa.H
