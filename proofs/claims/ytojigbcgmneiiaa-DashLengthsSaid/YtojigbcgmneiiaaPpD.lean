/- What lies on a line between two places, told side by side. Plain Lean over what the functions compute. Conditions: those stated (small places, few of them). -/
import Derived.Test.YtojigbcgmneiiaaAlD
set_option linter.unusedVariables false
set_option linter.unusedSimpArgs false
namespace Go.Proofs.Ytojigbcgmneiiaa.H
open Go Go.VM
set_option maxRecDepth 100000
theorem onp_ex (a b : W43) (d n : Int) : ∃ p : W43, F57 a.c0 a.c1 b.c0 b.c1 d n = some (.a0 p.c0 p.c1) := by
  obtain ⟨x, y, h, _⟩ := on2 a.c0 a.c1 b.c0 b.c1 d n
  exact ⟨⟨x, y⟩, h⟩
noncomputable def onp (a b : W43) (d n : Int) : W43 := Classical.choose (onp_ex a b d n)
theorem onp_eq (a b : W43) (d n : Int) : F57 a.c0 a.c1 b.c0 b.c1 d n = some (.a0 (onp a b d n).c0 (onp a b d n).c1) := Classical.choose_spec (onp_ex a b d n)
theorem w_ext {a b : W43} (h : (some (A57.a0 a.c0 a.c1)) = some (.a0 b.c0 b.c1)) : a = b := by
  cases a; cases b; cases h; rfl
theorem onp_a {a b : W43} (ha : okp a) (hb : okp b) {d n : Int} (h : d ≤ 0) : onp a b d n = a := w_ext ((onp_eq a b d n).symm.trans (on_a ha hb h))
theorem onp_b {a b : W43} (ha : okp a) (hb : okp b) {d n : Int} (h : 0 < d) (h' : n ≤ d) : onp a b d n = b := w_ext ((onp_eq a b d n).symm.trans (on_b ha hb h h'))
/-- What is laid behind i sides. -/
noncomputable def pp (l : List W43) (f t : Int) : Nat → List W43
  | 0 => []
  | i + 1 => if 0 < ll l i ∧ f < sm (ll l) (i + 1) ∧ sm (ll l) i < t then
      (if (pp l f t i).length = 0 then [onp (aa l i) (bb l i) (f - sm (ll l) i) (ll l i)] else pp l f t i) ++ [onp (aa l i) (bb l i) (t - sm (ll l) i) (ll l i)] else pp l f t i
theorem pp_len (l : List W43) (f t : Int) : ∀ i, (pp l f t i).length ≤ i + 1 ∧ ((pp l f t i).length = 0 ∨ 2 ≤ (pp l f t i).length)
  | 0 => by simp [pp]
  | i + 1 => by
    have := pp_len l f t i
    simp only [pp]
    split
    · split <;> simp <;> omega
    · omega
theorem pp_on (l : List W43) (f t : Int) (i : Nat) (h : 0 < ll l i ∧ f < sm (ll l) (i + 1) ∧ sm (ll l) i < t) : pp l f t (i + 1) =
    (if (pp l f t i).length = 0 then [onp (aa l i) (bb l i) (f - sm (ll l) i) (ll l i)] else pp l f t i) ++ [onp (aa l i) (bb l i) (t - sm (ll l) i) (ll l i)] := by
  simp only [pp]; rw [if_pos h]
theorem pp_off (l : List W43) (f t : Int) (i : Nat) (h : ¬ (0 < ll l i ∧ f < sm (ll l) (i + 1) ∧ sm (ll l) i < t)) : pp l f t (i + 1) = pp l f t i := by
  simp only [pp]; rw [if_neg h]
theorem pp_loop {l : List W43} {c : Bool} (h : ∀ p ∈ l, okp p) (hL : l.length ≤ 60) {n : Nat} (hn : n ≤ l.length) {f t : Int} (hf : 0 ≤ f ∧ f ≤ 1099511627776) (ht : 0 ≤ t ∧ t ≤ 1099511627776) : ∀ (m i k : Nat), i + m = n → m < k →
    L33_0 k f t (sm (ll l) i) (n : Int) (i : Int) c (Rw l) (pp l f t i).length (Rw (pp l f t i)) = some (.e0 (pp l f t n).length (Rw (pp l f t n)))
  | _, i, 0, hi, hk => by omega
  | 0, i, k + 1, hi, hk => by rw [show n = i by omega, L33_0, if_neg (by omega)]
  | m + 1, i, k + 1, hi, hk => by
    have b1 := sm_bd (ll_bd l) i
    have b2 := ll_bd l i
    have b6 : sm (ll l) (i + 1) = sm (ll l) i + ll l i := rfl
    have hadd : F55 (sm (ll l) i) (ll l i) = sm (ll l) (i + 1) := by rw [add_eq (by omega) (by omega) (by omega) (by omega)]; rfl
    have e : dist (aa l i) (bb l i) = ll l i := rfl
    have w1 : w64 (f - sm (ll l) i) = f - sm (ll l) i := w64_in (by omega) (by omega)
    have w2 : w64 (t - sm (ll l) i) = t - sm (ll l) i := w64_in (by omega) (by omega)
    have ih := pp_loop (c := c) h hL hn hf ht m (i + 1) k (by omega) (by omega)
    have hlen := pp_len l f t i
    rw [L33_0, if_pos (by omega), side_eq c h hL (show i < l.length by omega), Option.bind_some]
    simp only []
    rw [e]
    have off : pp l f t (i + 1) = pp l f t i → L33_0 k f t (sm (ll l) (i + 1)) n ((i + 1 : Nat) : Int) c (Rw l) (pp l f t i).length (Rw (pp l f t i)) = some (.e0 (pp l f t n).length (Rw (pp l f t n))) := fun h => by rw [h] at ih; exact ih
    by_cases h0 : ll l i > 0
    · rw [if_pos h0, bnd_def, hadd]
      by_cases h1 : sm (ll l) (i + 1) > f
      · rw [if_pos h1]
        by_cases h2 : sm (ll l) i < t
        · rw [if_pos h2]
          have hp := pp_on l f t i ⟨h0, h1, h2⟩
          by_cases h3 : (pp l f t i).length = 0
          · rw [if_pos h3] at hp
            have hz : pp l f t i = [] := List.eq_nil_of_length_eq_zero h3
            rw [hp] at ih
            simp only [hz, List.length_nil, Int.natCast_zero, beq_self_eq_true, if_true, w1, w2, onp_eq, Option.bind_some, List.map_nil, List.take_nil, List.nil_append, List.length_cons, bnd_def, w_succ (show i < 1000 by omega)]
            exact ih
          · rw [if_neg h3] at hp
            have hk : ¬ (((pp l f t i).length : Int) == 0) = true := by rw [beq_iff_eq]; omega
            rw [hp] at ih
            rw [if_neg hk, w2, onp_eq, Option.bind_some]
            simp only []
            rw [if_pos (by rw [rw_len]; omega), bnd_def, push2, w_succ (by omega)]
            rw [List.length_append, List.length_singleton] at ih
            exact ih
        · rw [if_neg h2, bnd_def, w_succ (by omega)]
          exact off (pp_off l f t i (by omega))
      · rw [if_neg h1, bnd_def, w_succ (by omega)]
        exact off (pp_off l f t i (by omega))
    · rw [if_neg h0, bnd_def, hadd, w_succ (by omega)]
      exact off (pp_off l f t i (by omega))
theorem part_eq {l : List W43} (c : Bool) (h : ∀ p ∈ l, okp p) (hL : l.length ≤ 60) {f t : Int} (hf : 0 ≤ f ∧ f ≤ 1099511627776) (ht : 0 ≤ t ∧ t ≤ 1099511627776) (hft : f < t) :
    F33 c (Rw l) f t = some (.a0 false (pp l f t (nsides c l)).length (Rw (pp l f t (nsides c l)))) := by
  have e := pp_loop (c := c) h hL (nsides_le c l) hf ht (nsides c l) 0 18446744073709551616 (by omega) (by have := nsides_le c l; omega)
  have e' : L33_0 18446744073709551616 f t 0 (nsides c l) 0 c (Rw l) 0 [] = some (.e0 (pp l f t (nsides c l)).length (Rw (pp l f t (nsides c l)))) := e
  unfold F33
  simp only [bnd_def, F57_eq]
  rw [hd_of (a := f) (by omega) (by omega), hd_of (a := t) (by omega) (by omega), if_neg (by omega), sides_eq c l hL, e']; rfl
theorem part_no {l : List W43} (c : Bool) {f t : Int} (hf : 0 ≤ f ∧ f ≤ 1099511627776) (ht : 0 ≤ t ∧ t ≤ 1099511627776) (hft : t ≤ f) : F33 c (Rw l) f t = some (.a0 false 0 []) := by
  unfold F33
  simp only [bnd_def, F57_eq]
  rw [hd_of (a := f) (by omega) (by omega), hd_of (a := t) (by omega) (by omega), if_pos (by omega)]
/-- An open line's part. -/
noncomputable def cut (l : List W43) (f t : Int) : List W43 := if f < t then pp l f t (nsides false l) else []
theorem cut_eq {l : List W43} (h : ∀ p ∈ l, okp p) (hL : l.length ≤ 60) {f t : Int} (hf : 0 ≤ f ∧ f ≤ 1099511627776) (ht : 0 ≤ t ∧ t ≤ 1099511627776) : F33 false (Rw l) f t = some (.a0 false (cut l f t).length (Rw (cut l f t))) := by
  unfold cut
  by_cases hft : f < t
  · rw [if_pos hft]; exact part_eq false h hL hf ht hft
  · rw [if_neg hft]; exact part_no false hf ht (by omega)
/-- Where a line's sides so far have no length, all its places so far are one. -/
theorem same_place (l : List W43) (i : Nat) (hi : i ≤ nsides false l) (hz : sm (ll l) i = 0) : gt l i = gt l 0 := by
  have hs := open_sides l
  induction i with
  | zero => rfl
  | succ m ih =>
    have b1 := sm_bd (ll_bd l) m
    have b4 := ll_bd l m
    have b3 : sm (ll l) (m + 1) = sm (ll l) m + ll l m := rfl
    have e : ll l m = 0 := by omega
    rw [ll_open l m (by omega)] at e
    have e := (dist_zero _ _).1 e
    rw [← ih (by omega) (by omega)]
    generalize gt l m = u at *
    generalize gt l (m + 1) = v at *
    cases u; cases v; simp at e; simp [e]
theorem same_next (l : List W43) (i : Nat) (hi : i < nsides false l) (hz : ll l i = 0) : gt l (i + 1) = gt l i := by
  have hs := open_sides l
  rw [ll_open l i (by omega)] at hz
  have e := (dist_zero _ _).1 hz
  generalize gt l i = u at *
  generalize gt l (i + 1) = v at *
  cases u; cases v; simp at e; simp [e]
theorem aa_open (l : List W43) (i : Nat) : aa l i = gt l i := rfl
theorem bb_open (l : List W43) (i : Nat) (hi : i < nsides false l) : bb l i = gt l (i + 1) := by
  have hs := open_sides l
  unfold bb; rw [Nat.mod_eq_of_lt (by omega)]
theorem gt_last (o : List W43) (p : W43) : gt (o ++ [p]) o.length = p := by
  unfold gt; rw [List.getD_eq_getElem?_getD, List.getElem?_append_right (Nat.le_refl _)]; simp
theorem gt_app (o : List W43) (p : W43) (i : Nat) (h : i < o.length) : gt (o ++ [p]) i = gt o i := by
  unfold gt; rw [List.getD_eq_getElem?_getD, List.getElem?_append_left h, ← List.getD_eq_getElem?_getD]
/-- A part from 0 begins where the line does. -/
theorem pp_head {l : List W43} (h : ∀ p ∈ l, okp p) (t : Int) (ht : 0 < t) : ∀ i, i ≤ nsides false l → ((pp l 0 t i).length = 0 → sm (ll l) i = 0) ∧ ((pp l 0 t i).length ≠ 0 → gt (pp l 0 t i) 0 = gt l 0)
  | 0, _ => ⟨fun _ => rfl, fun h => absurd rfl h⟩
  | i + 1, hi => by
    have ih := pp_head h t ht i (by omega)
    have b1 := sm_bd (ll_bd l) i
    have b2 := ll_bd l i
    have b3 : sm (ll l) (i + 1) = sm (ll l) i + ll l i := rfl
    by_cases hc : 0 < ll l i ∧ 0 < sm (ll l) (i + 1) ∧ sm (ll l) i < t
    · rw [pp_on l 0 t i hc]
      by_cases h0 : (pp l 0 t i).length = 0
      · rw [if_pos h0]
        refine ⟨fun h => by simp at h, fun _ => ?_⟩
        have hz := ih.1 h0
        show onp (aa l i) (bb l i) (0 - sm (ll l) i) (ll l i) = gt l 0
        rw [onp_a (a := aa l i) (b := bb l i) (gt_ok h _) (gt_ok h _) (by omega), aa_open, same_place l i (by omega) hz]
      · rw [if_neg h0]
        refine ⟨fun h => by simp at h, fun _ => ?_⟩
        rw [gt_app _ _ _ (by omega)]; exact ih.2 h0
    · rw [pp_off l 0 t i hc]
      refine ⟨fun h => ?_, ih.2⟩
      have := ih.1 h
      omega
/-- A part up to the end ends where the line does. -/
theorem pp_tail {l : List W43} (h : ∀ p ∈ l, okp p) (f : Int) : ∀ i, i ≤ nsides false l →
    ((pp l f (sm (ll l) (nsides false l)) i).length ≠ 0 → f < sm (ll l) i ∧ gt (pp l f (sm (ll l) (nsides false l)) i) ((pp l f (sm (ll l) (nsides false l)) i).length - 1) = gt l i)
  | 0, _, h => absurd rfl h
  | i + 1, hi, hne => by
    have ih := pp_tail h f i (by omega)
    have b1 := sm_bd (ll_bd l) i
    have b2 := ll_bd l i
    have b3 : sm (ll l) (i + 1) = sm (ll l) i + ll l i := rfl
    have b4 : sm (ll l) (i + 1) ≤ sm (ll l) (nsides false l) := sm_le (ll_bd l) hi
    by_cases hc : 0 < ll l i ∧ f < sm (ll l) (i + 1) ∧ sm (ll l) i < sm (ll l) (nsides false l)
    · rw [pp_on l f _ i hc]
      refine ⟨hc.2.1, ?_⟩
      rw [List.length_append, List.length_singleton, Nat.add_sub_cancel, gt_last, onp_b (a := aa l i) (b := bb l i) (gt_ok h _) (gt_ok h _) (by omega) (by omega), bb_open l i (by omega)]
    · rw [pp_off l f _ i hc] at hne ⊢
      obtain ⟨h1, h2⟩ := ih hne
      refine ⟨by omega, ?_⟩
      rw [h2, same_next l i (by omega) (by omega)]
end Go.Proofs.Ytojigbcgmneiiaa.H
