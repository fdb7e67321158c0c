/- How long what lies between two places of a line is, but for rounding. Plain Lean over what the functions compute. Conditions: those stated. -/
import Derived.Test.YtojigbcgmneiiaaGeD
set_option linter.unusedVariables false
set_option linter.unusedSimpArgs false
namespace Go.Proofs.Ytojigbcgmneiiaa.H
open Go Go.VM
set_option maxRecDepth 100000
theorem pp_ok {l : List W43} (h : ∀ p ∈ l, okp p) (f t : Int) : ∀ i, ∀ p ∈ pp l f t i, okp p
  | 0 => by simp [pp]
  | i + 1 => by
    have ih := pp_ok h f t i
    by_cases hc : 0 < ll l i ∧ f < sm (ll l) (i + 1) ∧ sm (ll l) i < t
    · have hb := ll_bd l i
      have ok := fun d => onp_ok (a := aa l i) (b := bb l i) (gt_ok h _) (gt_ok h _) hc.1 (show ll l i ≤ 1099511627776 by omega) d
      rw [pp_on l f t i hc]
      split
      · intro p hp
        simp only [List.mem_append, List.mem_singleton] at hp
        rcases hp with rfl | rfl
        · exact ok _
        · exact ok _
      · intro p hp
        simp only [List.mem_append, List.mem_singleton] at hp
        rcases hp with hp | rfl
        · exact ih p hp
        · exact ok _
    · rw [pp_off l f t i hc]; exact ih
theorem plen_last (o : List W43) (h : o.length ≠ 0) (b : W43) : plen (o ++ [b]) = plen o + dist (gt o (o.length - 1)) b := by
  obtain ⟨xs, a, rfl⟩ : ∃ xs a, o = xs ++ [a] := by
    have hne : o ≠ [] := fun e => h (by rw [e]; rfl)
    exact ⟨o.dropLast, o.getLast hne, (List.dropLast_concat_getLast hne).symm⟩
  rw [plen_snoc]
  have : gt (xs ++ [a]) ((xs ++ [a]).length - 1) = a := by
    rw [List.length_append, List.length_singleton, Nat.add_sub_cancel, gt_last]
  rw [this]
def mn (t s : Int) : Int := if s ≤ t then s else t
/-- What is laid behind i sides: where it ends, how long it is. -/
structure Laid (c : Bool) (l : List W43) (f t : Int) (i : Nat) : Prop where
  none : (pp l f t i).length = 0 → sm (ll l) i ≤ f
  some : (pp l f t i).length ≠ 0 → f < sm (ll l) i ∧ (sm (ll l) i ≤ t → i < nsides c l → gt (pp l f t i) ((pp l f t i).length - 1) = aa l i) ∧
    mn t (sm (ll l) i) - f - 116 * i ≤ plen (pp l f t i) ∧ plen (pp l f t i) ≤ mn t (sm (ll l) i) - f + 56 * i
theorem laid (c : Bool) {l : List W43} (h : ∀ p ∈ l, okp p) {f t : Int} (hf : 0 ≤ f) (hft : f < t) : ∀ i, i ≤ nsides c l → Laid c l f t i
  | 0, _ => ⟨fun _ => hf, fun h => absurd rfl h⟩
  | i + 1, hi => by
    have ih := laid c h hf hft i (by omega)
    have hn := nsides_le c l
    have b0 := sm_bd (ll_bd l) i
    have b1 := ll_bd l i
    have b2 : sm (ll l) (i + 1) = sm (ll l) i + ll l i := rfl
    have hnext : i + 1 < nsides c l → bb l i = aa l (i + 1) := fun hlt => by
      unfold aa bb; rw [Nat.mod_eq_of_lt (by omega)]
    have ha : okp (aa l i) := gt_ok h _
    have hb : okp (bb l i) := gt_ok h _
    have hdist : dist (aa l i) (bb l i) = ll l i := rfl
    have hlen := pp_len l f t i
    by_cases hc : 0 < ll l i ∧ f < sm (ll l) (i + 1) ∧ sm (ll l) i < t
    · have hon := pp_on l f t i hc
      obtain ⟨c1, c2, c3⟩ := hc
      -- how far along the side the last place lies
      obtain ⟨d2, e1, e2, e3, e4⟩ : ∃ d2 : Int, 0 < d2 ∧ d2 ≤ ll l i ∧ onp (aa l i) (bb l i) (t - sm (ll l) i) (ll l i) = onp (aa l i) (bb l i) d2 (ll l i) ∧ mn t (sm (ll l) (i + 1)) = sm (ll l) i + d2 := by
        by_cases hl : ll l i ≤ t - sm (ll l) i
        · refine ⟨ll l i, c1, by omega, ?_, by unfold mn; rw [if_pos (by omega)]; omega⟩
          rw [onp_b ha hb (by omega) hl, onp_b ha hb c1 (by omega)]
        · exact ⟨t - sm (ll l) i, by omega, by omega, rfl, by unfold mn; rw [if_neg (by omega)]; omega⟩
      have hlast : sm (ll l) (i + 1) ≤ t → i + 1 < nsides c l → onp (aa l i) (bb l i) (t - sm (ll l) i) (ll l i) = aa l (i + 1) := fun h1 h2 => by
        rw [onp_b ha hb (by omega) (by omega), hnext h2]
      by_cases h0 : (pp l f t i).length = 0
      · rw [if_pos h0] at hon
        have hs := ih.none h0
        have fo := far_on ha hb (by rw [hdist]; exact c1) (d1 := f - sm (ll l) i) (d2 := d2) (by omega) (by unfold mn at e4; split at e4 <;> omega) (by rw [hdist]; exact e2)
        rw [hdist] at fo
        refine ⟨fun h => ?_, fun _ => ⟨c2, fun h1 h2 => ?_, ?_⟩⟩
        · rw [hon] at h; simp at h
        · rw [hon]; exact hlast h1 h2
        · have hp : plen (pp l f t (i + 1)) = dist (onp (aa l i) (bb l i) (f - sm (ll l) i) (ll l i)) (onp (aa l i) (bb l i) d2 (ll l i)) := by
            rw [hon, e3]; simp [plen]
          rw [hp, e4]
          omega
      · rw [if_neg h0] at hon
        obtain ⟨s1, s2, s3, s4⟩ := ih.some h0
        have s2 := s2 (by omega) (by omega)
        have hm : mn t (sm (ll l) i) = sm (ll l) i := by unfold mn; rw [if_pos (by omega)]
        have fo := far_on ha hb (by rw [hdist]; exact c1) (d1 := 0) (d2 := d2) (by omega) (by omega) (by rw [hdist]; exact e2)
        rw [hdist, onp_a ha hb (by omega)] at fo
        refine ⟨fun h => ?_, fun _ => ⟨c2, fun h1 h2 => ?_, ?_⟩⟩
        · rw [hon] at h; simp at h
        · rw [hon, List.length_append, List.length_singleton, Nat.add_sub_cancel, gt_last]; exact hlast h1 h2
        · have hp : plen (pp l f t (i + 1)) = plen (pp l f t i) + dist (aa l i) (onp (aa l i) (bb l i) d2 (ll l i)) := by
            rw [hon, plen_last _ h0, s2, e3]
          rw [hp, e4]
          omega
    · have hoff := pp_off l f t i hc
      by_cases h0 : (pp l f t i).length = 0
      · have := ih.none h0
        exact ⟨fun _ => by omega, fun h => absurd (by rw [hoff]; exact h0) h⟩
      · obtain ⟨s1, s2, s3, s4⟩ := ih.some h0
        refine ⟨fun h => absurd (by rw [← hoff]; exact h) h0, fun _ => ⟨by omega, fun h1 h2 => ?_, ?_⟩⟩
        · rw [hoff, s2 (by omega) (by omega), ← hnext h2]
          have hz : ll l i = 0 := by omega
          have := (dist_zero (aa l i) (bb l i)).1 hz
          generalize aa l i = u at *
          generalize bb l i = v at *
          cases u; cases v; simp at this; simp [this]
        · have : mn t (sm (ll l) (i + 1)) = mn t (sm (ll l) i) := by unfold mn; split <;> split <;> omega
          rw [hoff, this]
          omega
theorem length_open {l : List W43} (h : ∀ p ∈ l, okp p) (hL : l.length ≤ 60) : F32 false (Rw l) = some (.a0 (sm (ll l) (nsides false l))) ∧ F13 false (Rw l) = some (.a0 (sm (ll l) (nsides false l))) := by
  have e := length_eq false h hL
  obtain ⟨r, e1, e2⟩ := length2 false (l := l) (by omega)
  rw [e] at e1
  cases e1
  exact ⟨e, e2⟩
theorem tot_bd {l : List W43} (hL : l.length ≤ 60) : 0 ≤ sm (ll l) (nsides false l) ∧ sm (ll l) (nsides false l) ≤ 549755813888 := by
  have h1 := sm_bd (ll_bd l) (nsides false l)
  have h2 := nsides_le false l
  omega
/-- A line's length, told by its places. -/
theorem plen_eq {o : List W43} (h : ∀ p ∈ o, okp p) (hL : o.length ≤ 60) : F13 false (Rw o) = some (.a0 (plen o)) := by
  rw [(length_open h hL).2, plen_open]
theorem plen_bd : ∀ o : List W43, 0 ≤ plen o ∧ plen o ≤ 4294967296 * o.length
  | [] => by simp [plen]
  | [_] => by simp [plen]
  | a :: b :: t => by
    have := plen_bd (b :: t)
    have := dist_bd a b
    simp only [plen, List.length_cons] at *
    omega
end Go.Proofs.Ytojigbcgmneiiaa.H
