/- The part from 0 to wherever behind the end of a line, open or closed. Conditions: those stated. -/
import Derived.Test.YtojigbcgmneiiaaArcLaw3
set_option linter.unusedVariables false
set_option linter.unusedSimpArgs false
namespace Go.Proofs.Ytojigbcgmneiiaa.H
open Go Go.VM
set_option maxRecDepth 100000
theorem zero_loop (c : Bool) {l : List W43} (h : ∀ p ∈ l, okp p) (hL : l.length ≤ 60) {N : Nat} (hN : N ≤ l.length) {T : Int} (hT : sm (ll l) N ≤ T) (hT0 : T ≤ 549755813888) : ∀ (m i k : Nat), i + m = N → m < k →
    goPart k 0 T (sm (ll l) i) (N : Int) (i : Int) c l (oo l i) = some (endPart (oo l N))
  | _, i, 0, hi, hk => by omega
  | 0, i, k + 1, hi, hk => by
    rw [show i = N by omega]
    cases oo l N with
    | nil => simp only [goPart, endPart]; rw [L33v1_0, if_neg (by omega)]
    | cons x xs => simp only [goPart, endPart]; rw [L33v1_0s1, if_neg (by omega)]
  | m + 1, i, k + 1, hi, hk => by
    have ha : okp (aa l i) := gt_ok h _
    have hb : okp (bb l i) := gt_ok h _
    have b1 := sm_bd (ll_bd l) i
    have b2 := ll_bd l i
    have b4 := sm_bd (ll_bd l) N
    have b5 : sm (ll l) (i + 1) ≤ sm (ll l) N := sm_le (ll_bd l) (by omega)
    have b6 : sm (ll l) (i + 1) = sm (ll l) i + ll l i := rfl
    have ih := zero_loop c h hL hN hT hT0 m (i + 1) k (by omega) (by omega)
    have ho := (oo_len l i).1
    have e : dist (aa l i) (bb l i) = ll l i := rfl
    have hadd : F55 (sm (ll l) i) (ll l i) = sm (ll l) (i + 1) := by rw [add_eq (by omega) (by omega) (by omega) (by omega)]; rfl
    by_cases h0 : ll l i = 0
    · rw [part_none h hL hN (by omega) _ _ _ _ (.inl h0), ← oo_same l i h0]; exact ih
    · have e2 := oo_snoc l i h0
      cases hz : oo l i with
      | nil =>
        have hs2 := (oo_nil l i).1 (by rw [hz]; rfl)
        simp only [goPart]
        rw [L33v1_0, if_pos (by omega), side_eq c h hL (show i < l.length by omega), Option.bind_some]
        simp only []
        rw [e, if_pos (by omega), bnd_def, hadd, if_pos (by omega), if_pos (by omega), w64_in (n := 0 - sm (ll l) i) (by omega) (by omega), on_a ha hb (by omega), Option.bind_some]
        simp only []
        rw [w64_in (n := T - sm (ll l) i) (by omega) (by omega), on_b ha hb (by omega) (by omega), Option.bind_some]
        simp only []
        rw [bnd_def, w_succ (by omega)]
        rw [hz, if_pos (show ([] : List W43).length = 0 by rfl)] at e2
        rw [e2] at ih
        exact ih
      | cons x xs =>
        simp only [goPart]
        rw [L33v1_0s1, if_pos (by omega), side_eq c h hL (show i < l.length by omega), Option.bind_some]
        simp only []
        rw [hz] at ho
        simp only [List.length_cons] at ho
        have hl2 : (Rw (x :: xs)).length = xs.length + 1 := by simp
        rw [e, if_pos (by omega), bnd_def, hadd, if_pos (by omega), if_pos (by omega), if_neg (by rw [beq_iff_eq]; omega), w64_in (n := T - sm (ll l) i) (by omega) (by omega), on_b ha hb (by omega) (by omega), Option.bind_some]
        simp only []
        rw [if_pos (by rw [hl2]; omega), bnd_def, w_succ (by omega)]
        rw [hz, if_neg (by simp)] at e2
        rw [e2, goPart_push] at ih
        rw [List.take_of_length_le (by rw [hl2]; omega), rw_push]
        exact ih
theorem part_zero (c : Bool) {l : List W43} (h : ∀ p ∈ l, okp p) (hL : l.length ≤ 60) {T : Int} (hT : sm (ll l) (nsides c l) ≤ T) (hT0 : T ≤ 549755813888) (hT1 : 0 < T) :
    F33v1 c (Rw l) 0 T = some (resPart (oo l (nsides c l))) := by
  have hnl := nsides_le c l
  unfold F33v1
  simp only [bnd_def, F57_eq]
  rw [hd_of (a := 0) (by decide) (by decide), hd_of (a := T) (by omega) (by omega), if_neg (by omega), sides_eq c l hL]
  have e3 := zero_loop c h hL hnl hT hT0 (nsides c l) 0 100000 (by omega) (by omega)
  simp only [goPart, sm, oo] at e3
  rw [show ((0 : Nat) : Int) = 0 by rfl] at e3
  rw [e3, Option.bind_some]
  cases oo l (nsides c l) <;> rfl
end Go.Proofs.Ytojigbcgmneiiaa.H
