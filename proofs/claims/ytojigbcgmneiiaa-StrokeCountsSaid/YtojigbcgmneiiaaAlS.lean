/- Sides of a straight line, how long it is, and parts of it, in plain Lean over what the functions compute. Conditions: those stated (small places, few of them). -/
import Derived.Test.YtojigbcgmneiiaaPoS
set_option linter.unusedVariables false
set_option linter.unusedSimpArgs false
namespace Go.Proofs.Ytojigbcgmneiiaa.H.Z
open Go Go.VM Go.Proofs.Ytojigbcgmneiiaa.H
set_option maxRecDepth 100000
def gt (l : List W43) (i : Nat) : W43 := l.getD i (⟨0, 0⟩ : W43)
noncomputable def dist (a b : W43) : Int := hypv (b.c0 - a.c0) (b.c1 - a.c1)
theorem dist_bd (a b : W43) : 0 ≤ dist a b ∧ dist a b < 4294967296 := ⟨(hypv_bd _ _).1, (hypv_bd _ _).2.1⟩
theorem dist_zero (a b : W43) : dist a b = 0 ↔ a.c0 = b.c0 ∧ a.c1 = b.c1 := by
  have := (hypv_bd (b.c0 - a.c0) (b.c1 - a.c1)).2.2
  unfold dist; omega
theorem okp_z : okp (⟨0, 0⟩ : W43) := by unfold okp; decide
theorem gt_ok {l : List W43} (h : ∀ p ∈ l, okp p) (i : Nat) : okp (gt l i) := by
  unfold gt; rw [List.getD_eq_getElem?_getD]
  by_cases hi : i < l.length
  · rw [List.getElem?_eq_getElem hi]; exact h _ (List.getElem_mem hi)
  · rw [List.getElem?_eq_none (by omega)]; exact okp_z
theorem place_eq {p : W43} (h : okp p) : F75 p.c0 p.c1 = some (.a0 p.c0 p.c1) := by
  unfold okp at h
  unfold F75
  simp only [bnd_def, F98_eq]
  rw [cl_of (by omega) (by omega), cl_of (by omega) (by omega)]
def aa (l : List W43) (i : Nat) : W43 := gt l i
def bb (l : List W43) (i : Nat) : W43 := gt l ((i + 1) % l.length)
theorem get_gt {l : List W43} {i : Nat} (hi : i < l.length) : ((Rw l)[i]?).bind W43.dec = some (gt l i) := by
  rw [rw_get]; unfold gt; rw [List.getD_eq_getElem?_getD, List.getElem?_eq_getElem hi]; rfl
theorem side_eq (c : Bool) {l : List W43} (h : ∀ p ∈ l, okp p) (hL : l.length ≤ 60) {i : Nat} (hi : i < l.length) :
    F54 c (Rw l) (i : Int) = some (.a0 (aa l i).c0 (aa l i).c1 (bb l i).c0 (bb l i).c1 (dist (aa l i) (bb l i))) := by
  have hm : (i + 1) % l.length < l.length := Nat.mod_lt _ (by omega)
  have ha := gt_ok h i
  have hb := gt_ok h ((i + 1) % l.length)
  have hlen : (Rw l).length = l.length := by simp
  unfold F54
  rw [hlen, next_eq i _ hi (by omega)]
  rw [if_pos (by omega), show Int.toNat (i : Int) = i by omega, get_gt hi, Option.bind_some, place_eq ha, Option.bind_some]
  simp only []
  rw [if_neg (by omega), if_pos (by omega), show Int.toNat (((i + 1) % l.length : Nat) : Int) = (i + 1) % l.length by omega, get_gt hm, Option.bind_some, place_eq hb, Option.bind_some]
  simp only []
  unfold okp at ha hb
  rw [w64_in (by omega) (by omega), w64_in (by omega) (by omega), F89_eq, Option.bind_some]
  rfl
def nsides (c : Bool) (l : List W43) : Nat := if c = true ∧ 2 ≤ l.length then l.length else l.length - 1
theorem nsides_le (c : Bool) (l : List W43) : nsides c l ≤ l.length := by unfold nsides; split <;> omega
theorem sides_eq (c : Bool) (l : List W43) (hL : l.length ≤ 60) : F53 c (Rw l) = (nsides c l : Int) := by
  have hlen : (Rw l).length = l.length := by simp
  have h1 : (if w64 ((l.length : Int) - 1) > 0 then w64 ((l.length : Int) - 1) else 0) = ((l.length - 1 : Nat) : Int) := by
    rw [w64_in (by omega) (by omega)]; split <;> omega
  unfold F53 nsides
  rw [hlen, h1]
  cases c
  · rw [if_neg (by decide), if_neg (by simp)]
  · rw [if_pos rfl]
    by_cases h : 2 ≤ l.length
    · rw [if_pos (by omega), if_pos ⟨rfl, h⟩]
    · rw [if_neg (by omega), if_neg (fun h' => h h'.2)]
def sm (f : Nat → Int) : Nat → Int
  | 0 => 0
  | m + 1 => sm f m + f m
theorem sm_bd {f : Nat → Int} (h : ∀ i, 0 ≤ f i ∧ f i < 4294967296) : ∀ m : Nat, 0 ≤ sm f m ∧ sm f m ≤ (m : Int) * 4294967296
  | 0 => by simp [sm]
  | m + 1 => by
    have := sm_bd h m
    have := h m
    simp only [sm]; omega
theorem sm_le {f : Nat → Int} (h : ∀ i, 0 ≤ f i ∧ f i < 4294967296) {i n : Nat} (hi : i ≤ n) : sm f i ≤ sm f n := by
  induction hi with
  | refl => exact Int.le_refl _
  | step _ ih => have := h (‹Nat›); simp only [sm]; first | omega | (rename_i m _; have := h m; omega)
theorem sm_shift (f : Nat → Int) : ∀ m, sm f (m + 1) = f 0 + sm (fun i => f (i + 1)) m
  | 0 => by simp [sm]
  | m + 1 => by
    have := sm_shift f m
    simp only [sm] at this ⊢; omega
theorem sm_congr {f g : Nat → Int} : ∀ m, (∀ i, i < m → f i = g i) → sm f m = sm g m
  | 0, _ => rfl
  | m + 1, h => by simp only [sm]; rw [sm_congr m (fun i hi => h i (by omega)), h m (by omega)]
noncomputable def ll (l : List W43) (i : Nat) : Int := dist (aa l i) (bb l i)
theorem ll_bd (l : List W43) (i : Nat) : 0 ≤ ll l i ∧ ll l i < 4294967296 := dist_bd _ _

noncomputable def oo (l : List W43) : Nat → List W43
  | 0 => []
  | i + 1 => if ll l i = 0 then oo l i else (if (oo l i).length = 0 then [aa l i] else oo l i) ++ [bb l i]
theorem oo_len (l : List W43) : ∀ i, (oo l i).length ≤ i + 1 ∧ ((oo l i).length = 0 ∨ 2 ≤ (oo l i).length)
  | 0 => by simp [oo]
  | i + 1 => by
    have := oo_len l i
    unfold oo; split
    · omega
    · split <;> simp <;> omega
theorem oo_ok {l : List W43} (h : ∀ p ∈ l, okp p) : ∀ i, ∀ p ∈ oo l i, okp p
  | 0 => by simp [oo]
  | i + 1 => by
    have := oo_ok h i
    unfold oo; split
    · exact this
    · split
      · intro p hp; simp at hp; rcases hp with rfl | rfl
        · exact gt_ok h _
        · exact gt_ok h _
      · intro p hp; simp at hp; rcases hp with hp | rfl
        · exact this p hp
        · exact gt_ok h _
theorem oo_nil (l : List W43) : ∀ i, (oo l i).length = 0 ↔ sm (ll l) i = 0
  | 0 => by simp [oo, sm]
  | i + 1 => by
    have h1 := oo_nil l i
    have h2 := sm_bd (ll_bd l) i
    have h3 := ll_bd l i
    unfold oo; simp only [sm]
    split
    · rename_i h0; rw [h0]; simpa using h1
    · rename_i h0
      constructor
      · intro h; simp at h
      · intro h; omega
theorem oo_snoc (l : List W43) (i : Nat) (h : ¬ ll l i = 0) : oo l (i + 1) = (if (oo l i).length = 0 then [aa l i] else oo l i) ++ [bb l i] := by simp only [oo]; rw [if_neg h]
theorem oo_same (l : List W43) (i : Nat) (h : ll l i = 0) : oo l (i + 1) = oo l i := by simp only [oo]; rw [if_pos h]
theorem w_succ {i : Nat} (h : i < 1000) : w64 ((i : Int) + 1) = ((i + 1 : Nat) : Int) := by rw [w64_in (by omega) (by omega)]; omega
noncomputable def plen : List W43 → Int
  | [] => 0
  | [_] => 0
  | a :: b :: t => dist a b + plen (b :: t)
theorem plen_snoc (a b : W43) : ∀ xs, plen (xs ++ [a] ++ [b]) = plen (xs ++ [a]) + dist a b
  | [] => by simp [plen]
  | [x] => by simp [plen]
  | x :: y :: t => by
    have := plen_snoc a b (y :: t)
    simp only [List.cons_append] at this ⊢
    simp only [plen]; omega
theorem oo_plen (c : Bool) (l : List W43) : ∀ i, i ≤ nsides c l → (oo l i).length ≠ 0 → ∃ xs q, oo l i = xs ++ [q] ∧ plen (oo l i) = sm (ll l) i ∧ (i < nsides c l → q = aa l i)
  | 0, _, h => absurd rfl h
  | i + 1, hi, h => by
    have hb : i + 1 < nsides c l → bb l i = aa l (i + 1) := fun h' => by
      have := nsides_le c l
      unfold aa bb; rw [Nat.mod_eq_of_lt (by omega)]
    by_cases h0 : ll l i = 0
    · rw [oo_same l i h0] at h ⊢
      obtain ⟨xs, q, e1, e2, e3⟩ := oo_plen c l i (by omega) h
      refine ⟨xs, q, e1, by simp only [sm]; rw [e2, h0, Int.add_zero], fun h' => ?_⟩
      rw [e3 (by omega), ← hb h']
      have := (dist_zero (aa l i) (bb l i)).1 h0
      generalize aa l i = u at *
      generalize bb l i = v at *
      cases u; cases v; simp at this; simp [this]
    · rw [oo_snoc l i h0]
      by_cases hq : (oo l i).length = 0
      · rw [if_pos hq]
        refine ⟨[aa l i], bb l i, rfl, ?_, hb⟩
        simp only [sm]; rw [(oo_nil l i).1 hq]
        simp [plen, ll]
      · rw [if_neg hq]
        obtain ⟨xs, q, e1, e2, e3⟩ := oo_plen c l i (by omega) hq
        refine ⟨oo l i, bb l i, rfl, ?_, hb⟩
        have e3 := e3 (by omega)
        subst e3
        rw [e1, plen_snoc, ← e1, e2]; rfl
theorem plen_sum : ∀ l : List W43, plen l = sm (fun j => dist (gt l j) (gt l (j + 1))) (l.length - 1)
  | [] => rfl
  | [_] => rfl
  | a :: b :: t => by
    have ih := plen_sum (b :: t)
    have e : (a :: b :: t).length - 1 = ((b :: t).length - 1) + 1 := by simp
    rw [e, sm_shift]
    simp only [plen]
    rw [ih]; rfl
theorem plen_open (l : List W43) : sm (ll l) (nsides false l) = plen l := by
  rw [plen_sum]
  have e : nsides false l = l.length - 1 := by unfold nsides; rw [if_neg (by simp)]
  rw [e]
  refine sm_congr _ (fun i hi => ?_)
  unfold ll aa bb; rw [Nat.mod_eq_of_lt (by omega)]
theorem open_sides (l : List W43) : nsides false l = l.length - 1 := by unfold nsides; rw [if_neg (by simp)]
theorem gt_drop (l : List W43) (k i : Nat) : gt (l.drop k) i = gt l (k + i) := by
  unfold gt; rw [List.getD_eq_getElem?_getD, List.getD_eq_getElem?_getD, List.getElem?_drop]
theorem gt_take (l : List W43) (k i : Nat) (h : i < k) : gt (l.take k) i = gt l i := by
  unfold gt; rw [List.getD_eq_getElem?_getD, List.getD_eq_getElem?_getD, List.getElem?_take, if_pos h]
theorem ll_open (l : List W43) (i : Nat) (h : i + 1 < l.length) : ll l i = dist (gt l i) (gt l (i + 1)) := by
  unfold ll aa bb; rw [Nat.mod_eq_of_lt h]
theorem ll_drop (l : List W43) (k i : Nat) (h : k + i + 1 < l.length) : ll (l.drop k) i = ll l (k + i) := by
  rw [ll_open _ _ (by rw [List.length_drop]; omega), ll_open _ _ h, gt_drop, gt_drop]; rfl
theorem ll_take (l : List W43) (k i : Nat) (h : i + 1 < k) (hk : k ≤ l.length) : ll (l.take k) i = ll l i := by
  rw [ll_open _ _ (by rw [List.length_take]; omega), ll_open _ _ (by omega), gt_take _ _ _ (by omega), gt_take _ _ _ h]
theorem sm_add (f : Nat → Int) (k : Nat) : ∀ m, sm f (k + m) = sm f k + sm (fun i => f (k + i)) m
  | 0 => by simp [sm]
  | m + 1 => by
    have := sm_add f k m
    rw [← Nat.add_assoc]; simp only [sm]; omega
theorem sm_drop (l : List W43) (k m : Nat) (h : k + m + 1 ≤ l.length) : sm (ll (l.drop k)) m = sm (ll l) (k + m) - sm (ll l) k := by
  rw [sm_add, sm_congr m (fun i hi => ll_drop l k i (by omega))]; omega
theorem sm_take (l : List W43) (k : Nat) (h : k + 1 ≤ l.length) : sm (ll (l.take (k + 1))) k = sm (ll l) k :=
  sm_congr k (fun i hi => ll_take l (k + 1) i (by omega) h)
theorem oo_head (l : List W43) : ∀ i, i ≤ nsides false l → (oo l i).length ≠ 0 → gt (oo l i) 0 = gt l 0
  | 0, _, h => absurd rfl h
  | i + 1, hi, h => by
    have hs := open_sides l
    by_cases h0 : ll l i = 0
    · rw [oo_same l i h0] at h ⊢; exact oo_head l i (by omega) h
    · rw [oo_snoc l i h0]
      by_cases hq : (oo l i).length = 0
      · rw [if_pos hq]
        have z : ∀ m, m ≤ i → gt l m = gt l 0 := by
          intro m
          induction m with
          | zero => intro _; rfl
          | succ m ih =>
            intro hm
            have hz := (oo_nil l i).1 hq
            have b1 := sm_bd (ll_bd l) m
            have b2 : sm (ll l) (m + 1) ≤ sm (ll l) i := sm_le (ll_bd l) hm
            have b3 : sm (ll l) (m + 1) = sm (ll l) m + ll l m := rfl
            have b4 := ll_bd l m
            have e : ll l m = 0 := by omega
            rw [ll_open l m (by omega)] at e
            have e := (dist_zero _ _).1 e
            rw [← ih (by omega)]
            generalize gt l m = u at *
            generalize gt l (m + 1) = v at *
            cases u; cases v; simp at e; simp [e]
        show gt l i = gt l 0
        exact z i (Nat.le_refl _)
      · rw [if_neg hq]
        have ih := oo_head l i (by omega) hq
        rw [← ih]
        cases hc : oo l i with
        | nil => rw [hc] at hq; exact absurd rfl hq
        | cons a t => rfl

end Go.Proofs.Ytojigbcgmneiiaa.H.Z
