/- TrimParts in plain Lean. No condition beyond those stated. -/
import Derived.Test.YthohhdcngdmbeaaPl2
set_option linter.unusedVariables false
set_option linter.unusedSimpArgs false
namespace Go.Proofs.Ythohhdcngdmbeaa.H
open Go Go.VM
set_option maxRecDepth 100000
/-- How long what is kept is. -/
noncomputable def klen (l : List W34) (f t : Int) : Int := if 2 ≤ (cut l f t).length then plen (cut l f t) else 0
theorem klen_bd {l : List W34} (h : ∀ p ∈ l, okp p) (hL : l.length ≤ 13) {f t : Int} (hf : 0 ≤ f) (hft : f ≤ t) (htw : t ≤ sm (ll l) (nsides false l)) : t - f - 1508 ≤ klen l f t ∧ klen l f t ≤ t - f + 1508 := by
  have hn := nsides_le false l
  unfold klen cut
  by_cases hlt : f < t
  · rw [if_pos hlt]
    have la := laid false h hf hlt (nsides false l) (Nat.le_refl _)
    have hlen := pp_len l f t (nsides false l)
    have hm : mn t (sm (ll l) (nsides false l)) = t := by unfold mn; split <;> omega
    by_cases h0 : (pp l f t (nsides false l)).length = 0
    · have := la.none h0
      omega
    · obtain ⟨s1, s2, s3, s4⟩ := la.some h0
      rw [hm] at s3 s4
      rw [if_pos (by omega)]
      omega
  · rw [if_neg hlt, if_neg (by simp)]
    omega
theorem cut_ok {l : List W34} (h : ∀ p ∈ l, okp p) (f t : Int) : ∀ p ∈ cut l f t, okp p := by
  unfold cut
  split
  · exact pp_ok h f t _
  · simp
theorem cut_len (l : List W34) (f t : Int) : (cut l f t).length ≤ l.length + 1 := by
  unfold cut
  have hn := nsides_le false l
  split
  · have := (pp_len l f t (nsides false l)).1
    omega
  · simp
/-- The loop over what is kept of both. -/
theorem sum_loop {l : List W34} (h : ∀ p ∈ l, okp p) (hL : l.length ≤ 13) (w f1 t1 f2 t2 : Int) (n : Nat) : L6_0 (n + 1 + 1 + 1) w 0 ((kept l f1 t1).length + (kept l f2 t2).length) (((kept l f1 t1).length + (kept l f2 t2).length : Nat) : Int) 0 (Rp (kept l f1 t1) ++ Rp (kept l f2 t2)) =
    some (.e2 w (w64 (klen l f1 t1 + klen l f2 t2))) := by
  have one : ∀ (f t : Int), 2 ≤ (cut l f t).length → F29 false (Rw (cut l f t)) = some (.a0 (plen (cut l f t))) ∧ 0 ≤ plen (cut l f t) ∧ plen (cut l f t) ≤ 4294967296 * 14 := fun f t h2 => by
    have := cut_len l f t
    have hb := plen_bd (cut l f t)
    exact ⟨plen_eq (cut_ok h f t) (by omega), by omega, by omega⟩
  have dec0 : ∀ o : List W34, W39.dec [vb false, V.list 2 (Rw o)] = some ⟨false, Rw o⟩ := fun _ => rfl
  have neg2 : ∀ o : List W34, 2 ≤ o.length → ¬ (o.length : Int) < 2 := fun o h => by omega
  unfold kept klen
  by_cases h1 : 2 ≤ (cut l f1 t1).length
  · obtain ⟨a1, a2, a3⟩ := one f1 t1 h1
    have n1 := neg2 _ h1
    rw [if_pos h1, if_pos h1]
    by_cases h2 : 2 ≤ (cut l f2 t2).length
    · obtain ⟨b1, b2, b3⟩ := one f2 t2 h2
      have n2 := neg2 _ h2
      rw [if_pos h2, if_pos h2]
      simp only [List.length_singleton, List.map_cons, List.map_nil, List.cons_append, List.nil_append]
      rw [L6_0, if_pos (by decide), if_pos (by decide)]
      simp only [show 0 + Int.toNat 0 = 0 by rfl, List.getElem?_cons_zero, Option.bind_some, dec0, Bool.false_eq_true, if_false, rw_len, if_neg n1, a1, show w64 (0 + 1) = 1 by decide]
      rw [L6_0, if_pos (by decide), if_pos (by decide)]
      simp only [show 0 + Int.toNat 1 = 1 by rfl, List.getElem?_cons_succ, List.getElem?_cons_zero, Option.bind_some, dec0, Bool.false_eq_true, if_false, rw_len, if_neg n2, b1, show w64 (1 + 1) = 2 by decide]
      rw [L6_0, if_neg (by decide), Int.zero_add, w64_in (n := plen (cut l f1 t1)) (by omega) (by omega)]
    · rw [if_neg h2, if_neg h2]
      simp only [List.length_singleton, List.length_nil, List.map_cons, List.map_nil, List.append_nil]
      rw [L6_0, if_pos (by decide), if_pos (by decide)]
      simp only [show 0 + Int.toNat 0 = 0 by rfl, List.getElem?_cons_zero, Option.bind_some, dec0, Bool.false_eq_true, if_false, rw_len, if_neg n1, a1, show w64 (0 + 1) = 1 by decide]
      rw [L6_0, if_neg (by decide), Int.zero_add, Int.add_zero]
  · rw [if_neg h1, if_neg h1]
    by_cases h2 : 2 ≤ (cut l f2 t2).length
    · obtain ⟨b1, b2, b3⟩ := one f2 t2 h2
      have n2 := neg2 _ h2
      rw [if_pos h2, if_pos h2]
      simp only [List.length_singleton, List.length_nil, List.map_cons, List.map_nil, List.nil_append]
      rw [L6_0, if_pos (by decide), if_pos (by decide)]
      simp only [show 0 + Int.toNat 0 = 0 by rfl, List.getElem?_cons_zero, Option.bind_some, dec0, Bool.false_eq_true, if_false, rw_len, if_neg n2, b1, show w64 (0 + 1) = 1 by decide]
      rw [L6_0, if_neg (by decide), Int.zero_add]
    · rw [if_neg h2, if_neg h2]
      simp only [List.length_nil, List.map_nil, List.nil_append]
      rw [L6_0, if_neg (by decide)]; rfl
theorem trimParts_plain (tape : List W3) (hl : (tape.length : Int) ≤ 9223372036854775807) (a : Int) : F6 (Rt tape) a = some (.a0 true) := by
  obtain ⟨c, l, s, hp, hk, hL, _⟩ := poly_ex tape hl 0 (by decide)
  have ha : 0 ≤ a % 65536 ∧ a % 65536 < 65536 := by omega
  obtain ⟨e1, e2⟩ := length_open hk (by omega)
  have hw := tot_bd (l := l) (by omega)
  unfold F6
  rw [hp, Option.bind_some]
  simp only [rw_len, Nat.zero_add, Nat.le_refl, if_true, rw_all, land16, e2, Option.bind_some]
  generalize a % 65536 = k at *
  have fin : (F30.bind fun r => match r with | .a0 b => some (A6.a0 b)) = some (.a0 true) := by rw [known10]; rfl
  by_cases hw0 : (sm (ll l) (nsides false l) == 0) = true
  · rw [if_pos hw0]; exact fin
  · rw [if_neg hw0]
    by_cases hk0 : (k == 0) = true
    · rw [if_pos hk0]; exact fin
    · rw [if_neg hk0]
      rw [beq_iff_eq] at hw0 hk0
      have clo : ∀ x : Int, 0 ≤ x → x ≤ 65536 → cl x 0 65536 = x := fun x h1 h2 => cl_of h1 h2
      have l1 : lo 0 k = 0 := by unfold lo; rw [clo 0 (by omega) (by omega), clo k (by omega) (by omega), if_neg (by omega)]
      have h1 : hi 0 k = k := by unfold hi; rw [clo 0 (by omega) (by omega), clo k (by omega) (by omega), if_pos (by omega)]
      have l2 : lo k 65536 = k := by unfold lo; rw [clo k (by omega) (by omega), clo 65536 (by omega) (by omega), if_neg (by omega)]
      have h2 : hi k 65536 = 65536 := by unfold hi; rw [clo k (by omega) (by omega), clo 65536 (by omega) (by omega), if_pos (by omega)]
      have t1 := trim_one (f := 0) (t := k) hk (by omega) (by rw [h1]; omega)
      have t2 := trim_one (f := k) (t := 65536) hk (by omega) (by rw [l2]; omega)
      rw [l1, h1, Int.mul_zero, Int.zero_ediv] at t1
      rw [l2, h2, Int.mul_ediv_cancel _ (by decide)] at t2
      obtain ⟨_, m2, m3⟩ := mul_part (w := sm (ll l) (nsides false l)) (x := k) (by omega) (by omega)
      generalize hT : sm (ll l) (nsides false l) * k / 65536 = T at *
      have g1 := kept_good (l := l) (by omega) 0 T
      have g2 := kept_good (l := l) (by omega) T (sm (ll l) (nsides false l))
      have k1 := klen_bd hk (by omega) (f := 0) (t := T) (by omega) (by omega) (by omega)
      have k2 := klen_bd hk (by omega) (f := T) (t := sm (ll l) (nsides false l)) (by omega) (by omega) (by omega)
      have su := sum_loop hk (by omega) (sm (ll l) (nsides false l)) 0 T T (sm (ll l) (nsides false l)) 18446744073709551613
      simp only [t1, t2, Option.bind_some, rp_len, rp_all, Nat.le_refl, if_true, List.nil_append, true_and]
      rw [if_pos (by omega), if_pos (by omega), su, Option.bind_some]
      simp only []
      rw [w64_in (n := klen l 0 T + klen l T (sm (ll l) (nsides false l))) (by omega) (by omega), w64_in (n := sm (ll l) (nsides false l) + 8192) (by omega) (by omega), w64_in (n := sm (ll l) (nsides false l) - 8192) (by omega) (by omega), if_pos (by omega), if_pos (by omega)]
      exact fin
end Go.Proofs.Ythohhdcngdmbeaa.H
