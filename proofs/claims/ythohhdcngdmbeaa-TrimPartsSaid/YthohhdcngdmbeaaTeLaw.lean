/- TrimEnds in plain Lean. No condition beyond those stated. -/
import Derived.Test.YthohhdcngdmbeaaPp2
set_option linter.unusedVariables false
set_option linter.unusedSimpArgs false
namespace Go.Proofs.Ythohhdcngdmbeaa.H
open Go Go.VM
set_option maxRecDepth 100000
theorem land16 (a : Int) : w64 (↑(BitVec.toNat (BitVec.ofInt (IntKind.bits IntKind.i64) a &&& BitVec.ofInt (IntKind.bits IntKind.i64) 65535)) : Int) = a % 65536 := and16 a
theorem mul_part {w x : Int} (hw : 0 ≤ w ∧ w ≤ 549755813888) (hx : 0 ≤ x ∧ x ≤ 65536) : mul w x = w * x / 65536 ∧ 0 ≤ w * x / 65536 ∧ w * x / 65536 ≤ w := by
  have p1 : 0 ≤ w * x := Int.mul_nonneg hw.1 hx.1
  have p2 : w * x ≤ w * 65536 := Int.mul_le_mul_of_nonneg_left hx.2 hw.1
  refine ⟨?_, by omega, by omega⟩
  unfold mul
  rw [hd_of (a := w) (by omega) (by omega), hd_of (a := x) (by omega) (by omega), hd_of (by omega) (by omega)]
theorem length_open {l : List W34} (h : ∀ p ∈ l, okp p) (hL : l.length ≤ 60) : F23 false (Rw l) = some (.a0 (sm (ll l) (nsides false l))) ∧ F29 false (Rw l) = some (.a0 (sm (ll l) (nsides false l))) := by
  have e := length_eq false h hL
  obtain ⟨r, e1, e2⟩ := length2 false (l := l) (by omega)
  rw [e] at e1
  cases e1
  exact ⟨e, e2⟩
theorem tot_bd {l : List W34} (hL : l.length ≤ 60) : 0 ≤ sm (ll l) (nsides false l) ∧ sm (ll l) (nsides false l) ≤ 549755813888 := by
  have h1 := sm_bd (ll_bd l) (nsides false l)
  have h2 := nsides_le false l
  omega
/-- What is left of a line. -/
noncomputable def kept (l : List W34) (f t : Int) : List W39 := if 2 ≤ (cut l f t).length then [⟨false, Rw (cut l f t)⟩] else []
theorem trim_one {l : List W34} (h : ∀ p ∈ l, okp p) (hL : l.length ≤ 60) {f t : Int} (hn : ¬ (lo f t = 0 ∧ hi f t = 65536)) : F31 [[vb false, V.list 2 (Rw l)]] f t =
    some (.a0 (kept l (sm (ll l) (nsides false l) * lo f t / 65536) (sm (ll l) (nsides false l) * hi f t / 65536)).length (Rp (kept l (sm (ll l) (nsides false l) * lo f t / 65536) (sm (ll l) (nsides false l) * hi f t / 65536)))) := by
  obtain ⟨e1, _⟩ := length_open h hL
  have hw := tot_bd (l := l) hL
  obtain ⟨m1, m2, m3⟩ := mul_part hw (lo_bd f t)
  obtain ⟨m4, m5, m6⟩ := mul_part hw (hi_bd f t)
  generalize hW : sm (ll l) (nsides false l) = w at *
  have hc := cut_eq h hL (f := w * lo f t / 65536) (t := w * hi f t / 65536) (by omega) (by omega)
  generalize ho : cut l (w * lo f t / 65536) (w * hi f t / 65536) = o at *
  have hd0 : ((W39.dec [vb false, V.list 2 (Rw l)])) = some ⟨false, Rw l⟩ := rfl
  have one : L31_0 18446744073709551615 (lo f t) (hi f t) (kept l (w * lo f t / 65536) (w * hi f t / 65536)).length [[vb false, V.list 2 (Rw l)]] 1 1 (Rp (kept l (w * lo f t / 65536) (w * hi f t / 65536))) = some (.e0 (kept l (w * lo f t / 65536) (w * hi f t / 65536)).length (Rp (kept l (w * lo f t / 65536) (w * hi f t / 65536)))) := by
    rw [L31_0, if_neg (by decide)]
  unfold kept at one ⊢
  rw [ho] at one ⊢
  have first : L31_0 18446744073709551616 (lo f t) (hi f t) 0 [[vb false, V.list 2 (Rw l)]] 1 0 [] = L31_0 18446744073709551615 (lo f t) (hi f t) (if 2 ≤ o.length then [(⟨false, Rw o⟩ : W39)] else []).length [[vb false, V.list 2 (Rw l)]] 1 1 (Rp (if 2 ≤ o.length then [(⟨false, Rw o⟩ : W39)] else [])) := by
    rw [L31_0, if_pos (by decide), if_pos (by decide)]
    simp only [show Int.toNat 0 = 0 by rfl, List.getElem?_cons_zero, Option.bind_some, hd0, e1, F63_eq, m1, m4, hc]
    have tail : (if (o.length : Int) ≥ 2 then if 0 + o.length ≤ (Rw o).length then if 0 + 0 ≤ ([] : List (List V)).length ∧ (0 + 1) * 32 ≤ 140737488355328 ∧ 0 + 1 ≤ 140737488355328 then
        L31_0 18446744073709551615 (lo f t) (hi f t) (0 + 1) [[vb false, V.list 2 (Rw l)]] 1 (w64 (0 + 1)) (List.take 0 [] ++ [[vb false, V.list 2 (List.take o.length (Rw o))]]) else none else none
        else L31_0 18446744073709551615 (lo f t) (hi f t) 0 [[vb false, V.list 2 (Rw l)]] 1 (w64 (0 + 1)) []) =
        L31_0 18446744073709551615 (lo f t) (hi f t) (if 2 ≤ o.length then [(⟨false, Rw o⟩ : W39)] else []).length [[vb false, V.list 2 (Rw l)]] 1 1 (Rp (if 2 ≤ o.length then [(⟨false, Rw o⟩ : W39)] else [])) := by
      rw [show w64 (0 + 1) = 1 by decide]
      by_cases h2 : 2 ≤ o.length
      · rw [if_pos (by omega), if_pos (by rw [rw_len]; omega), if_pos (by decide), if_pos h2, rw_all]; rfl
      · rw [if_neg (by omega), if_neg h2]; rfl
    by_cases z1 : lo f t = 0
    · have z2 : ¬ hi f t = 65536 := fun h => hn ⟨z1, h⟩
      rw [if_pos (by rw [beq_iff_eq]; exact z1), if_neg (by rw [beq_iff_eq]; exact z2)]; exact tail
    · rw [if_neg (by rw [beq_iff_eq]; exact z1)]; exact tail
  unfold F31
  rw [span1, Option.bind_some]
  simp only []
  rw [show ((List.length [[vb false, V.list 2 (Rw l)]] : Nat) : Int) = 1 by rfl, first, one]; rfl
theorem span_swap (a b : Int) : lo a b = lo b a ∧ hi a b = hi b a := by
  unfold lo hi
  constructor <;> (split <;> split <;> omega)
theorem kept_good {l : List W34} (hL : l.length ≤ 60) (f t : Int) : (∀ p ∈ kept l f t, Gd p) ∧ (kept l f t).length ≤ 1 := by
  have hc : (cut l f t).length ≤ 61 := by
    unfold cut
    split
    · have := (pp_len l f t (nsides false l)).1
      have := nsides_le false l
      omega
    · simp
  unfold kept
  split
  · exact ⟨fun p hp => by rw [List.mem_singleton.1 hp]; exact ⟨_, rfl, by omega⟩, by simp⟩
  · exact ⟨fun p hp => by simp at hp, by simp⟩
theorem trimEnds_plain (tape : List W3) (hl : (tape.length : Int) ≤ 9223372036854775807) (a b : Int) : F7 (Rt tape) a b = some (.a0 true) := by
  obtain ⟨c, l, s, hp, hk, hL, _⟩ := poly_ex tape hl 0 (by decide)
  have ha : 0 ≤ a % 65536 ∧ a % 65536 < 65536 := by omega
  have hb : 0 ≤ b % 65536 ∧ b % 65536 < 65536 := by omega
  have hn := nsides_le false l
  unfold F7
  rw [hp, Option.bind_some]
  simp only [rw_len, Nat.zero_add, Nat.le_refl, if_true, rw_all, land16]
  generalize a % 65536 = a at *
  generalize b % 65536 = b at *
  generalize hW : sm (ll l) (nsides false l) = w at *
  have hw := tot_bd (l := l) (by omega)
  have clo : ∀ x : Int, 0 ≤ x → x ≤ 65536 → cl x 0 65536 = x := fun x h1 h2 => cl_of h1 h2
  have one : ∀ f t : Int, 0 ≤ f → f ≤ 65536 → 0 ≤ t → t ≤ 65536 → ¬ (lo f t = 0 ∧ hi f t = 65536) → F31 [[vb false, V.list 2 (Rw l)]] f t = some (.a0 (kept l (w * lo f t / 65536) (w * hi f t / 65536)).length (Rp (kept l (w * lo f t / 65536) (w * hi f t / 65536)))) := fun f t h1 h2 h3 h4 h5 => by
    have := trim_one hk (by omega) h5
    rw [hW] at this; exact this
  have hab : ¬ (lo a b = 0 ∧ hi a b = 65536) := by unfold hi; rw [clo a (by omega) (by omega), clo b (by omega) (by omega)]; intro h; split at h <;> omega
  obtain ⟨s1, s2⟩ := span_swap b a
  have e1 := one a b (by omega) (by omega) (by omega) (by omega) hab
  have e2 := one b a (by omega) (by omega) (by omega) (by omega) (by rw [s1, s2]; exact hab)
  rw [s1, s2] at e2
  rw [e1, Option.bind_some]
  simp only []
  rw [e2, Option.bind_some]
  simp only []
  obtain ⟨g1, g2⟩ := kept_good (l := l) (by omega) (w * lo a b / 65536) (w * hi a b / 65536)
  simp only [rp_len, Nat.zero_add, Nat.le_refl, if_true, rp_all, polys_same _ g1 (by omega), Option.bind_some, Bool.not_true, Bool.false_eq_true, if_false]
  -- the first part
  generalize hB : (if 1 > b then 1 else b) = B
  have hB' : 1 ≤ B ∧ B ≤ 65535 := by rw [← hB]; split <;> omega
  generalize hA : (if 65535 < a then 65535 else a) = A
  have hA' : A = a := by rw [← hA, if_neg (by omega)]
  have l1 : lo 0 B = 0 := by unfold lo; rw [clo 0 (by omega) (by omega), clo B (by omega) (by omega), if_neg (by omega)]
  have h1 : hi 0 B = B := by unfold hi; rw [clo 0 (by omega) (by omega), clo B (by omega) (by omega), if_pos (by omega)]
  have l2 : lo A 65536 = A := by unfold lo; rw [clo A (by omega) (by omega), clo 65536 (by omega) (by omega), if_neg (by omega)]
  have h2 : hi A 65536 = 65536 := by unfold hi; rw [clo A (by omega) (by omega), clo 65536 (by omega) (by omega), if_pos (by omega)]
  have e3 := one 0 B (by omega) (by omega) (by omega) (by omega) (by rw [h1]; omega)
  rw [l1, h1, Int.mul_zero, Int.zero_ediv] at e3
  have fin : ∀ x : Bool, x = true → (F30.bind fun r => match r with | .a0 b => some (A7.a0 b)) = some (.a0 true) := fun _ _ => by rw [known10]; rfl
  -- what is told of the second part
  have second : ∀ (k : Nat) (rows : List (List V)), F31 [[vb false, V.list 2 (Rw l)]] A 65536 = some (.a0 k rows) → a > 0 → k = (kept l (w * a / 65536) w).length ∧ rows = Rp (kept l (w * a / 65536) w) := fun k rows h hpos => by
    have := one A 65536 (by omega) (by omega) (by omega) (by omega) (by rw [l2]; omega)
    rw [l2, h2, Int.mul_ediv_cancel _ (by decide), hA'] at this
    rw [hA', this] at h
    cases h
    exact ⟨rfl, rfl⟩
  have ex2 : ∃ (k : Nat) (rows : List (List V)), F31 [[vb false, V.list 2 (Rw l)]] A 65536 = some (.a0 k rows) := by
    obtain ⟨q, h, _⟩ := trim2 (ps := [⟨false, Rw l⟩]) (fun p hp => by rw [List.mem_singleton.1 hp]; exact ⟨l, rfl, by omega⟩) (by simp) A 65536
    exact ⟨_, _, h⟩
  obtain ⟨k2, rows2, e4⟩ := ex2
  rw [e3, Option.bind_some]
  simp only []
  rw [e4, Option.bind_some]
  simp only []
  -- the end
  have tl : (if a > 0 then if (k2 : Int) > 0 then if (0 : Int) ≤ (0 : Int) ∧ (0 : Int) < (k2 : Int) then ((rows2[(0 : Nat)]?).bind W39.dec).bind fun e969 => if ((e969.c1.length : Int) == 0) = true then none else if 0 ≤ w64 ((e969.c1.length : Int) - 1) then
      ((e969.c1[Int.toNat (w64 ((e969.c1.length : Int) - 1))]?).bind W34.dec).bind fun e970 => if 0 ≤ w64 ((l.length : Int) - 1) ∧ w64 ((l.length : Int) - 1) < (l.length : Int) then
      (((Rw l)[Int.toNat (w64 ((l.length : Int) - 1))]?).bind W34.dec).bind fun e971 => if (!(e970.c0 == e971.c0 && (e970.c1 == e971.c1 && true))) = true then none else (F30.bind fun r => match r with | .a0 b => some (A7.a0 b)) else none else none else none
      else (F30.bind fun r => match r with | .a0 b => some (A7.a0 b)) else (F30.bind fun r => match r with | .a0 b => some (A7.a0 b))) = some (.a0 true) := by
    by_cases ha0 : a > 0
    · obtain ⟨rfl, rfl⟩ := second k2 rows2 e4 ha0
      rw [if_pos ha0]
      have m := mul_part (w := w) (x := a) (by omega) (by omega)
      by_cases hq : 2 ≤ (cut l (w * a / 65536) w).length
      · have hkq : kept l (w * a / 65536) w = [⟨false, Rw (cut l (w * a / 65536) w)⟩] := by unfold kept; rw [if_pos hq]
        have hcut : w * a / 65536 < w := by
          refine Classical.byContradiction fun h => ?_
          unfold cut at hq; rw [if_neg h] at hq; simp at hq
        have hce : cut l (w * a / 65536) w = pp l (w * a / 65536) w (nsides false l) := by unfold cut; rw [if_pos hcut]
        have ht := pp_tail hk (w * a / 65536) (nsides false l) (Nat.le_refl _)
        rw [hW, ← hce] at ht
        have ht := (ht (by omega)).2
        have hlen : (cut l (w * a / 65536) w).length ≤ 61 := by rw [hce]; have := (pp_len l (w * a / 65536) w (nsides false l)).1; omega
        rw [hkq]
        simp only [List.length_cons, List.length_nil, Nat.zero_add, List.map_cons, List.map_nil, List.getElem?_cons_zero, Option.bind_some]
        generalize cut l (w * a / 65536) w = o at *
        have hd0 : (W39.dec (W39.cells ⟨false, Rw o⟩)) = some ⟨false, Rw o⟩ := rfl
        have hs := open_sides l
        have hl0 : 0 < l.length := by
          refine Classical.byContradiction fun h => ?_
          have hz : l = [] := List.eq_nil_of_length_eq_zero (by omega)
          have hw0 : w = 0 := by rw [← hW, hs, hz]; rfl
          rw [hw0] at hcut; omega
        have w1 : w64 ((o.length : Int) - 1) = ((o.length - 1 : Nat) : Int) := by rw [w64_in (by omega) (by omega)]; omega
        have w2 : w64 ((l.length : Int) - 1) = ((l.length - 1 : Nat) : Int) := by rw [w64_in (by omega) (by omega)]; omega
        simp only [hd0, Option.bind_some, rw_len, w1, w2]
        rw [if_pos (by decide), if_pos (by decide), if_neg (by rw [beq_iff_eq]; omega), if_pos (by omega), show Int.toNat ((o.length - 1 : Nat) : Int) = o.length - 1 by omega, get_gt (by omega), Option.bind_some, if_pos (by omega), show Int.toNat ((l.length - 1 : Nat) : Int) = l.length - 1 by omega, get_gt (by omega), Option.bind_some, ht, ← hs, if_neg (by simp)]
        exact fin true rfl
      · have hkq : kept l (w * a / 65536) w = [] := by unfold kept; rw [if_neg hq]
        rw [hkq, if_neg (by decide)]; exact fin true rfl
    · rw [if_neg ha0]; exact fin true rfl
  have m := mul_part (w := w) (x := B) (by omega) (by omega)
  by_cases hq : 2 ≤ (cut l 0 (w * B / 65536)).length
  · have hkq : kept l 0 (w * B / 65536) = [⟨false, Rw (cut l 0 (w * B / 65536))⟩] := by unfold kept; rw [if_pos hq]
    have hcut : 0 < w * B / 65536 := by
      refine Classical.byContradiction fun h => ?_
      unfold cut at hq; rw [if_neg h] at hq; simp at hq
    have hce : cut l 0 (w * B / 65536) = pp l 0 (w * B / 65536) (nsides false l) := by unfold cut; rw [if_pos hcut]
    have ht := (pp_head hk (w * B / 65536) hcut (nsides false l) (Nat.le_refl _)).2
    rw [← hce] at ht
    have ht := ht (by omega)
    have hs := open_sides l
    have hl0 : 0 < l.length := by
      refine Classical.byContradiction fun h => ?_
      have hz : l = [] := List.eq_nil_of_length_eq_zero (by omega)
      have hw0 : w = 0 := by rw [← hW, hs, hz]; rfl
      rw [hw0] at hcut; omega
    rw [hkq]
    simp only [List.length_cons, List.length_nil, Nat.zero_add, List.map_cons, List.map_nil, List.getElem?_cons_zero, Option.bind_some]
    generalize cut l 0 (w * B / 65536) = o at *
    have hd0 : (W39.dec (W39.cells ⟨false, Rw o⟩)) = some ⟨false, Rw o⟩ := rfl
    simp only [hd0, Option.bind_some, rw_len]
    rw [if_pos (by decide), if_pos (by decide), if_neg (by omega), get_gt (l := o) (i := 0) (by omega), Option.bind_some, if_pos (by omega), get_gt (l := l) (i := 0) hl0, Option.bind_some, ht, if_neg (by simp)]
    exact tl
  · have hkq : kept l 0 (w * B / 65536) = [] := by unfold kept; rw [if_neg hq]
    rw [hkq, if_neg (by decide)]
    exact tl
end Go.Proofs.Ythohhdcngdmbeaa.H
