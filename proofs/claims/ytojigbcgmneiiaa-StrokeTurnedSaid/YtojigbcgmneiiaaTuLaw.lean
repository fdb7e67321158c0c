/- StrokeTurned: which way round places go. Plain Lean over what the functions compute. Condition: the tape's length. -/
import Derived.Test.YtojigbcgmneiiaaAlS
import Derived.Test.YtojigbcgmneiiaaSt4
import Derived.Test.YtojigbcgmneiiaaOp3
set_option linter.unusedVariables false
set_option linter.unusedSimpArgs false
namespace Go.Proofs.Ytojigbcgmneiiaa.H
open Go Go.VM
set_option maxRecDepth 100000
theorem near_prod {a b : Int} (ha : Near a) (hb : Near b) : -288230376151711744 ≤ a * b ∧ a * b ≤ 288230376151711744 := by
  unfold Near at ha hb
  have p1 : 0 ≤ (536870912 - a) * (536870912 + b) := Int.mul_nonneg (by omega) (by omega)
  have p2 : 0 ≤ (536870912 + a) * (536870912 - b) := Int.mul_nonneg (by omega) (by omega)
  have p3 : 0 ≤ (536870912 - a) * (536870912 - b) := Int.mul_nonneg (by omega) (by omega)
  have p4 : 0 ≤ (536870912 + a) * (536870912 + b) := Int.mul_nonneg (by omega) (by omega)
  have q1 : (536870912 - a) * (536870912 + b) + (536870912 + a) * (536870912 - b) = 2 * 288230376151711744 - 2 * (a * b) := by grind
  have q2 : (536870912 - a) * (536870912 - b) + (536870912 + a) * (536870912 + b) = 2 * 288230376151711744 + 2 * (a * b) := by grind
  generalize a * b = z at *
  generalize (536870912 - a) * (536870912 + b) = z1 at *
  generalize (536870912 + a) * (536870912 - b) = z2 at *
  generalize (536870912 - a) * (536870912 - b) = z3 at *
  generalize (536870912 + a) * (536870912 + b) = z4 at *
  omega
theorem T_bd (l : List W43) (i : Nat) : -576460752303423488 ≤ T l i ∧ T l i ≤ 576460752303423488 := by
  have h1 := near_prod (pl_bd (gt l i).c0) (pl_bd (gt l ((i + 1) % l.length)).c1)
  have h2 := near_prod (pl_bd (gt l ((i + 1) % l.length)).c0) (pl_bd (gt l i).c1)
  unfold T
  generalize pl (gt l i).c0 * pl (gt l ((i + 1) % l.length)).c1 = u at *
  generalize pl (gt l ((i + 1) % l.length)).c0 * pl (gt l i).c1 = v at *
  omega
theorem arw_exact (l : List W43) : ∀ m : Nat, m ≤ 15 → arw l m = Z.sm (T l) m ∧ -(m : Int) * 576460752303423488 ≤ Z.sm (T l) m ∧ Z.sm (T l) m ≤ (m : Int) * 576460752303423488
  | 0, _ => by simp [arw, Z.sm]
  | m + 1, h => by
    obtain ⟨h1, h2, h3⟩ := arw_exact l m (by omega)
    have t := T_bd l m
    have e : Z.sm (T l) (m + 1) = Z.sm (T l) m + T l m := rfl
    have b : -((m + 1 : Nat) : Int) * 576460752303423488 ≤ Z.sm (T l) m + T l m ∧ Z.sm (T l) m + T l m ≤ ((m + 1 : Nat) : Int) * 576460752303423488 := by omega
    refine ⟨?_, by rw [e]; exact b.1, by rw [e]; exact b.2⟩
    rw [arw, h1, e, w64_in (by omega) (by omega)]
theorem sm_rev (f : Nat → Int) : ∀ m, Z.sm (fun i => f (m - 1 - i)) m = Z.sm f m
  | 0 => rfl
  | m + 1 => by
    rw [Z.sm_shift]
    have e : Z.sm f (m + 1) = Z.sm f m + f m := rfl
    rw [e, ← sm_rev f m, Z.sm_congr (g := fun i => f (m - 1 - i)) m (fun i hi => by
      show f (m + 1 - 1 - (i + 1)) = f (m - 1 - i)
      congr 1; omega)]
    show f (m + 1 - 1 - 0) + _ = _
    rw [show m + 1 - 1 - 0 = m by omega]; omega
theorem sm_neg (f : Nat → Int) : ∀ m, Z.sm (fun i => - f i) m = - Z.sm f m
  | 0 => rfl
  | m + 1 => by
    have := sm_neg f m
    simp only [Z.sm] at this ⊢; omega
theorem T_rev (l : List W43) {i : Nat} (hi : i + 1 < l.length) : T l.reverse i = - T l (l.length - 1 - 1 - i) := by
  have e1 : l.length - 1 - 1 - i + 1 = l.length - 1 - i := by omega
  unfold T
  rw [List.length_reverse, Nat.mod_eq_of_lt hi, e1, Nat.mod_eq_of_lt (show l.length - 1 - i < l.length by omega), gt_rev (by omega), gt_rev hi, show l.length - 1 - (i + 1) = l.length - 1 - 1 - i by omega]
  generalize gt l (l.length - 1 - i) = u
  generalize gt l (l.length - 1 - 1 - i) = v
  have c1 := Int.mul_comm (pl u.c0) (pl v.c1)
  have c2 := Int.mul_comm (pl v.c0) (pl u.c1)
  omega
theorem T_last (l : List W43) (h : 0 < l.length) : T l.reverse (l.length - 1) = - T l (l.length - 1) := by
  unfold T
  rw [List.length_reverse, show l.length - 1 + 1 = l.length by omega, Nat.mod_self, gt_rev (by omega), gt_rev h, show l.length - 1 - (l.length - 1) = 0 by omega, show l.length - 1 - 0 = l.length - 1 by omega]
  generalize gt l 0 = u
  generalize gt l (l.length - 1) = v
  omega
theorem area_rev (l : List W43) (hL : l.length ≤ 15) : arw l.reverse l.length = - arw l l.length := by
  rw [(arw_exact l.reverse l.length hL).1, (arw_exact l l.length hL).1]
  cases hn : l.length with
  | zero => rfl
  | succ m =>
    have hm : l.length - 1 = m := by omega
    have e1 : ∀ k : List W43, Z.sm (T k) (m + 1) = Z.sm (T k) m + T k m := fun _ => rfl
    rw [e1, e1]
    have t := T_last l (by omega)
    rw [hm] at t
    rw [t, Z.sm_congr (g := fun i => - (fun j => T l j) (m - 1 - i)) m (fun i hi => by
      rw [T_rev l (by omega), hm]), sm_neg (fun i => T l (m - 1 - i)), sm_rev (T l)]
    omega
theorem area_turn (l : List W43) (hL : l.length ≤ 15) : arw (turn l) (turn l).length = if arw l l.length < 0 then - arw l l.length else arw l l.length := by
  rw [turn_len]
  unfold turn
  split
  · exact area_rev l hL
  · rfl
theorem area_turn_nn (l : List W43) (hL : l.length ≤ 15) : 0 ≤ arw (turn l) (turn l).length := by
  rw [area_turn l hL]; split <;> omega
theorem turn_turn (l : List W43) (hL : l.length ≤ 15) : turn (turn l) = turn l := by
  have := area_turn_nn l hL
  generalize turn l = k at *
  unfold turn
  rw [if_neg (by omega)]
theorem pieces_loop (c : Bool) (N : Nat) (R : List (List V)) {Q : List W25} (hQ : Q.length ≤ 4000) (hp : ∀ p ∈ Q, Pg p) : ∀ (m n i : Nat), i + m = Q.length → m < n →
    L4_0 n Q.length Q.length i c N (Rp Q) R = some (.e4 N R)
  | _, 0, _, _, h => by omega
  | 0, n + 1, i, h, _ => by rw [L4_0, if_neg (by omega)]
  | m + 1, n + 1, i, h, hn => by
    have hi : i < Q.length := by omega
    obtain ⟨l, hl, e⟩ := hp _ (List.getElem_mem hi)
    have ih := pieces_loop c N R hQ hp m n (i + 1) (by omega) (by omega)
    have hs : w64 ((i : Int) + 1) = ((i + 1 : Nat) : Int) := by rw [w64_in (by omega) (by omega)]; omega
    have g : ((Rp Q)[i]?).bind W25.dec = some (pg l) := by
      rw [rp_get, List.getElem?_eq_getElem hi, e]
    have hpl := pls_len l
    have ht : (Rw (turn (pls l))).length = l.length := by rw [rw_len, turn_len, hpl]
    have ha := (area_eq (l := turn (pls l)) (by rw [turn_len, hpl]; omega)).1
    have nn := area_turn_nn (pls l) (by omega)
    rw [L4_0, if_pos (by omega), if_pos (by omega), show 0 + Int.toNat (i : Int) = i by omega, g, Option.bind_some]
    unfold pg
    dsimp only
    rw [if_neg (by decide)]
    simp only [ht]
    rw [if_neg (by omega), if_neg (by omega), ha, Option.bind_some]
    dsimp only
    rw [if_neg (by omega), hs]
    exact ih
theorem strokeTurned_plain (tape : List W3) (hl : (tape.length : Int) ≤ 9223372036854775807) (a : Int) : F4 (Rt tape) a = some (.a0 true) := by
  obtain ⟨c, l, s, e, hp, hL, _⟩ := poly_ex tape hl 0 (by decide)
  have hr : List.length (Rw l) = l.length := by simp
  unfold F4
  rw [e, Option.bind_some]
  dsimp only
  rw [if_pos (by omega), rw_all]
  obtain ⟨Q, m1, _, m3, m4, _⟩ := stroke2 c (l := l) (by omega) (w64 (↑(BitVec.toNat (BitVec.ofInt (IntKind.bits IntKind.i64) a &&& BitVec.ofInt (IntKind.bits IntKind.i64) 524287)) : Int)) 1
  have q := pieces_loop c l.length (Rw l) m4 m3 Q.length 18446744073709551616 0 (by omega) (by omega)
  rw [show ((0 : Nat) : Int) = 0 by rfl] at q
  rw [m1, Option.bind_some]
  dsimp only
  rw [q, Option.bind_some]
  dsimp only
  have htl := turn_len l
  have t1 := turned1 (l := l) (by omega)
  have t2 := turned1 (l := turn l) (by omega)
  rw [turn_turn l (by omega), htl] at t2
  have a1 := (area_eq (l := l) (by omega)).1
  have a2 := (area_eq (l := turn l) (by omega)).1
  rw [area_turn l (by omega)] at a2
  have tk : List.take l.length (Rw (turn l)) = Rw (turn l) := by rw [← htl]; exact rw_all (turn l)
  have bd := arw_exact l l.length (by omega)
  have hrt : List.length (Rw (turn l)) = l.length := by simp [htl]
  have ps := points_same (turn l) (by omega)
  rw [if_pos (by omega), rw_all, t1, Option.bind_some]
  dsimp only
  rw [a1, Option.bind_some]
  dsimp only
  by_cases hn : arw l l.length < 0
  · rw [if_pos hn] at a2
    rw [if_pos hn, if_pos (by omega), tk, a2, Option.bind_some]
    dsimp only
    rw [if_pos (by rw [beq_iff_eq, w64_in (by omega) (by omega)]; omega), if_pos (by rw [beq_iff_eq]), t2, Option.bind_some]
    dsimp only
    rw [if_pos (by omega), tk, ps, Option.bind_some]
    dsimp only
    rw [if_pos rfl, known12]; rfl
  · rw [if_neg hn] at a2
    rw [if_neg hn, if_pos (by omega), tk, a2, Option.bind_some]
    dsimp only
    rw [if_pos (by rw [beq_iff_eq]), if_pos (by rw [beq_iff_eq]), t2, Option.bind_some]
    dsimp only
    rw [if_pos (by omega), tk, ps, Option.bind_some]
    dsimp only
    rw [if_pos rfl, known12]; rfl
theorem strokeTurned_call {xs : List (List V)} (hl : xs.length ≤ maxLen ∧ xs.length * 8 ≤ reachBytes) (g : ∀ x ∈ xs, x.length = 1 ∧ pred3 x) (a : Int) :
    call Try.prog X O0 18446744073709551616 10 4 [.list 1 xs, .int .i64 a] [] = some (.bool true, []) := by
  obtain ⟨ks, rfl, _⟩ := rows3 g
  have hl1 := hl.1
  unfold maxLen at hl1
  simp only [List.length_map] at hl1
  exact F4_ok 0 (Rt ks) a (.a0 true) (strokeTurned_plain ks (by omega) a)
end Go.Proofs.Ytojigbcgmneiiaa.H
