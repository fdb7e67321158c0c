/- The path at a tick; paths and keys of tapes; the statement's functions tell true. Conditions: those stated. -/
import Derived.Test.YtifalphladcdcaaTape5
import Derived.KernelRfl
set_option linter.unusedVariables false
set_option linter.unusedSimpArgs false
namespace Go.Proofs.Ytifalphladcdcaa.H
open Go Go.VM
set_option maxRecDepth 100000
/-- The last of the first m keys at a tick, or ahead of it. -/
def lst (ks : List PK) (t : Int) : Nat → Int
  | 0 => -1
  | m + 1 => match ks[m]? with
    | some k => if k.c0 ≤ t then m else lst ks t m
    | none => lst ks t m
theorem lst_bd (ks : List PK) (t : Int) : ∀ m : Nat, -1 ≤ lst ks t m ∧ lst ks t m < m
  | 0 => by simp [lst]
  | m + 1 => by
    have := lst_bd ks t m
    unfold lst
    split
    · split <;> omega
    · omega
theorem down (ks : List PK) (hl : (ks.length : Int) < 4611686018427387904) (t : Int) : ∀ (n m : Nat), m ≤ ks.length → m < n →
    L35_0 n (.s0 (Rk ks) t ((m : Int) - 1)) = some (.e0 (Rk ks) t (lst ks t m))
  | 0, m, _, hn => by omega
  | n + 1, m, hm, hn => by
    rw [L35_0_s0]
    cases m with
    | zero => simp only [D35_0, PT.ev, PT.test, dite_eq_ite, if_neg (show ¬ (((0 : Nat) : Int) - 1 ≥ 0) by omega), N35_0.nx_e0, lst]; rfl
    | succ m =>
      have hi : m < ks.length := by omega
      have e : ((m + 1 : Nat) : Int) - 1 = (m : Int) := by omega
      have hw : w64 ((m : Int) - 1) = (m : Int) - 1 := by rw [w64_in (by omega) (by omega)]
      simp only [D35_0, PT.ev, PT.test, dite_eq_ite, e, if_pos (show (m : Int) ≥ 0 by omega), if_pos (show (0 : Int) ≤ (m : Int) by omega), Int.toNat_natCast, rk_get, List.getElem?_eq_getElem hi, Option.bind_some, N35_0.nx_e0, N35_0.nx_s0, hw, lst]
      by_cases h : ks[m].c0 ≤ t
      · rw [if_neg (by omega), if_pos h]
      · rw [if_pos (by omega), if_neg h]
        exact down ks hl t n m (by omega) (by omega)
theorem up (ks : List PK) (hl : (ks.length : Int) < 4611686018427387904) (t : Int) : ∀ (n i : Nat), i ≤ ks.length → ks.length < n + i →
    L36_0 n (.s0 (Rk ks) t (lst ks t i) i) = some (.e0 (Rk ks) t (lst ks t ks.length))
  | 0, i, _, hn => by omega
  | n + 1, i, hi, hn => by
    rw [L36_0_s0]
    by_cases h : i < ks.length
    · have ih := up ks hl t n (i + 1) (by omega) (by omega)
      have e : lst ks t (i + 1) = if ks[i].c0 ≤ t then (i : Int) else lst ks t i := by
        rw [lst, List.getElem?_eq_getElem h]
      rw [e] at ih
      simp only [D36_0, PT.ev, PT.test, dite_eq_ite, rk_len, if_pos (show (i : Int) < (ks.length : Int) by omega), if_pos (show (0 : Int) ≤ (i : Int) by omega), Int.toNat_natCast, rk_get, List.getElem?_eq_getElem h, Option.bind_some, N36_0.nx_s0, wi (show (i : Int) < 9223372036854775807 by omega)]
      by_cases hc : ks[i].c0 ≤ t
      · rw [if_pos hc] at ih ⊢; exact ih
      · rw [if_neg hc] at ih ⊢; exact ih
    · simp only [D36_0, PT.ev, PT.test, dite_eq_ite, rk_len, if_neg (show ¬ (i : Int) < (ks.length : Int) by omega), N36_0.nx_e0]
      rw [show i = ks.length by omega]
theorem mid_self (a : Int) (h : hd a = a) : mid a a 0 = a := by
  have h0 : hd 0 = 0 := rfl
  have hm : ∀ x, mul x 0 = 0 := fun x => by unfold mul; rw [h0, Int.mul_zero]; rfl
  unfold mid
  rw [hm]
  unfold add
  rw [h0, h, Int.add_zero, h]
theorem zip_self : ∀ ps : List Pt, (∀ p ∈ ps, hd p.c0 = p.c0 ∧ hd p.c1 = p.c1) → List.zipWith (mp 0) ps ps = ps
  | [], _ => rfl
  | p :: ps, h => by
    have hp := h p (List.mem_cons_self ..)
    rw [List.zipWith_cons_cons, zip_self ps (fun q hq => h q (List.mem_cons_of_mem _ hq))]
    congr 1
    unfold mp
    rw [mid_self _ hp.1, mid_self _ hp.2]
theorem morph_self (c : Bool) (ps : List Pt) (h : ∀ p ∈ ps, hd p.c0 = p.c0 ∧ hd p.c1 = p.c1) : morphv c ps c ps 0 = ps := by
  unfold morphv
  rw [zip_self ps h, ite_self]
theorem at_ex (ks : List PK) (hk : ∀ k ∈ ks, Gk k) (hl : (ks.length : Int) < 4611686018427387904) (t : Int) :
    ∃ c ps, F35 (Rk ks) t = some (.a0 c ps.length (Rp ps)) ∧ F36 (Rk ks) t = some (.a0 c ps.length (Rp ps)) ∧ (ps.length : Int) * 16 ≤ 140737488355328 := by
  simp only [F35, D35, F36, D36, PT.ev, PT.test, dite_eq_ite, rk_len, beq_iff_eq]
  by_cases h0 : (ks.length : Int) = 0
  · rw [if_pos h0, if_pos h0]; exact ⟨false, [], rfl, rfl, by decide⟩
  · have hw : w64 ((ks.length : Int) - 1) = (ks.length : Int) - 1 := by rw [w64_in (by omega) (by omega)]
    have hu := up ks hl t 18446744073709551616 0 (by omega) (by omega)
    have hd' := down ks hl t 18446744073709551616 ks.length (by omega) (by omega)
    rw [show lst ks t 0 = -1 from rfl, show ((0 : Nat) : Int) = 0 from rfl] at hu
    rw [if_neg h0, if_neg h0, hw, hu, hd']
    have hb := lst_bd ks t ks.length
    simp only [Option.bind_some, PT.ev, PT.test, dite_eq_ite, rk_len, hw, beq_iff_eq]
    generalize lst ks t ks.length = z at *
    have hz : 0 < ks.length := by omega
    by_cases h1 : z = -1
    · obtain ⟨ps, e1, e2, e3⟩ := (hk ks[0] (List.getElem_mem hz)).ps
      simp only [if_pos h1, if_pos (show z < 0 by omega), rk_get, List.getElem?_eq_getElem hz, Option.bind_some, e1, F59, D59, PT.ev, PT.test, dite_eq_ite, clone_eq ps e2, rmorph _ ps _ ps 0 e2, morph_self _ ps e3, rp_len]
      exact ⟨_, ps, rfl, rfl, e2⟩
    · have hzl : z.toNat < ks.length := by omega
      obtain ⟨ps, e1, e2, e3⟩ := (hk ks[z.toNat] (List.getElem_mem hzl)).ps
      by_cases h2 : z = (ks.length : Int) - 1
      · simp only [if_neg h1, if_neg (show ¬ z < 0 by omega), if_pos h2, if_pos (show 0 ≤ z by omega), rk_get, List.getElem?_eq_getElem hzl, Option.bind_some, e1, F59, D59, PT.ev, PT.test, dite_eq_ite, clone_eq ps e2, rmorph _ ps _ ps 0 e2, morph_self _ ps e3, rp_len]
        exact ⟨_, ps, rfl, rfl, e2⟩
      · have hw2 : w64 (z + 1) = z + 1 := w64_in (by omega) (by omega)
        have hzl2 : (z + 1).toNat < ks.length := by omega
        obtain ⟨qs, f1, f2, f3⟩ := (hk ks[(z + 1).toNat] (List.getElem_mem hzl2)).ps
        simp only [if_neg h1, if_neg (show ¬ z < 0 by omega), if_neg h2, if_pos (show 0 ≤ z by omega), hw2, if_pos (show 0 ≤ z + 1 by omega), rk_get, List.getElem?_eq_getElem hzl, List.getElem?_eq_getElem hzl2, Option.bind_some, e1, f1, qpart, rpart, qgoes, rgoes, PT.ev, PT.test, dite_eq_ite, qmorph _ ps _ qs _ e2, rmorph _ ps _ qs _ e2]
        refine ⟨_, morphv _ ps _ qs _, by rw [morph_len], by rw [morph_len], ?_⟩
        rw [morph_len]; exact e2
theorem keys_ok (ks : List PK) (hk : ∀ k ∈ ks, Gk k) (hl : (ks.length : Int) < 4611686018427387904) (t : Int) : F10 (Rk ks) t = some (.a0 true) := by
  obtain ⟨b, e1, e2⟩ := keys_ex ks hk hl
  obtain ⟨c, ps, e3, e4, e5⟩ := at_ex ks hk hl t
  simp only [F10, D10, PT.ev, PT.test, dite_eq_ite, e1, e2, e3, e4, Option.bind_some, beq_self_eq_true, if_true, rp_len, if_pos (show 0 + ps.length ≤ ps.length by omega), take_rp, rsame c ps c ps (by omega), samev, eqs_refl, Bool.and_self]
/-! ### Paths of tapes -/
structure Bp (p : Pt) : Prop where
  x : -131072 ≤ p.c0 ∧ p.c0 ≤ 983039
  y : -131072 ≤ p.c1 ∧ p.c1 ≤ 983039
theorem Bp.held {p : Pt} (h : Bp p) : hd p.c0 = p.c0 ∧ hd p.c1 = p.c1 := by
  obtain ⟨⟨a, b⟩, ⟨c, d⟩⟩ := h
  exact ⟨hd_of (by omega) (by omega), hd_of (by omega) (by omega)⟩
theorem point_ex (tape : List W3) (s : Int) (hs : 0 ≤ s) (hl : (tape.length : Int) ≤ 9223372036854775807) :
    ∃ p s', F37 (-2) 14 (Rt tape) s = some (.a0 p.c0 p.c1 (Rt tape) s') ∧ Bp p ∧ 0 ≤ s' := by
  obtain ⟨x, s1, e1, l1, u1, p1⟩ := number_ex tape (-2) 14 s hs hl (by decide) (by decide) (by decide)
  obtain ⟨y, s2, e2, l2, u2, p2⟩ := number_ex tape (-2) 14 s1 p1 hl (by decide) (by decide) (by decide)
  refine ⟨⟨x, y⟩, s2, ?_, ⟨⟨(by omega : -131072 ≤ x), (by omega : x ≤ 983039)⟩, ⟨(by omega : -131072 ≤ y), (by omega : y ≤ 983039)⟩⟩, p2⟩
  simp only [F37, D37, PT.ev, PT.test, dite_eq_ite, e1, e2, Option.bind_some]
theorem push3 (ps : List Pt) (a b c : Pt) : List.take ps.length (Rp ps) ++ [a.cells, b.cells, c.cells] = Rp (ps ++ [a, b, c]) := by
  rw [take_rp]
  simp only [Rp, List.map_append, List.map_cons, List.map_nil]
theorem path_loop (tape : List W3) (hl : (tape.length : Int) ≤ 9223372036854775807) (N : Nat) (hN : N ≤ 40) (c : Bool) : ∀ (m i : Nat) (ps : List Pt) (s : Int), i ≤ N → N < m + i → ps.length = 3 * i + 1 → (∀ p ∈ ps, Bp p) → 0 ≤ s →
    ∃ qs s', L13_0 m (.s0 N i (Rt tape) s c ps.length (Rp ps)) = some (.e0 (Rt tape) s' c qs.length (Rp qs)) ∧ qs.length = 3 * N + 1 ∧ (∀ p ∈ qs, Bp p) ∧ 0 ≤ s'
  | 0, i, ps, s, h1, h2, _, _, _ => by omega
  | m + 1, i, ps, s, h1, h2, h3, h4, h5 => by
    rw [L13_0_s0]
    by_cases h : i < N
    · have hw : w64 ((ps.length : Int) - 1) = ((ps.length - 1 : Nat) : Int) := by rw [w64_in (by omega) (by omega)]; omega
      have hg : ps.length - 1 < ps.length := by omega
      obtain ⟨p, s1, e1, b1, p1⟩ := point_ex tape s h5 hl
      obtain ⟨v, s2, e2, l2, u2, p2⟩ := next_ex tape s1 2 p1 hl (by decide)
      have hc : (0 : Int) ≤ ((ps.length - 1 : Nat) : Int) ∧ ((ps.length - 1 : Nat) : Int) < (ps.length : Int) := by omega
      have hk : 0 + ps.length ≤ ps.length ∧ (ps.length + 3) * 16 ≤ 140737488355328 ∧ ps.length + 3 ≤ 140737488355328 := by omega
      simp only [D13_0, PT.ev, PT.test, dite_eq_ite, if_pos (show (i : Int) < (N : Int) by omega), hw, if_pos hc, Int.toNat_natCast, Nat.zero_add, rp_get, List.getElem?_eq_getElem hg, Option.bind_some, e1, e2, rp_len]
      rw [Nat.zero_add] at hk
      have go : ∀ (a b c' : Pt) (s' : Int), Bp a → Bp b → Bp c' → 0 ≤ s' → ∃ qs s'', L13_0 m (.s0 N (i + 1 : Nat) (Rt tape) s' c (ps.length + 3) (List.take ps.length (Rp ps) ++ [a.cells, b.cells, c'.cells])) = some (.e0 (Rt tape) s'' c qs.length (Rp qs)) ∧ qs.length = 3 * N + 1 ∧ (∀ p ∈ qs, Bp p) ∧ 0 ≤ s'' := by
        intro a b c' s' ha hb hc' hs'
        rw [push3]
        have hlen : (ps ++ [a, b, c']).length = ps.length + 3 := by simp
        rw [← hlen]
        refine path_loop tape hl N hN c m (i + 1) (ps ++ [a, b, c']) s' h (by omega) (by rw [hlen]; omega) ?_ hs'
        intro q hq
        rcases List.mem_append.1 hq with hq | hq
        · exact h4 q hq
        · simp only [List.mem_cons, List.not_mem_nil, or_false] at hq
          rcases hq with rfl | rfl | rfl <;> assumption
      by_cases h0 : v = 0
      · simp only [h0, beq_self_eq_true, if_true, if_pos hk, N13_0.nx_s0, wi (show (i : Int) < 9223372036854775807 by omega)]
        exact go ps[ps.length - 1] p p s2 (h4 _ (List.getElem_mem hg)) b1 b1 p2
      · obtain ⟨q, s3, e3, b3, p3⟩ := point_ex tape s2 p2 hl
        obtain ⟨r, s4, e4, b4, p4⟩ := point_ex tape s3 p3 hl
        have hb : (v == 0) = false := by rw [beq_eq_false_iff_ne]; exact h0
        simp only [hb, Bool.false_eq_true, if_false, e3, e4, Option.bind_some, PT.ev, PT.test, dite_eq_ite, rp_len, if_pos hk, N13_0.nx_s0, wi (show (i : Int) < 9223372036854775807 by omega)]
        exact go q r p s4 b3 b4 b1 p4
    · simp only [D13_0, PT.ev, PT.test, dite_eq_ite, if_neg (show ¬ (i : Int) < (N : Int) by omega), N13_0.nx_e0]
      exact ⟨ps, s, rfl, by omega, h4, h5⟩
theorem path_ex (tape : List W3) (s : Int) (hs : 0 ≤ s) (hl : (tape.length : Int) ≤ 9223372036854775807) (n : Int) (h0 : 0 ≤ n) (hn : n ≤ 40) (c : Bool) :
    ∃ ps s', F13 n c (Rt tape) s = some (.a0 c ps.length (Rt tape) s' (Rp ps)) ∧ (ps.length : Int) = 3 * n + 1 ∧ (∀ p ∈ ps, Bp p) ∧ 0 ≤ s' := by
  obtain ⟨p, s1, e1, b1, p1⟩ := point_ex tape s hs hl
  obtain ⟨qs, s2, e2, l2, b2, p2⟩ := path_loop tape hl n.toNat (by omega) c 18446744073709551616 0 [p] s1 (by omega) (by omega) rfl (fun q hq => by rw [List.mem_singleton] at hq; subst hq; exact b1) p1
  rw [Int.toNat_of_nonneg h0, show ((0 : Nat) : Int) = 0 from rfl] at e2
  refine ⟨qs, s2, ?_, by omega, b2, p2⟩
  simp only [F13, D13, PT.ev, PT.test, dite_eq_ite, e1, Option.bind_some]
  rw [show [[i64 p.c0, i64 p.c1]] = Rp [p] from rfl, show (1 : Nat) = [p].length from rfl, e2]
  rfl
theorem Gk.of {k : PK} {ps : List Pt} (h : k.c2 = Rp ps) (hl : (ps.length : Int) ≤ 1000) (hb : ∀ p ∈ ps, Bp p) : Gk k := ⟨ps, h, by omega, fun p hp => (hb p hp).held⟩
theorem made_loop (tape : List W3) (hl : (tape.length : Int) ≤ 9223372036854775807) (odd n : Int) (h0 : 0 ≤ n) (hn : n ≤ 20) (c : Bool) : ∀ (m k : Nat) (ks : List PK) (at_ s : Int), k < m → ks.length + k ≤ 100 → (∀ k ∈ ks, Gk k) → 0 ≤ s →
    ∃ qs : List PK, L11_0 m (.s0 odd n c ks.length at_ k (Rt tape) s (Rk ks)) = some (.e0 qs.length (Rk qs)) ∧ qs.length = ks.length + k ∧ ∀ k ∈ qs, Gk k
  | 0, k, ks, at_, s, h1, _, _, _ => by omega
  | m + 1, k, ks, at_, s, h1, h2, h3, h4 => by
    rw [L11_0_s0]
    cases k with
    | zero =>
      simp only [D11_0, PT.ev, PT.test, dite_eq_ite, if_neg (show ¬ (((0 : Nat) : Int) > 0) by omega), N11_0.nx_e0]
      exact ⟨ks, rfl, rfl, h3⟩
    | succ k =>
      obtain ⟨ps, s1, e1, l1, b1, p1⟩ := path_ex tape s h4 hl n h0 (by omega) c
      obtain ⟨v, s2, e2, _, _, p2⟩ := next_ex tape s1 2 p1 hl (by decide)
      have hw : w64 (((k + 1 : Nat) : Int) - 1) = (k : Int) := by rw [w64_in (by omega) (by omega)]; omega
      have hw2 : w64 (n + 1) = n + 1 := w64_in (by omega) (by omega)
      have hc : 0 + ks.length ≤ ks.length ∧ (ks.length + 1) * 80 ≤ 140737488355328 ∧ ks.length + 1 ≤ 140737488355328 := by omega
      have go : ∀ (x : PK) (u s' : Int), Gk x → 0 ≤ s' → ∃ qs : List PK, L11_0 m (.s0 odd n c (ks.length + 1) u k (Rt tape) s' (List.take ks.length (Rk ks) ++ [x.cells])) = some (.e0 qs.length (Rk qs)) ∧ qs.length = ks.length + (k + 1) ∧ ∀ k ∈ qs, Gk k := by
        intro x u s' hx hs'
        have e : List.take ks.length (Rk ks) ++ [x.cells] = Rk (ks ++ [x]) := by
          rw [List.take_of_length_le (by rw [rk_len]; exact Nat.le_refl _)]; simp only [Rk, List.map_append, List.map_cons, List.map_nil]
        have hlen : (ks ++ [x]).length = ks.length + 1 := by simp
        rw [e, ← hlen]
        obtain ⟨qs, q1, q2, q3⟩ := made_loop tape hl odd n h0 hn c m k (ks ++ [x]) u s' (by omega) (by omega) (fun y hy => by
          rcases List.mem_append.1 hy with hy | hy
          · exact h3 y hy
          · rw [List.mem_singleton] at hy; subst hy; exact hx) hs'
        exact ⟨qs, q1, by omega, q3⟩
      simp only [D11_0, PT.ev, PT.test, dite_eq_ite, if_pos (show ((k + 1 : Nat) : Int) > 0 by omega), e1, e2, Option.bind_some]
      split
      · obtain ⟨qs, s3, e3, l3, b3, p3⟩ := path_ex tape s2 p2 hl (n + 1) (by omega) (by omega) c
        obtain ⟨w, s4, e4, _, _, p4⟩ := next_ex tape s3 5 p3 hl (by decide)
        simp only [hw2, e3, Option.bind_some, PT.ev, PT.test, dite_eq_ite, rp_len, rk_len, if_pos (show 0 + qs.length ≤ qs.length by omega), if_pos hc, e4, take_rp, N11_0.nx_s0, hw]
        exact go ⟨at_, c, Rp qs, v, 0, 0, 0, 0⟩ _ s4 (Gk.of rfl (by omega) b3) p4
      · obtain ⟨w, s4, e4, _, _, p4⟩ := next_ex tape s2 5 p2 hl (by decide)
        simp only [Option.bind_some, PT.ev, PT.test, dite_eq_ite, rp_len, rk_len, if_pos (show 0 + ps.length ≤ ps.length by omega), if_pos hc, e4, take_rp, N11_0.nx_s0, hw]
        exact go ⟨at_, c, Rp ps, v, 0, 0, 0, 0⟩ _ s4 (Gk.of rfl (by omega) b1) p4
theorem made_ex (tape : List W3) (hl : (tape.length : Int) ≤ 9223372036854775807) (odd : Int) : ∃ ks : List PK, F11 (Rt tape) odd = some (.a0 ks.length (Rk ks)) ∧ ks.length ≤ 100 ∧ ∀ k ∈ ks, Gk k := by
  obtain ⟨v1, s1, e1, l1, u1, p1⟩ := next_ex tape 0 4 (by decide) hl (by decide)
  obtain ⟨v2, s2, e2, _, _, p2⟩ := next_ex tape s1 2 p1 hl (by decide)
  obtain ⟨v3, s3, e3, _, _, p3⟩ := next_ex tape s2 4 p2 hl (by decide)
  obtain ⟨v4, s4, e4, l4, u4, p4⟩ := next_ex tape s3 5 p3 hl (by decide)
  have hw : w64 (1 + v1) = 1 + v1 := w64_in (by omega) (by omega)
  obtain ⟨qs, q1, q2, q3⟩ := made_loop tape hl odd (1 + v1) (by omega) (by omega) (v2 == 0) 18446744073709551616 v4.toNat [] v3 s4 (by omega) (by simp; omega) (fun k hk => by simp at hk) p4
  rw [Int.toNat_of_nonneg l4] at q1
  refine ⟨qs, ?_, by rw [q2]; simp; omega, q3⟩
  simp only [F11, D11, PT.ev, PT.test, dite_eq_ite, e1, e2, e3, e4, Option.bind_some, hw]
  rw [show ([] : List (List V)) = Rk [] from rfl, show (0 : Nat) = ([] : List PK).length from rfl, q1]
  rfl
theorem known7 : F12 = some (.a0 true) := by kernel_rfl
end Go.Proofs.Ytifalphladcdcaa.H
