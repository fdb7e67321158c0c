/- Outlines are trimmed by the program as by the document: plain Lean over what the functions compute. Conditions: those stated. -/
import Derived.Test.YthohhdcngdmbeaaAr2
set_option linter.unusedVariables false
set_option linter.unusedSimpArgs false
namespace Go.Proofs.Ythohhdcngdmbeaa.H
open Go Go.VM
set_option maxRecDepth 100000
def okp (p : W34) : Prop := -327680 ≤ p.c0 ∧ p.c0 ≤ 1376256 ∧ -327680 ≤ p.c1 ∧ p.c1 ≤ 1376256
theorem numberz_ex (tape : List W3) (s : Int) (hs : 0 ≤ s) (hl : (tape.length : Int) ≤ 9223372036854775807) : ∃ v s', F54 (-5) 20 (Rt tape) s = some (.a0 v (Rt tape) s') ∧ -327680 ≤ v ∧ v ≤ 1376256 ∧ 0 ≤ s' := by
  obtain ⟨v1, s1, e1, l1, u1, p1⟩ := next_ex tape s 26 hs hl (by decide)
  obtain ⟨v2, s2, e2, l2, u2, p2⟩ := next_ex tape s1 4 p1 hl (by decide)
  obtain ⟨v3, s3, e3, l3, u3, p3⟩ := next_ex tape s2 65536 p2 hl (by decide)
  have hq : w64 (w64 (20 - -5) + 1) = 26 := by decide
  unfold F54
  rw [hq, e1, Option.bind_some]
  simp only []
  rw [e2, Option.bind_some]
  simp only []
  by_cases h0 : v2 = 0
  · refine ⟨(-5 + v1) * 65536 + 32768, s2, ?_, by omega, by omega, p2⟩
    rw [if_pos (by rw [beq_iff_eq]; exact h0)]
    congr 2; simp only [w64_eq]; omega
  · rw [if_neg (by rw [beq_iff_eq]; exact h0)]
    by_cases h1 : v2 = 1
    · refine ⟨(-5 + v1) * 65536 + v3, s3, ?_, by omega, by omega, p3⟩
      rw [if_pos (by rw [beq_iff_eq]; exact h1), e3, Option.bind_some]
      simp only []
      congr 2; simp only [w64_eq]; omega
    · refine ⟨(-5 + v1) * 65536, s2, ?_, by omega, by omega, p2⟩
      rw [if_neg (by rw [beq_iff_eq]; exact h1)]
      congr 2; simp only [w64_eq]; omega
theorem poly_loop (tape : List W3) (hl : (tape.length : Int) ≤ 9223372036854775807) (c : Bool) : ∀ (m k : Nat) (o : List W34) (s : Int), 0 ≤ s → (∀ p ∈ o, okp p) → o.length + 2 * m ≤ 12 → m < k →
    ∃ (o' : List W34) (s' : Int), L28_0 k m (Rt tape) s c o.length (Rw o) = some (.e0 (Rt tape) s' c o'.length (Rw o')) ∧ (∀ p ∈ o', okp p) ∧ o'.length ≤ 12 ∧ 0 ≤ s'
  | _, 0, _, _, _, _, _, hk => by omega
  | 0, k + 1, o, s, hs, hp, hn, hk => ⟨o, s, by rw [L28_0, if_neg (by omega)], hp, by omega, hs⟩
  | m + 1, k + 1, o, s, hs, hp, hn, hk => by
    obtain ⟨x, s1, e1, x1, x2, p1⟩ := numberz_ex tape s hs hl
    obtain ⟨y, s2, e2, y1, y2, p2⟩ := numberz_ex tape s1 p1 hl
    obtain ⟨v, s3, e3, v1, v2, p3⟩ := next_ex tape s2 6 p2 hl (by decide)
    have hq : okp (⟨x, y⟩ : W34) := ⟨x1, x2, y1, y2⟩
    have hp1 : ∀ p ∈ o ++ [(⟨x, y⟩ : W34)], okp p := fun p h => by
      rw [List.mem_append, List.mem_singleton] at h; rcases h with h | rfl
      · exact hp p h
      · exact hq
    have hp2 : ∀ p ∈ o ++ [(⟨x, y⟩ : W34)] ++ [(⟨x, y⟩ : W34)], okp p := fun p h => by
      rw [List.mem_append, List.mem_singleton] at h; rcases h with h | rfl
      · exact hp1 p h
      · exact hq
    have n1 : (o ++ [(⟨x, y⟩ : W34)]).length = o.length + 1 := by simp
    have n2 : (o ++ [(⟨x, y⟩ : W34)] ++ [(⟨x, y⟩ : W34)]).length = o.length + 1 + 1 := by simp
    have hw : w64 (((m + 1 : Nat) : Int) - 1) = (m : Int) := by rw [w64_in (by omega) (by omega)]; omega
    have i1 := poly_loop tape hl c m k (o ++ [(⟨x, y⟩ : W34)]) s3 p3 hp1 (by omega) (by omega)
    have i2 := poly_loop tape hl c m k (o ++ [(⟨x, y⟩ : W34)] ++ [(⟨x, y⟩ : W34)]) s3 p3 hp2 (by omega) (by omega)
    rw [n1] at i1; rw [n2] at i2
    have ht2 := push2 (o ++ [(⟨x, y⟩ : W34)]) x y
    rw [n1] at ht2
    rw [L28_0, if_pos (by omega), e1, Option.bind_some]
    simp only []
    rw [e2, Option.bind_some]
    simp only []
    rw [if_pos (by rw [rw_len]; omega), e3, Option.bind_some]
    simp only []
    rw [hw, push2]
    by_cases h0 : v = 0
    · rw [if_pos (by rw [beq_iff_eq]; exact h0), if_pos (by rw [rw_len, n1]; omega), ht2]; exact i2
    · rw [if_neg (by rw [beq_iff_eq]; exact h0)]; exact i1
theorem poly_ex (tape : List W3) (hl : (tape.length : Int) ≤ 9223372036854775807) (s0 : Int) (hs : 0 ≤ s0) : ∃ (c : Bool) (o : List W34) (s : Int), F28 (Rt tape) s0 = some (.a0 c o.length (Rt tape) s (Rw o)) ∧ (∀ p ∈ o, okp p) ∧ o.length ≤ 12 ∧ 0 ≤ s := by
  obtain ⟨v1, s1, e1, l1, u1, p1⟩ := next_ex tape s0 2 hs hl (by decide)
  obtain ⟨v2, s2, e2, l2, u2, p2⟩ := next_ex tape s1 7 p1 hl (by decide)
  obtain ⟨o, s, h, r1, r2, r3⟩ := poly_loop tape hl (v1 == 0) v2.toNat 18446744073709551616 [] s2 p2 (by simp) (by simp only [List.length_nil]; omega) (by omega)
  refine ⟨v1 == 0, o, s, ?_, r1, r2, r3⟩
  have e : ((v2.toNat : Nat) : Int) = v2 := by omega
  rw [e] at h
  have h' : L28_0 18446744073709551616 v2 (Rt tape) s2 (v1 == 0) 0 [] = some (.e0 (Rt tape) s (v1 == 0) o.length (Rw o)) := h
  unfold F28
  rw [e1, Option.bind_some]
  simp only []
  rw [e2, Option.bind_some]
  simp only []
  rw [h']; rfl
theorem pushp (q : List W39) (b : Bool) (o : List (List V)) : List.take q.length (Rp q) ++ [[vb b, V.list 2 o]] = Rp (q ++ [⟨b, o⟩]) := by
  rw [List.take_of_length_le (by simp)]; simp
/-- A poly that comes in. -/
def Gi (p : W39) : Prop := ∃ o : List W34, p.2 = Rw o ∧ o.length ≤ 8796093022207
theorem trim_loop {ps : List W39} (hp : ∀ p ∈ ps, Gi p) (hps : ps.length ≤ 100) {f t : Int} (hf : 0 ≤ f ∧ f ≤ 65536) (ht : 0 ≤ t ∧ t ≤ 65536) : ∀ (n i : Nat) (q : List W39), i ≤ ps.length → ps.length < n + i → q.length ≤ i → (∀ p ∈ q, Gd p) →
    ∃ q', L31_0 n f t q.length (Rp ps) ps.length i (Rp q) = some (.e0 q'.length (Rp q')) ∧ L78_0 n (Rp ps) f t q.length i (Rp q) = some (.e0 q'.length (Rp q')) ∧ (∀ p ∈ q', Gd p) ∧ q'.length ≤ 100
  | 0, i, q, hi, hn, _, _ => by omega
  | n + 1, i, q, hi, hn, hq, hg => by
    by_cases h : i < ps.length
    · have hc : (i : Int) < (ps.length : Int) := by omega
      have g1 : (0 : Int) ≤ (i : Int) := by omega
      obtain ⟨l, e1, e2⟩ := hp ps[i] (List.getElem_mem h)
      have ih := trim_loop hp hps hf ht n (i + 1) q (by omega) (by omega) (by omega) hg
      have mulr : ∀ (z y : Int), 0 ≤ y ∧ y ≤ 65536 → F66 z y = some (.a0 (mul z y)) := fun z y hy => F66_eq z y (by
        have h1 := hd_bd z
        rw [hd_of (a := y) (by omega) (by omega)]
        generalize hd z = w at *
        have p1 : 0 ≤ (1099511627776 - w) * y := Int.mul_nonneg (by omega) (by omega)
        have p2 : 0 ≤ (1099511627776 + w) * y := Int.mul_nonneg (by omega) (by omega)
        simp only [Int.sub_mul, Int.add_mul] at p1 p2
        omega)
      obtain ⟨r, a1, a2⟩ := length2 ps[i].c0 (l := l) e2
      obtain ⟨o, b1, b2, b3⟩ := part2 ps[i].c0 (l := l) e2 (mul r f) (mul r t)
      have push : ∀ (b : Bool) (o : List W34), o.length ≤ 8796093022208 → ∃ q', L31_0 n f t (q.length + 1) (Rp ps) ps.length ((i + 1 : Nat) : Int) (Rp (q ++ [⟨b, Rw o⟩])) = some (.e0 q'.length (Rp q')) ∧ L78_0 n (Rp ps) f t (q.length + 1) ((i + 1 : Nat) : Int) (Rp (q ++ [⟨b, Rw o⟩])) = some (.e0 q'.length (Rp q')) ∧ (∀ p ∈ q', Gd p) ∧ q'.length ≤ 100 := fun b o ho => by
        have := trim_loop hp hps hf ht n (i + 1) (q ++ [⟨b, Rw o⟩]) (by omega) (by omega) (by simp; omega) (fun p hp => by
          rw [List.mem_append, List.mem_singleton] at hp
          rcases hp with hp | rfl
          · exact hg p hp
          · exact ⟨o, rfl, ho⟩)
        rw [show (q ++ [(⟨b, Rw o⟩ : W39)]).length = q.length + 1 by simp] at this
        exact this
      have hr : (q.length + 1) * 32 ≤ 140737488355328 ∧ q.length + 1 ≤ 140737488355328 := by omega
      have c47 : F47 (Rw l) = some (.a0 (Rw l)) := by unfold F47; rw [if_pos (by rw [rw_len]; omega)]
      have c102 : F102 ps[i].c0 (Rw l) = some (.a0 ps[i].c0 l.length (Rw l)) := by
        unfold F102; rw [if_pos (by rw [rw_len]; omega), rw_len, Nat.zero_add, List.nil_append]
      -- the part, in the one and in the other
      rw [L31_0, L78_0]
      simp only [rp_len, if_pos hc, if_pos g1, show Int.toNat (i : Int) = i by omega, rp_get, List.getElem?_eq_getElem h, Option.bind_some, e1, c102, c47, wsucc (show i < 9000000000000 by omega), a1, a2, F63_eq, mulr r f hf, mulr r t ht, b1, b2, rw_len, rw_all, rp_all, Nat.zero_add, Nat.le_refl, if_true, true_and]
      have pq : ∀ (b : Bool) (o : List (List V)), Rp q ++ [[vb b, V.list 2 o]] = Rp (q ++ [⟨b, o⟩]) := fun b o => by simp
      simp only [pq, show List.take l.length (Rw l) = Rw l from rw_all l]
      by_cases z1 : f = 0
      · have w1 : (f == 0) = true := by rw [beq_iff_eq]; exact z1
        have w2 : ¬ (f != 0) = true := by rw [z1]; decide
        rw [if_pos w1, if_neg w2]
        by_cases z2 : t = 65536
        · have w3 : (t == 65536) = true := by rw [beq_iff_eq]; exact z2
          have w4 : ¬ (t != 65536) = true := by rw [z2]; decide
          rw [if_pos w3, if_neg w4, if_pos hr, if_pos hr]
          exact push ps[i].c0 l (by omega)
        · have w3 : ¬ (t == 65536) = true := by rw [beq_iff_eq]; exact z2
          have w4 : (t != 65536) = true := by rw [bne_iff_ne]; exact z2
          rw [if_neg w3, if_pos w4]
          by_cases z3 : (o.length : Int) < 2
          · rw [if_pos z3, if_neg (by omega)]; exact ih
          · rw [if_neg z3, if_pos (by omega), if_pos hr, if_pos hr]
            exact push false o (by omega)
      · have w1 : ¬ (f == 0) = true := by rw [beq_iff_eq]; exact z1
        have w2 : (f != 0) = true := by rw [bne_iff_ne]; exact z1
        rw [if_neg w1, if_pos w2]
        by_cases z3 : (o.length : Int) < 2
        · rw [if_pos z3, if_neg (by omega)]; exact ih
        · rw [if_neg z3, if_pos (by omega), if_pos hr, if_pos hr]
          exact push false o (by omega)
    · have hc : ¬ (i : Int) < (ps.length : Int) := by omega
      exact ⟨q, by rw [L31_0, if_neg hc], by rw [L78_0, rp_len ps, if_neg hc], hg, by omega⟩
/-- From where to where. -/
def lo (f t : Int) : Int := if cl t 0 65536 < cl f 0 65536 then cl t 0 65536 else cl f 0 65536
def hi (f t : Int) : Int := if cl t 0 65536 > cl f 0 65536 then cl t 0 65536 else cl f 0 65536
theorem span1 (f t : Int) : F62 f t = some (.a0 (lo f t) (hi f t)) := rfl
theorem span2 (f t : Int) : F77 f t = some (.a0 (lo f t) (hi f t)) := rfl
theorem lo_bd (f t : Int) : 0 ≤ lo f t ∧ lo f t ≤ 65536 := by
  have h1 := cl_bd f 0 65536 (by decide)
  have h2 := cl_bd t 0 65536 (by decide)
  unfold lo; split <;> omega
theorem hi_bd (f t : Int) : 0 ≤ hi f t ∧ hi f t ≤ 65536 := by
  have h1 := cl_bd f 0 65536 (by decide)
  have h2 := cl_bd t 0 65536 (by decide)
  unfold hi; split <;> omega
theorem trim2 {ps : List W39} (hp : ∀ p ∈ ps, Gi p) (hps : ps.length ≤ 100) (f t : Int) : ∃ q : List W39, F31 (Rp ps) f t = some (.a0 q.length (Rp q)) ∧ F78 (Rp ps) f t = some (.a0 q.length (Rp q)) ∧ (∀ p ∈ q, Gd p) ∧ q.length ≤ 100 := by
  obtain ⟨q, e1, e2, e3, e4⟩ := trim_loop hp hps (lo_bd f t) (hi_bd f t) 18446744073709551616 0 [] (by omega) (by omega) (by simp) (by simp)
  rw [show ((0 : Nat) : Int) = 0 by rfl] at e1 e2
  have e1' : L31_0 18446744073709551616 (lo f t) (hi f t) 0 (Rp ps) ps.length 0 [] = some (.e0 q.length (Rp q)) := e1
  have e2' : L78_0 18446744073709551616 (Rp ps) (lo f t) (hi f t) 0 0 [] = some (.e0 q.length (Rp q)) := e2
  refine ⟨q, ?_, ?_, e3, e4⟩
  · unfold F31; rw [span1, Option.bind_some]; simp only []; rw [rp_len, e1']; rfl
  · unfold F78; rw [span2, Option.bind_some]; simp only []; rw [e2']; rfl
/-- Chapter 10, of any few lines. -/
theorem same10 {ps : List W39} (hp : ∀ p ∈ ps, Gi p) (hps : ps.length ≤ 100) (f t : Int) : F42 (Rp ps) f t = some (.a0 true) := by
  obtain ⟨q, e1, e2, e3, e4⟩ := trim2 hp hps f t
  have g : 0 + q.length ≤ (Rp q).length := by rw [rp_len]; omega
  unfold F42
  simp only [span1, span2, Option.bind_some, beq_self_eq_true, if_true, e1, e2, if_pos g, rp_all, polys_same q e3 (by omega)]
theorem known10 : F30 = some (.a0 true) := by kernel_rfl
theorem trimTells_plain (tape : List W3) (hl : (tape.length : Int) ≤ 9223372036854775807) (a b : Int) (raw : List W39) (hr : ∀ p ∈ raw, Gi p) : F12 (Rt tape) a b (Rp raw) = some (.a0 true) := by
  obtain ⟨c1, o1, s1, p1, _, k1, n1⟩ := poly_ex tape hl 0 (by decide)
  obtain ⟨c2, o2, s2, p2, _, k2, n2⟩ := poly_ex tape hl s1 n1
  obtain ⟨c3, o3, s3, p3, _, k3, n3⟩ := poly_ex tape hl s2 n2
  have g1 : 0 + o1.length ≤ (Rw o1).length := by rw [rw_len]; omega
  have g2 : 0 + o2.length ≤ (Rw o2).length := by rw [rw_len]; omega
  have g3 : 0 + o3.length ≤ (Rw o3).length := by rw [rw_len]; omega
  have gl : ∀ p ∈ ([⟨c1, Rw o1⟩, ⟨c2, Rw o2⟩, ⟨c3, Rw o3⟩] : List W39), Gi p := by
    intro p hp
    simp only [List.mem_cons, List.not_mem_nil, or_false] at hp
    rcases hp with rfl | rfl | rfl
    · exact ⟨o1, rfl, by omega⟩
    · exact ⟨o2, rfl, by omega⟩
    · exact ⟨o3, rfl, by omega⟩
  have sm : ∀ f t, F42 [[vb c1, V.list 2 (Rw o1)], [vb c2, V.list 2 (Rw o2)], [vb c3, V.list 2 (Rw o3)]] f t = some (.a0 true) := fun f t => same10 gl (by simp) f t
  have ht : List.take 3 (Rp raw) = Rp (raw.take 3) := by simp [Rp, List.map_take]
  unfold F12
  simp only [p1, p2, p3, Option.bind_some, if_pos g1, if_pos g2, if_pos g3, rw_all, rp_len]
  by_cases hc : (raw.length : Int) > 3
  · have hb : (0 : Int) ≤ 0 ∧ (0 : Int) ≤ 3 ∧ (3 : Int) ≤ (raw.length : Int) := by omega
    rw [if_pos hc, if_pos hb, ht]
    simp only [sm, same10 (ps := raw.take 3) (fun p hp => hr p (List.mem_of_mem_take hp)) (by rw [List.length_take]; omega), Option.bind_some, if_true, known10]
  · rw [if_neg hc]
    simp only [sm, same10 hr (by omega), Option.bind_some, if_true, known10]
end Go.Proofs.Ythohhdcngdmbeaa.H
