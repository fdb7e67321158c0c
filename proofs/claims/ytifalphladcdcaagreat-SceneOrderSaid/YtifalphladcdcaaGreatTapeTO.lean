import Derived.Test.YtifalphladcdcaaGreatPath4O
set_option linter.unusedVariables false
set_option linter.unusedSimpArgs false
/- Keys of numbers, of colours: whether they may be, the number at a tick: the program's and the document's tell the same. Conditions: those stated. -/
namespace Go.Proofs.YtifalphladcdcaaGreat.H
open Go Go.VM
set_option maxRecDepth 100000
abbrev Ky := W74
abbrev Rn (ks : List Ky) : List (List V) := ks.map W74.cells
theorem rn_get (ks : List Ky) (i : Nat) : ((Rn ks)[i]?).bind W74.dec = ks[i]? := by
  simp only [Rn, List.getElem?_map]
  cases ks[i]? <;> rfl
theorem rn_len (ks : List Ky) : (Rn ks).length = ks.length := List.length_map ..
theorem take_rn (ks : List Ky) : List.take ks.length (Rn ks) = Rn ks := List.take_of_length_le (by rw [rn_len]; exact Nat.le_refl _)
/-- Whether the i-th key may be behind the one ahead of it. -/
def okN (ks : List Ky) (i : Nat) (h : i < ks.length) : Prop := movesv ks[i].c0 ks[i].c2 ks[i].c3 ks[i].c4 ks[i].c5 ks[i].c6 = true ∧ (-67108864 ≤ ks[i].c1 ∧ ks[i].c1 ≤ 67108864) ∧ ∀ x, 0 < i → ks[i - 1]? = some x → x.c0 < ks[i].c0
/-! ### The number at a tick -/
def lsN (ks : List Ky) (t : Int) : Nat → Int
  | 0 => -1
  | m + 1 => match ks[m]? with
    | some k => if k.c0 ≤ t then m else lsN ks t m
    | none => lsN ks t m
theorem lsN_bd (ks : List Ky) (t : Int) : ∀ m : Nat, -1 ≤ lsN ks t m ∧ lsN ks t m < m
  | 0 => by simp [lsN]
  | m + 1 => by
    have := lsN_bd ks t m
    unfold lsN
    split
    · split <;> omega
    · omega
theorem qfind_loop (ks : List Ky) (hl : (ks.length : Int) < 4611686018427387904) (t : Int) : ∀ (n m : Nat), m ≤ ks.length → m < n →
    L133_0 n (.s0 (.mk (Rn ks) t ((m : Int) - 1))) = some (if lsN ks t m = -1 then .e1 else (.e0 (.mk (lsN ks t m))))
  | 0, m, _, hn => by omega
  | n + 1, m, hm, hn => by
    rw [L133_0_s0]
    cases m with
    | zero => simp only [D133_0, PT.ev, PT.test, dite_eq_ite, if_neg (show ¬ (((0 : Nat) : Int) - 1 ≥ 0) by omega), N133_0.nx, lsN, if_true]
    | succ m =>
      have hi : m < ks.length := by omega
      have e : ((m + 1 : Nat) : Int) - 1 = (m : Int) := by omega
      have hw : w64 ((m : Int) - 1) = (m : Int) - 1 := by rw [w64_in (by omega) (by omega)]
      simp only [D133_0, PT.ev, PT.test, dite_eq_ite, e, if_pos (show (m : Int) ≥ 0 by omega), if_pos (show (0 : Int) ≤ (m : Int) by omega), Int.toNat_natCast, rn_get, List.getElem?_eq_getElem hi, Option.bind_some, N133_0.nx, N133_0.nx, hw, lsN]
      by_cases h : ks[m].c0 ≤ t
      · rw [if_pos h, if_pos h, if_neg (by omega)]
      · rw [if_neg h, if_neg h]
        exact qfind_loop ks hl t n m (by omega) (by omega)
theorem qfind (ks : List Ky) (hl : (ks.length : Int) < 4611686018427387904) (t : Int) : F133 (Rn ks) t = some (.a0 (lsN ks t ks.length)) := by
  have hw : w64 ((ks.length : Int) - 1) = (ks.length : Int) - 1 := by rw [w64_in (by omega) (by omega)]
  have h := qfind_loop ks hl t 18446744073709551616 ks.length (by omega) (by omega)
  simp only [F133, D133, PT.ev, PT.test, dite_eq_ite, rn_len, hw, h, Option.bind_some]
  by_cases e : lsN ks t ks.length = -1
  · rw [if_pos e, e]; rfl
  · rw [if_neg e]; rfl
/-- The number at a tick. -/
def atN (ks : List Ky) (t none_ : Int) : Int :=
  if ks.length = 0 then none_ else
  if lsN ks t ks.length = -1 then (ks.getD 0 ⟨0, 0, 0, 0, 0, 0, 0⟩).c1 else
  if lsN ks t ks.length = (ks.length : Int) - 1 then (ks.getD (ks.length - 1) ⟨0, 0, 0, 0, 0, 0, 0⟩).c1 else
  (fun (k l : Ky) => mid k.c1 l.c1 (goesv k.c2 k.c3 k.c4 k.c5 k.c6 (partv k.c0 l.c0 t))) (ks.getD (lsN ks t ks.length).toNat ⟨0, 0, 0, 0, 0, 0, 0⟩) (ks.getD (lsN ks t ks.length + 1).toNat ⟨0, 0, 0, 0, 0, 0, 0⟩)
theorem getD_lt {α : Type} (l : List α) (i : Nat) (d : α) (h : i < l.length) : l.getD i d = l[i] := by rw [List.getD_eq_getElem?_getD, List.getElem?_eq_getElem h]; rfl
theorem qat (ks : List Ky) (hl : (ks.length : Int) < 4611686018427387904) (t d : Int) : F72 (Rn ks) t d = some (.a0 (atN ks t d)) := by
  have hb := lsN_bd ks t ks.length
  simp only [F72, D72, PT.ev, PT.test, dite_eq_ite, rn_len, qfind ks hl t, Option.bind_some, beq_iff_eq, atN]
  by_cases h0 : ks.length = 0
  · rw [if_pos (by omega), if_pos h0]
  · have hw : w64 ((ks.length : Int) - 1) = (ks.length : Int) - 1 := by rw [w64_in (by omega) (by omega)]
    rw [if_neg (by omega), if_neg h0, hw]
    generalize lsN ks t ks.length = z at *
    by_cases h1 : z = -1
    · rw [if_pos h1, if_pos h1, rn_get, List.getElem?_eq_getElem (by omega), getD_lt _ _ _ (by omega)]; rfl
    · rw [if_neg h1, if_neg h1]
      have hz : z.toNat < ks.length := by omega
      by_cases h2 : z = (ks.length : Int) - 1
      · rw [if_pos h2, if_pos h2, if_pos (by omega), rn_get, List.getElem?_eq_getElem hz, getD_lt _ _ _ (by omega)]
        have : z.toNat = ks.length - 1 := by omega
        simp only [this, Option.bind_some]
      · have hz2 : (z + 1).toNat < ks.length := by omega
        have hw2 : w64 (z + 1) = z + 1 := w64_in (by omega) (by omega)
        simp only [if_neg h2, if_pos (show 0 ≤ z by omega), hw2, if_pos (show 0 ≤ z + 1 by omega), rn_get, List.getElem?_eq_getElem hz, List.getElem?_eq_getElem hz2, Option.bind_some, qpart, qgoes, qmid', getD_lt _ _ _ hz, getD_lt _ _ _ hz2]
end Go.Proofs.YtifalphladcdcaaGreat.H

/- Rectangles, ovals, stars: the program's and the document's are the same. Conditions: those stated. -/
namespace Go.Proofs.YtifalphladcdcaaGreat.H
open Go Go.VM
set_option maxRecDepth 100000
theorem at_pt (x y : Int) : F123 x y = some (.a0 x y) := rfl
theorem w64_w (a b : Int) : w64 (a + w64 (0 - b)) = w64 (a - b) := by rw [w64_eq, w64_eq, w64_eq]; omega
/-! ### Angles -/
def tn (a : Int) : Int := if Int.tmod a 23592960 < 0 then Int.tmod a 23592960 + 23592960 else Int.tmod a 23592960
theorem tmod_bd (a : Int) : -23592960 < Int.tmod a 23592960 ∧ Int.tmod a 23592960 < 23592960 := by
  constructor
  · have := Int.lt_tmod_of_pos a (show (0 : Int) < 23592960 by decide); omega
  · exact Int.tmod_lt_of_pos a (by decide)
theorem tn_bd (a : Int) : 0 ≤ tn a ∧ tn a < 23592960 := by
  have := tmod_bd a
  unfold tn; split <;> omega
theorem qturn (a : Int) : F189 a = tn a := by
  have := tmod_bd a
  simp only [F189, D189, PT.evT, PT.test, dite_eq_ite, tn]
  split
  · rw [w64_in (by omega) (by omega)]
  · rfl
theorem tmod_nn {a b : Int} (h : 0 ≤ a) : Int.tmod a b = a % b := Int.tmod_eq_emod_of_nonneg h
theorem tn_of {a : Int} (h : 0 ≤ a) (h' : a < 23592960) : tn a = a := by
  unfold tn
  rw [tmod_nn h, if_neg (by omega)]; omega
def sv (x : Int) : Int := w64 (Int.tdiv (w64 (w64 (4 * w64 (Int.tdiv (w64 (x * w64 (11796480 - x))) 65536)) * 65536)) (w64 (2654208000 - w64 (Int.tdiv (w64 (x * w64 (11796480 - x))) 65536))))
theorem prod_le (x : Int) (h : 0 ≤ x) (h' : x ≤ 11796480) : 0 ≤ x * (11796480 - x) ∧ x * (11796480 - x) ≤ 34789235097600 := by
  constructor
  · exact Int.mul_nonneg h (by omega)
  · have e : 4 * (x * (11796480 - x)) = 11796480 * 11796480 - (2 * x - 11796480) * (2 * x - 11796480) := by
      rw [Int.mul_sub, Int.sub_mul, Int.mul_sub, Int.mul_sub]
      have : 2 * x * (2 * x) = 4 * (x * x) := by rw [Int.mul_assoc, Int.mul_left_comm x 2 x]; omega
      omega
    have : 0 ≤ (2 * x - 11796480) * (2 * x - 11796480) := by
      rcases Int.le_total 0 (2 * x - 11796480) with hh | hh
      · exact Int.mul_nonneg hh hh
      · exact Int.mul_nonneg_of_nonpos_of_nonpos hh hh
    omega
theorem sv_parts (x : Int) (h : 0 ≤ x) (h' : x ≤ 11796480) : w64 (2654208000 - w64 (Int.tdiv (w64 (x * w64 (11796480 - x))) 65536)) ≠ 0 ∧ 0 ≤ sv x ∧ sv x ≤ 65536 := by
  have ⟨a, b⟩ := prod_le x h h'
  unfold sv
  rw [w64_in (n := 11796480 - x) (by omega) (by omega)]
  generalize x * (11796480 - x) = p at *
  rw [w64_in (n := p) (by omega) (by omega), Int.tdiv_eq_ediv_of_nonneg a]
  have hq : 0 ≤ p / 65536 ∧ p / 65536 ≤ 530841600 := by omega
  generalize p / 65536 = q at *
  rw [w64_in (n := q) (by omega) (by omega), w64_in (n := 4 * q) (by omega) (by omega), w64_in (n := 4 * q * 65536) (by omega) (by omega), w64_in (n := 2654208000 - q) (by omega) (by omega), Int.tdiv_eq_ediv_of_nonneg (by omega)]
  have h1 : 0 ≤ 4 * q * 65536 / (2654208000 - q) := Int.ediv_nonneg (by omega) (by omega)
  have h2 : 4 * q * 65536 / (2654208000 - q) ≤ 65536 := Int.ediv_le_of_le_mul (by omega) (by omega)
  rw [w64_in (by omega) (by omega)]
  exact ⟨by omega, h1, h2⟩
def sn (a : Int) : Int := if tn a ≥ 11796480 then w64 (0 - sv (tn a - 11796480)) else sv (tn a)
theorem sn_bd (a : Int) : -65536 ≤ sn a ∧ sn a ≤ 65536 := by
  have hb := tn_bd a
  unfold sn
  split
  · have := (sv_parts (tn a - 11796480) (by omega) (by omega)).2
    rw [w64_in (by omega) (by omega)]; omega
  · have := (sv_parts (tn a) (by omega) (by omega)).2
    omega
theorem qsin_lo (n : Nat) (a : Int) (h : tn a < 11796480) : F128 (n + 1) a = some (.a0 (sv (tn a))) := by
  have hb := tn_bd a
  rw [F128_succ]
  simp only [D128, PT.ev, PT.test, dite_eq_ite, bnd_def, qturn, if_neg (show ¬ tn a ≥ 11796480 by omega), if_neg (sv_parts (tn a) hb.1 (by omega)).1]
  rfl
theorem qsin (n : Nat) (a : Int) : F128 (n + 2) a = some (.a0 (sn a)) := by
  have hb := tn_bd a
  unfold sn
  by_cases h : tn a ≥ 11796480
  · have hw : w64 (tn a - 11796480) = tn a - 11796480 := w64_in (by omega) (by omega)
    have ht : tn (tn a - 11796480) = tn a - 11796480 := tn_of (by omega) (by omega)
    rw [F128_succ]
    simp only [D128, PT.ev, PT.test, dite_eq_ite, bnd_def, qturn, if_pos h, hw, qsin_lo n _ (show tn (tn a - 11796480) < 11796480 by omega), Option.bind_some, ht]
  · rw [if_neg h]; exact qsin_lo (n + 1) a (by omega)
def cs (a : Int) : Int := sn (w64 (tn a + 5898240))
theorem qsin' (a : Int) : F128 100000 a = some (.a0 (sn a)) := qsin 99998 a
theorem qcos (a : Int) : F127 a = some (.a0 (cs a)) := by simp only [F127, D127, PT.ev, PT.test, dite_eq_ite, bnd_def, qturn, qsin', Option.bind_some, cs]
/-! ### Stars -/
theorem push1 (ps : List Pt) (a : Pt) : List.take ps.length (Rp ps) ++ [a.cells] = Rp (ps ++ [a]) := by
  rw [take_rp]
  simp only [Rp, List.map_append, List.map_cons, List.map_nil]
end Go.Proofs.YtifalphladcdcaaGreat.H

/- The shape of a tape: there is one, and it is one that may be. Conditions: those stated. -/
namespace Go.Proofs.YtifalphladcdcaaGreat.H
open Go Go.VM
set_option maxRecDepth 100000
abbrev Ck := W108
abbrev Rc (ks : List Ck) : List (List V) := ks.map W108.cells
abbrev Dn := W2
abbrev Rd (ds : List Dn) : List (List V) := ds.map W2.cells
theorem rd_len (ds : List Dn) : (Rd ds).length = ds.length := List.length_map ..
theorem rc_len (ks : List Ck) : (Rc ks).length = ks.length := List.length_map ..
def okC (ks : List Ck) (i : Nat) (h : i < ks.length) : Prop := movesv ks[i].c0 ks[i].c5 ks[i].c6 ks[i].c7 ks[i].c8 ks[i].c9 = true ∧ ∀ x, 0 < i → ks[i - 1]? = some x → x.c0 < ks[i].c0
/-- Keys of numbers from lo to hi, ahead of T, one behind the other. -/
structure Gn (lo hi T : Int) (ks : List Ky) : Prop where
  each : ∀ k ∈ ks, 0 ≤ k.c0 ∧ k.c0 < T ∧ lo ≤ k.c1 ∧ k.c1 ≤ hi ∧ ways k.c2 k.c3 k.c4 k.c5 k.c6 = true
  inc : ks.Pairwise (fun a b => a.c0 < b.c0)
theorem Gn.nil {lo hi T : Int} : Gn lo hi T [] := ⟨fun k hk => absurd hk List.not_mem_nil, List.Pairwise.nil⟩
theorem Gn.push {lo hi T T' : Int} {ks : List Ky} {x : Ky} (g : Gn lo hi T ks) (h : T ≤ x.c0) (h0 : 0 ≤ x.c0) (h' : x.c0 < T') (hv : lo ≤ x.c1 ∧ x.c1 ≤ hi) (hw : ways x.c2 x.c3 x.c4 x.c5 x.c6 = true) : Gn lo hi T' (ks ++ [x]) := by
  refine ⟨fun k hk => ?_, ?_⟩
  · rcases List.mem_append.1 hk with hk | hk
    · have := g.each k hk; exact ⟨this.1, by omega, this.2.2⟩
    · rw [List.mem_singleton] at hk; subst hk; exact ⟨h0, h', hv.1, hv.2, hw⟩
  · rw [List.pairwise_append]
    exact ⟨g.inc, List.pairwise_singleton _ _, fun a ha b hb => by rw [List.mem_singleton] at hb; subst hb; have := g.each a ha; omega⟩
theorem Gn.ok {lo hi T : Int} {ks : List Ky} (g : Gn lo hi T ks) (h1 : -67108864 ≤ lo) (h2 : hi ≤ 67108864) (h3 : T ≤ 1073741824) : ∀ j (h : j < ks.length), okN ks j h := by
  intro j h
  have he := g.each ks[j] (List.getElem_mem h)
  refine ⟨?_, ⟨by omega, by omega⟩, ?_⟩
  · rw [movesv, he.2.2.2.2, decide_eq_true (by omega), decide_eq_true (by omega)]; rfl
  · intro x h0 hx
    obtain ⟨hlt, rfl⟩ := List.getElem?_eq_some_iff.1 hx
    exact List.pairwise_iff_getElem.1 g.inc (j - 1) j hlt h (by omega)
theorem ways0 (h : Int) (h' : h = 0 ∨ h = 1) : ways h 0 0 0 0 = true := by rcases h' with rfl | rfl <;> simp [ways]
theorem ways2 (a b c d : Int) (ha : 0 ≤ a ∧ a ≤ 65536) (hb : -131072 ≤ b ∧ b ≤ 196608) (hc : 0 ≤ c ∧ c ≤ 65536) (hd : -131072 ≤ d ∧ d ≤ 196608) : ways 2 a b c d = true := by
  simp only [ways, if_true, easev, decide_eq_true ha, decide_eq_true hb, decide_eq_true hc, decide_eq_true hd, Bool.and_self]
theorem how_ex (tape : List W3) (s : Int) (hs : 0 ≤ s) (hl : (tape.length : Int) ≤ 9223372036854775807) :
    ∃ h a b c d s', F45 (Rt tape) s = some (.a0 h a b c d (Rt tape) s') ∧ 0 ≤ s' ∧ ways h a b c d = true := by
  obtain ⟨v, s1, e1, l1, u1, p1⟩ := next_ex tape s 4 hs hl (by decide)
  simp only [F45, D45, PT.ev, PT.test, dite_eq_ite, e1, Option.bind_some]
  by_cases h0 : v = 0
  · rw [if_pos (by rw [beq_iff_eq]; exact h0)]
    exact ⟨0, 0, 0, 0, 0, s1, rfl, p1, ways0 0 (.inl rfl)⟩
  · rw [if_neg (by rw [beq_iff_eq]; exact h0)]
    by_cases h1 : v = 1
    · rw [if_pos (by rw [beq_iff_eq]; exact h1)]
      obtain ⟨a, s2, e2, l2, u2, p2⟩ := next_ex tape s1 65537 p1 hl (by decide)
      obtain ⟨b, s3, e3, l3, u3, p3⟩ := number_ex tape (-1) 1 s2 p2 hl (by decide) (by decide) (by decide)
      obtain ⟨c, s4, e4, l4, u4, p4⟩ := next_ex tape s3 65537 p3 hl (by decide)
      obtain ⟨d, s5, e5, l5, u5, p5⟩ := number_ex tape 0 2 s4 p4 hl (by decide) (by decide) (by decide)
      simp only [F107, D107, PT.ev, PT.test, dite_eq_ite, e2, e3, e4, e5, Option.bind_some]
      exact ⟨2, a, b, c, d, s5, rfl, p5, ways2 a b c d (by omega) (by omega) (by omega) (by omega)⟩
    · rw [if_neg (by rw [beq_iff_eq]; exact h1)]
      exact ⟨1, 0, 0, 0, 0, s1, rfl, p1, ways0 1 (.inr rfl)⟩
theorem pushN (ks : List Ky) (x : Ky) : List.take ks.length (Rn ks) ++ [x.cells] = Rn (ks ++ [x]) := by
  rw [take_rn]; simp only [Rn, List.map_append, List.map_cons, List.map_nil]
theorem tkeys_loop (tape : List W3) (hl : (tape.length : Int) ≤ 9223372036854775807) (lo hi : Int) (h1 : -1000 ≤ lo) (h2 : lo ≤ hi) (h3 : hi ≤ 1000) : ∀ (m n : Nat) (acc : List Ky) (T s : Int), n < m → acc.length + n ≤ 3 →
    Gn (lo * 65536) (hi * 65536 + 65535) T acc → 0 ≤ T → T + 8 * n ≤ 30 → 0 ≤ s →
    ∃ ks s', L46_0 m (.s0 (.mk lo hi acc.length T n (Rt tape) s (Rn acc))) = some (.e0 (.mk ks.length (Rt tape) s' (Rn ks))) ∧ ks.length ≤ 3 ∧ Gn (lo * 65536) (hi * 65536 + 65535) 31 ks ∧ 0 ≤ s'
  | 0, n, acc, T, s, h, _, _, _, _, _ => by omega
  | m + 1, n, acc, T, s, h, g1, g2, g3, g4, g5 => by
    rw [L46_0_s0]
    cases n with
    | zero =>
      simp only [D46_0, PT.ev, PT.test, dite_eq_ite, if_neg (show ¬ (((0 : Nat) : Int) > 0) by omega), N46_0.nx]
      exact ⟨acc, s, rfl, by omega, ⟨fun k hk => by have := g2.each k hk; exact ⟨this.1, by omega, this.2.2⟩, g2.inc⟩, g5⟩
    | succ n =>
      obtain ⟨v, s1, e1, l1, u1, p1⟩ := number_ex tape lo hi s g5 hl h1 h2 h3
      obtain ⟨w, a, b, c, d, s2, e2, p2, w2⟩ := how_ex tape s1 p1 hl
      obtain ⟨u, s3, e3, l3, u3, p3⟩ := next_ex tape s2 8 p2 hl (by decide)
      have hc : 0 + acc.length ≤ acc.length ∧ (acc.length + 1) * 56 ≤ 140737488355328 ∧ acc.length + 1 ≤ 140737488355328 := by omega
      have ht : w64 (w64 (T + 1) + u) = T + 1 + u := by rw [w64_in (n := T + 1) (by omega) (by omega), w64_in (by omega) (by omega)]
      have hn : w64 (((n + 1 : Nat) : Int) - 1) = (n : Int) := by rw [w64_in (by omega) (by omega)]; omega
      simp only [D46_0, PT.ev, PT.test, dite_eq_ite, if_pos (show ((n + 1 : Nat) : Int) > 0 by omega), e1, e2, e3, Option.bind_some, rn_len, if_pos hc, ht, hn, N46_0.nx]
      have e : List.take acc.length (Rn acc) ++ [[i64 T, i64 v, i64 w, i64 a, i64 b, i64 c, i64 d]] = Rn (acc ++ [⟨T, v, w, a, b, c, d⟩]) := pushN acc ⟨T, v, w, a, b, c, d⟩
      have hlen : (acc ++ [(⟨T, v, w, a, b, c, d⟩ : Ky)]).length = acc.length + 1 := by simp
      rw [e, ← hlen]
      exact tkeys_loop tape hl lo hi h1 h2 h3 m n _ (T + 1 + u) s3 (by omega) (by rw [hlen]; omega) (g2.push (Int.le_refl T) g3 (by show T < _; omega) ⟨l1, u1⟩ w2) (by omega) (by omega) p3
theorem tkeys_ex (tape : List W3) (hl : (tape.length : Int) ≤ 9223372036854775807) (lo hi : Int) (h1 : -1000 ≤ lo) (h2 : lo ≤ hi) (h3 : hi ≤ 1000) (s : Int) (hs : 0 ≤ s) :
    ∃ ks s', F46 lo hi (Rt tape) s = some (.a0 ks.length (Rt tape) s' (Rn ks)) ∧ ks.length ≤ 3 ∧ Gn (lo * 65536) (hi * 65536 + 65535) 31 ks ∧ 0 ≤ s' := by
  obtain ⟨T, s1, e1, l1, u1, p1⟩ := next_ex tape s 6 hs hl (by decide)
  obtain ⟨n, s2, e2, l2, u2, p2⟩ := next_ex tape s1 4 p1 hl (by decide)
  obtain ⟨ks, s3, e3, q1, q2, q3⟩ := tkeys_loop tape hl lo hi h1 h2 h3 18446744073709551616 n.toNat [] T s2 (by omega) (by simp only [List.length_nil]; omega) Gn.nil l1 (by omega) p2
  rw [Int.toNat_of_nonneg l2, show (Rn ([] : List Ky)) = [] from rfl, show ([] : List Ky).length = 0 from rfl] at e3
  refine ⟨ks, s3, ?_, q1, q2, q3⟩
  simp only [F46, D46, PT.ev, PT.test, dite_eq_ite, e1, e2, Option.bind_some, e3]
/-- Keys of numbers, and one at 60 behind them. -/
theorem Gn.end_ {lo hi : Int} {ks : List Ky} (g : Gn lo hi 31 ks) (v : Int) (hv : lo ≤ v ∧ v ≤ hi) : Gn lo hi 61 (ks ++ [⟨60, v, 0, 0, 0, 0, 0⟩]) := g.push (by show 31 ≤ 60; omega) (by show 0 ≤ 60; omega) (by show 60 < 61; omega) hv (ways0 0 (.inl rfl))
/-! ### Paths' keys -/
structure Gp (c : Bool) (N T : Int) (ks : List PK) : Prop where
  each : ∀ k ∈ ks, 0 ≤ k.c0 ∧ k.c0 < T ∧ ways k.c3 k.c4 k.c5 k.c6 k.c7 = true ∧ k.c1 = c ∧ ∃ ps : List Pt, k.c2 = Rp ps ∧ (ps.length : Int) = 3 * N + 1 ∧ ∀ p ∈ ps, Bp p
  inc : ks.Pairwise (fun a b => a.c0 < b.c0)
theorem Gp.nil {c : Bool} {N T : Int} : Gp c N T [] := ⟨fun k hk => absurd hk List.not_mem_nil, List.Pairwise.nil⟩
theorem Gp.push {c : Bool} {N T T' : Int} {ks : List PK} {x : PK} (g : Gp c N T ks) (h : T ≤ x.c0) (h0 : 0 ≤ x.c0) (h' : x.c0 < T') (hw : ways x.c3 x.c4 x.c5 x.c6 x.c7 = true) (hc : x.c1 = c) (hp : ∃ ps : List Pt, x.c2 = Rp ps ∧ (ps.length : Int) = 3 * N + 1 ∧ ∀ p ∈ ps, Bp p) : Gp c N T' (ks ++ [x]) := by
  refine ⟨fun k hk => ?_, ?_⟩
  · rcases List.mem_append.1 hk with hk | hk
    · have := g.each k hk; exact ⟨this.1, by omega, this.2.2⟩
    · rw [List.mem_singleton] at hk; subst hk; exact ⟨h0, h', hw, hc, hp⟩
  · rw [List.pairwise_append]
    exact ⟨g.inc, List.pairwise_singleton _ _, fun a ha b hb => by rw [List.mem_singleton] at hb; subst hb; have := g.each a ha; omega⟩
theorem Gp.gk {c : Bool} {N T : Int} {ks : List PK} (g : Gp c N T ks) (hN : N ≤ 300) : ∀ k ∈ ks, Gk k := fun k hk => by
  obtain ⟨_, _, _, _, ps, h1, h2, h3⟩ := g.each k hk
  exact Gk.of h1 (by omega) h3
theorem pushK (ks : List PK) (x : PK) : List.take ks.length (Rk ks) ++ [x.cells] = Rk (ks ++ [x]) := by
  rw [List.take_of_length_le (by rw [rk_len]; exact Nat.le_refl _)]; simp only [Rk, List.map_append, List.map_cons, List.map_nil]
theorem pk_loop (tape : List W3) (hl : (tape.length : Int) ≤ 9223372036854775807) (N : Int) (hN : 0 ≤ N) (hN' : N ≤ 40) (c : Bool) (fo nn : Int) : ∀ (m n : Nat) (acc : List PK) (T s : Int), n < m → acc.length + n ≤ 4 →
    Gp c N T acc → 0 ≤ T → T + 6 * n ≤ 30 → 0 ≤ s →
    ∃ ks s', L13_0 m (.s0 (.mk N c T n (Rt tape) s fo nn acc.length (Rk acc))) = some (.e0 (.mk (Rt tape) s' fo nn ks.length (Rk ks))) ∧ ks.length = acc.length + n ∧ Gp c N 31 ks ∧ 0 ≤ s'
  | 0, n, acc, T, s, h, _, _, _, _, _ => by omega
  | m + 1, n, acc, T, s, h, g1, g2, g3, g4, g5 => by
    rw [L13_0_s0]
    cases n with
    | zero =>
      simp only [D13_0, PT.ev, PT.test, dite_eq_ite, if_neg (show ¬ (((0 : Nat) : Int) > 0) by omega), N13_0.nx]
      exact ⟨acc, s, rfl, rfl, ⟨fun k hk => by have := g2.each k hk; exact ⟨this.1, by omega, this.2.2⟩, g2.inc⟩, g5⟩
    | succ n =>
      obtain ⟨ps, s1, e1, l1, b1, p1⟩ := path_ex tape s g5 hl N hN hN' c
      obtain ⟨w, a, b, d, g, s2, e2, p2, w2⟩ := how_ex tape s1 p1 hl
      obtain ⟨u, s3, e3, l3, u3, p3⟩ := next_ex tape s2 6 p2 hl (by decide)
      have hc : 0 + acc.length ≤ acc.length ∧ (acc.length + 1) * 80 ≤ 140737488355328 ∧ acc.length + 1 ≤ 140737488355328 := by omega
      have ht : w64 (w64 (T + 1) + u) = T + 1 + u := by rw [w64_in (n := T + 1) (by omega) (by omega), w64_in (by omega) (by omega)]
      have hn : w64 (((n + 1 : Nat) : Int) - 1) = (n : Int) := by rw [w64_in (by omega) (by omega)]; omega
      simp only [D13_0, PT.ev, PT.test, dite_eq_ite, if_pos (show ((n + 1 : Nat) : Int) > 0 by omega), e1, e2, e3, Option.bind_some, rp_len, rk_len, if_pos (show 0 + ps.length ≤ ps.length by omega), if_pos hc, take_rp, ht, hn, N13_0.nx]
      have e : List.take acc.length (Rk acc) ++ [[i64 T, vb c, V.list 2 (Rp ps), i64 w, i64 a, i64 b, i64 d, i64 g]] = Rk (acc ++ [⟨T, c, Rp ps, w, a, b, d, g⟩]) := pushK acc ⟨T, c, Rp ps, w, a, b, d, g⟩
      have hlen : (acc ++ [(⟨T, c, Rp ps, w, a, b, d, g⟩ : PK)]).length = acc.length + 1 := by simp
      rw [e, ← hlen]
      obtain ⟨ks, s', q1, q2, q3⟩ := pk_loop tape hl N hN hN' c fo nn m n _ (T + 1 + u) s3 (by omega) (by rw [hlen]; omega) (g2.push (Int.le_refl T) g3 (by show T < _; omega) w2 rfl ⟨ps, rfl, l1, b1⟩) (by omega) (by omega) p3
      exact ⟨ks, s', q1, by rw [q2, hlen]; omega, q3⟩
end Go.Proofs.YtifalphladcdcaaGreat.H

/- The shape of a tape, whole. Conditions: those stated. -/
namespace Go.Proofs.YtifalphladcdcaaGreat.H
open Go Go.VM
set_option maxRecDepth 100000
/-- What is drawn by paths, or by numbers. -/
structure Gf (fo : Int) (W H : List Ky) (P : List PK) : Prop where
  drawn : fo = 3 → W = [] ∧ H = [] ∧ 1 ≤ P.length ∧ P.length ≤ 4 ∧ ∃ c N, 1 ≤ N ∧ N ≤ 3 ∧ Gp c N 31 P
  made : fo ≠ 3 → P = [] ∧ (1 ≤ W.length ∧ W.length ≤ 4) ∧ (1 ≤ H.length ∧ H.length ≤ 4) ∧ Gn 65536 983039 61 W ∧ Gn 65536 983039 61 H
theorem c15_ex (tape : List W3) (hl : (tape.length : Int) ≤ 9223372036854775807) (s fo : Int) (hs : 0 ≤ s) :
    ∃ n s', J13_c15 (.mk (fo == 2) (Rt tape) s fo) = some (.e0 (.mk (Rt tape) s' fo n)) ∧ 0 ≤ s' ∧ (fo = 2 → 2 ≤ n ∧ n ≤ 16) ∧ (fo ≠ 2 → n = 0) := by
  by_cases h : fo = 2
  · obtain ⟨v, s1, e1, l1, u1, p1⟩ := next_ex tape s 5 hs hl (by decide)
    have hw : w64 (2 + v) = 2 + v := w64_in (by omega) (by omega)
    simp only [J13_c15, D13_c15, PT.ev, PT.test, dite_eq_ite, beq_iff_eq, if_pos h, e1, Option.bind_some, hw]
    exact ⟨2 + v, s1, rfl, p1, fun _ => by omega, fun hn => absurd h hn⟩
  · simp only [J13_c15, D13_c15, PT.ev, PT.test, dite_eq_ite, beq_iff_eq, if_neg h]
    exact ⟨0, s, rfl, hs, fun hn => absurd hn h, fun _ => rfl⟩
theorem c22_ex (tape : List W3) (hl : (tape.length : Int) ≤ 9223372036854775807) (s fo n : Int) (hs : 0 ≤ s) :
    ∃ (W H : List Ky) (P : List PK) (s' : Int), J13_c22 (.mk (fo == 3) (Rt tape) s fo n) = some (.e0 (.mk (Rt tape) s' fo n W.length H.length P.length (Rn W) (Rn H) (Rk P))) ∧ 0 ≤ s' ∧ Gf fo W H P := by
  by_cases h : fo = 3
  · obtain ⟨a, s1, e1, l1, u1, p1⟩ := next_ex tape s 3 hs hl (by decide)
    obtain ⟨b, s2, e2, l2, u2, p2⟩ := next_ex tape s1 2 p1 hl (by decide)
    obtain ⟨T, s3, e3, l3, u3, p3⟩ := next_ex tape s2 4 p2 hl (by decide)
    obtain ⟨k, s4, e4, l4, u4, p4⟩ := next_ex tape s3 3 p3 hl (by decide)
    have hw : w64 (1 + a) = 1 + a := w64_in (by omega) (by omega)
    have hk : w64 (1 + k) = ((1 + k).toNat : Int) := by rw [w64_in (by omega) (by omega)]; omega
    obtain ⟨P, s5, e5, q1, q2, q3⟩ := pk_loop tape hl (1 + a) (by omega) (by omega) (b == 0) fo n 18446744073709551616 (1 + k).toNat [] T s4 (by omega) (by simp only [List.length_nil]; omega) Gp.nil l3 (by omega) p4
    rw [show (Rk ([] : List PK)) = [] from rfl, show ([] : List PK).length = 0 from rfl] at e5
    simp only [J13_c22, D13_c22, PT.ev, PT.test, dite_eq_ite, beq_iff_eq, if_pos h, e1, e2, e3, e4, Option.bind_some, hw, hk, e5]
    refine ⟨[], [], P, s5, rfl, q3, ⟨fun _ => ⟨rfl, rfl, ?_, ?_, b == 0, 1 + a, by omega, by omega, q2⟩, fun hn => absurd h hn⟩⟩
    · rw [q1]; simp only [List.length_nil]; omega
    · rw [q1]; simp only [List.length_nil]; omega
  · obtain ⟨W, s1, e1, w1, w2, p1⟩ := tkeys_ex tape hl 1 14 (by decide) (by decide) (by decide) s hs
    obtain ⟨v, s2, e2, l2, u2, p2⟩ := number_ex tape 1 14 s1 p1 hl (by decide) (by decide) (by decide)
    obtain ⟨H, s3, e3, h1, h2, p3⟩ := tkeys_ex tape hl 1 14 (by decide) (by decide) (by decide) s2 p2
    obtain ⟨u, s4, e4, l4, u4, p4⟩ := number_ex tape 1 14 s3 p3 hl (by decide) (by decide) (by decide)
    have hc : 0 + W.length ≤ W.length ∧ (W.length + 1) * 56 ≤ 140737488355328 ∧ W.length + 1 ≤ 140737488355328 := by omega
    have hd : 0 + H.length ≤ H.length ∧ (H.length + 1) * 56 ≤ 140737488355328 ∧ H.length + 1 ≤ 140737488355328 := by omega
    have eW : List.take W.length (Rn W) ++ [[i64 60, i64 v, i64 0, i64 0, i64 0, i64 0, i64 0]] = Rn (W ++ [⟨60, v, 0, 0, 0, 0, 0⟩]) := pushN W ⟨60, v, 0, 0, 0, 0, 0⟩
    have eH : List.take H.length (Rn H) ++ [[i64 60, i64 u, i64 0, i64 0, i64 0, i64 0, i64 0]] = Rn (H ++ [⟨60, u, 0, 0, 0, 0, 0⟩]) := pushN H ⟨60, u, 0, 0, 0, 0, 0⟩
    have lW : (W ++ [(⟨60, v, 0, 0, 0, 0, 0⟩ : Ky)]).length = W.length + 1 := by simp
    have lH : (H ++ [(⟨60, u, 0, 0, 0, 0, 0⟩ : Ky)]).length = H.length + 1 := by simp
    simp only [J13_c22, D13_c22, PT.ev, PT.test, dite_eq_ite, beq_iff_eq, if_neg h, e1, e2, e3, e4, Option.bind_some, rn_len, if_pos hc, if_pos hd, eW, eH]
    have gW : Gn 65536 983039 61 (W ++ [⟨60, v, 0, 0, 0, 0, 0⟩]) := Gn.end_ (show Gn 65536 983039 31 W from w2) v (by omega)
    have gH : Gn 65536 983039 61 (H ++ [⟨60, u, 0, 0, 0, 0, 0⟩]) := Gn.end_ (show Gn 65536 983039 31 H from h2) u (by omega)
    refine ⟨W ++ [⟨60, v, 0, 0, 0, 0, 0⟩], H ++ [⟨60, u, 0, 0, 0, 0, 0⟩], [], s4, by rw [lW, lH]; rfl, p4, ⟨fun hn => absurd hn h, fun _ => ⟨rfl, by rw [lW]; omega, by rw [lH]; omega, gW, gH⟩⟩⟩
theorem col_ex (tape : List W3) (hl : (tape.length : Int) ≤ 9223372036854775807) (s : Int) (hs : 0 ≤ s) : ∃ r g b a s', F49 (Rt tape) s = some (.a0 r g b a (Rt tape) s') ∧ 0 ≤ s' := by
  obtain ⟨v1, s1, e1, _, _, p1⟩ := next_ex tape s 256 hs hl (by decide)
  obtain ⟨v2, s2, e2, _, _, p2⟩ := next_ex tape s1 256 p1 hl (by decide)
  obtain ⟨v3, s3, e3, _, _, p3⟩ := next_ex tape s2 256 p2 hl (by decide)
  obtain ⟨v4, s4, e4, _, _, p4⟩ := next_ex tape s3 256 p3 hl (by decide)
  obtain ⟨v5, s5, e5, l5, u5, p5⟩ := next_ex tape s4 4 p4 hl (by decide)
  simp only [F49, D49, PT.ev, PT.test, dite_eq_ite, e1, e2, e3, e4, e5, Option.bind_some, if_pos (show 0 ≤ v5 ∧ v5 < 4 by omega)]
  have : v5 = 0 ∨ v5 = 1 ∨ v5 = 2 ∨ v5 = 3 := by omega
  rcases this with rfl | rfl | rfl | rfl <;> exact ⟨_, _, _, _, s5, rfl, p5⟩
theorem pt4_ex (tape : List W3) (hl : (tape.length : Int) ≤ 9223372036854775807) (s : Int) (hs : 0 ≤ s) : ∃ x y s', F106 (-4) 12 (Rt tape) s = some (.a0 x y (Rt tape) s') ∧ nr x = true ∧ nr y = true ∧ 0 ≤ s' := by
  obtain ⟨x, s1, e1, l1, u1, p1⟩ := number_ex tape (-4) 12 s hs hl (by decide) (by decide) (by decide)
  obtain ⟨y, s2, e2, l2, u2, p2⟩ := number_ex tape (-4) 12 s1 p1 hl (by decide) (by decide) (by decide)
  refine ⟨x, y, s2, ?_, ?_, ?_, p2⟩
  · simp only [F106, D106, PT.ev, PT.test, dite_eq_ite, e1, e2, Option.bind_some]
  · rw [nr, decide_eq_true (by omega), decide_eq_true (by omega)]; rfl
  · rw [nr, decide_eq_true (by omega), decide_eq_true (by omega)]; rfl
theorem paint_ex (tape : List W3) (hl : (tape.length : Int) ≤ 9223372036854775807) (s : Int) (hs : 0 ≤ s) :
    ∃ p0 p1 p2 p3 p4 p5 p6 p7 p8 p9 p10 p11 p12 p13 s', F48 (Rt tape) s = some (.a0 p0 p1 p2 p3 p4 p5 p6 p7 p8 p9 p10 p11 p12 p13 (Rt tape) s') ∧ 0 ≤ s' ∧ (0 ≤ p0 ∧ p0 ≤ 2) ∧ nr p9 = true ∧ nr p10 = true ∧ nr p11 = true ∧ nr p12 = true ∧ nr p13 = true := by
  obtain ⟨k, s1, e1, l1, u1, q1⟩ := next_ex tape s 3 hs hl (by decide)
  obtain ⟨a1, a2, a3, a4, s2, e2, q2⟩ := col_ex tape hl s1 q1
  obtain ⟨b1, b2, b3, b4, s3, e3, q3⟩ := col_ex tape hl s2 q2
  simp only [F48, D48, PT.ev, PT.test, dite_eq_ite, e1, e2, e3, Option.bind_some]
  by_cases h : (k != 0) = true
  · rw [if_pos h]
    obtain ⟨x, y, s4, e4, n1, n2, q4⟩ := pt4_ex tape hl s3 q3
    obtain ⟨z, w, s5, e5, n3, n4, q5⟩ := pt4_ex tape hl s4 q4
    obtain ⟨r, s6, e6, l6, u6, q6⟩ := number_ex tape 0 12 s5 q5 hl (by decide) (by decide) (by decide)
    simp only [e4, e5, e6, Option.bind_some, PT.ev, PT.test, dite_eq_ite]
    exact ⟨_, _, _, _, _, _, _, _, _, _, _, _, _, _, s6, rfl, q6, by omega, n1, n2, n3, n4, by rw [nr, decide_eq_true (by omega), decide_eq_true (by omega)]; rfl⟩
  · rw [if_neg h]
    exact ⟨_, _, _, _, _, _, _, _, _, _, _, _, _, _, s3, rfl, q3, by omega, rfl, rfl, rfl, rfl, rfl⟩
theorem c90_ex (tape : List W3) (hl : (tape.length : Int) ≤ 9223372036854775807) (q : Bool) (s : Int) (hs : 0 ≤ s) (fo n : Int) (k1 k2 k3 : Nat) (fi : Bool) (ru p0 p1 p2 p3 p4 p5 p6 p7 p8 p9 p10 p11 p12 p13 : Int) (A B C : List (List V)) :
    ∃ (cs : List Ck) (s' : Int), J13_c90 (.mk q (Rt tape) s fo n k1 k2 k3 fi ru p0 p1 p2 p3 p4 p5 p6 p7 p8 p9 p10 p11 p12 p13 A B C) = some (.e0 (.mk (Rt tape) s' fo n k1 k2 k3 fi ru p0 p1 p2 p3 p4 p5 p6 p7 p8 p9 p10 p11 p12 p13 cs.length A B C (Rc cs))) ∧ 0 ≤ s' ∧ cs.length ≤ 2 ∧ ∀ j (h : j < cs.length), okC cs j h := by
  simp only [J13_c90, D13_c90, PT.ev, PT.test, dite_eq_ite]
  by_cases h : q = true
  · obtain ⟨t, s1, e1, l1, u1, q1⟩ := next_ex tape s 5 hs hl (by decide)
    obtain ⟨a1, a2, a3, a4, s2, e2, q2⟩ := col_ex tape hl s1 q1
    obtain ⟨u, s3, e3, l3, u3, q3⟩ := next_ex tape s2 9 q2 hl (by decide)
    obtain ⟨b1, b2, b3, b4, s4, e4, q4⟩ := col_ex tape hl s3 q3
    have hw : w64 (5 + u) = 5 + u := w64_in (by omega) (by omega)
    simp only [if_pos h, e1, e2, e3, e4, Option.bind_some, PT.ev, PT.test, dite_eq_ite, hw]
    refine ⟨[⟨t, a1, a2, a3, a4, 1, 0, 0, 0, 0⟩, ⟨5 + u, b1, b2, b3, b4, 0, 0, 0, 0, 0⟩], s4, rfl, q4, Nat.le_refl _, ?_⟩
    intro j hj
    rcases j with _ | _ | j
    · refine ⟨?_, fun x h0 => absurd h0 (by decide)⟩
      show movesv t 1 0 0 0 0 = true
      rw [movesv, ways0 1 (.inr rfl), decide_eq_true (by omega), decide_eq_true (by omega)]; rfl
    · refine ⟨?_, fun x h0 hx => ?_⟩
      · show movesv (5 + u) 0 0 0 0 0 = true
        rw [movesv, ways0 0 (.inl rfl), decide_eq_true (by omega), decide_eq_true (by omega)]; rfl
      · simp only [Nat.zero_add, Nat.sub_self, List.getElem?_cons_zero, Option.some.injEq] at hx
        subst hx
        show t < 5 + u
        omega
    · exact absurd hj (by simp)
  · simp only [if_neg h]
    exact ⟨[], s, rfl, hs, by decide, fun j hj => absurd hj (by simp)⟩
theorem r21_ex (tape : List W3) (hl : (tape.length : Int) ≤ 9223372036854775807) (s : Int) (hs : 0 ≤ s) (fo n : Int) (k1 k2 k3 : Nat) (fi : Bool) (ru p0 p1 p2 p3 p4 p5 p6 p7 p8 p9 p10 p11 p12 p13 : Int) (k4 : Nat) (A B C D : List (List V)) :
    ∃ (st : Bool) (s' : Int), J13_r21 (.mk (Rt tape) s fo n k1 k2 k3 fi ru p0 p1 p2 p3 p4 p5 p6 p7 p8 p9 p10 p11 p12 p13 k4 A B C D) = some (.e0 (.mk (Rt tape) s' fo n k1 k2 k3 fi ru p0 p1 p2 p3 p4 p5 p6 p7 p8 p9 p10 p11 p12 p13 k4 st A B C D)) ∧ 0 ≤ s' := by
  obtain ⟨t, s1, e1, l1, u1, q1⟩ := next_ex tape s 3 hs hl (by decide)
  simp only [J13_r21, D13_r21, PT.ev, PT.test, dite_eq_ite, e1, Option.bind_some]
  split
  · exact ⟨true, s1, rfl, q1⟩
  · exact ⟨!fi, s1, rfl, q1⟩
theorem pushD (ds : List Dn) (x : Dn) : List.take ds.length (Rd ds) ++ [x.cells] = Rd (ds ++ [x]) := by
  rw [List.take_of_length_le (by rw [rd_len]; exact Nat.le_refl _)]; simp only [Rd, List.map_append, List.map_cons, List.map_nil]
theorem dash_loop (tape : List W3) (hl : (tape.length : Int) ≤ 9223372036854775807) (fo nn : Int) (k1 k2 k3 : Nat) (fi : Bool) (ru p0 p1 p2 p3 p4 p5 p6 p7 p8 p9 p10 p11 p12 p13 : Int) (k4 : Nat) (st : Bool) (k5 : Nat) (s0 s1 s2 s3 cap : Int) (A B C D E : List (List V)) : ∀ (m n : Nat) (acc : List Dn) (s : Int), n < m → acc.length + n ≤ 3 → (∀ d ∈ acc, 65536 ≤ d.c0 ∧ d.c0 ≤ 393215) → 0 ≤ s →
    ∃ (ds : List Dn) (s' : Int), L13_2 m (.s0 (.mk n (Rt tape) s fo nn k1 k2 k3 fi ru p0 p1 p2 p3 p4 p5 p6 p7 p8 p9 p10 p11 p12 p13 k4 st k5 s0 s1 s2 s3 cap acc.length A B C D E (Rd acc))) = some (.e0 (.mk (Rt tape) s' fo nn k1 k2 k3 fi ru p0 p1 p2 p3 p4 p5 p6 p7 p8 p9 p10 p11 p12 p13 k4 st k5 s0 s1 s2 s3 cap ds.length A B C D E (Rd ds))) ∧ ds.length ≤ 3 ∧ (∀ d ∈ ds, 65536 ≤ d.c0 ∧ d.c0 ≤ 393215) ∧ 0 ≤ s'
  | 0, n, acc, s, h, _, _, _ => by omega
  | m + 1, n, acc, s, h, g1, g2, g3 => by
    rw [L13_2_s0]
    cases n with
    | zero =>
      simp only [D13_2, PT.ev, PT.test, dite_eq_ite, if_neg (show ¬ (((0 : Nat) : Int) > 0) by omega), N13_2.nx]
      exact ⟨acc, s, rfl, by omega, g2, g3⟩
    | succ n =>
      obtain ⟨v, t1, e1, l1, u1, z1⟩ := number_ex tape 1 5 s g3 hl (by decide) (by decide) (by decide)
      have hc : 0 + acc.length ≤ acc.length ∧ (acc.length + 1) * 8 ≤ 140737488355328 ∧ acc.length + 1 ≤ 140737488355328 := by omega
      have hn : w64 (((n + 1 : Nat) : Int) - 1) = (n : Int) := by rw [w64_in (by omega) (by omega)]; omega
      simp only [D13_2, PT.ev, PT.test, dite_eq_ite, if_pos (show ((n + 1 : Nat) : Int) > 0 by omega), e1, Option.bind_some, rd_len, if_pos hc, hn, N13_2.nx]
      have e : List.take acc.length (Rd acc) ++ [[i64 v]] = Rd (acc ++ [⟨v⟩]) := pushD acc ⟨v⟩
      have hlen : (acc ++ [(⟨v⟩ : Dn)]).length = acc.length + 1 := by simp
      rw [e, ← hlen]
      exact dash_loop tape hl fo nn k1 k2 k3 fi ru p0 p1 p2 p3 p4 p5 p6 p7 p8 p9 p10 p11 p12 p13 k4 st k5 s0 s1 s2 s3 cap A B C D E m n _ t1 (by omega) (by rw [hlen]; omega) (fun d hd => by
        rcases List.mem_append.1 hd with hd | hd
        · exact g2 d hd
        · rw [List.mem_singleton] at hd; subst hd; exact ⟨by show 65536 ≤ v; omega, by show v ≤ 393215; omega⟩) z1
structure Shp where
  form : Int
  n : Int
  w : List Ky
  h : List Ky
  ps : List PK
  f : Bool
  rule : Int
  p0 : Int
  p1 : Int
  p2 : Int
  p3 : Int
  p4 : Int
  p5 : Int
  p6 : Int
  p7 : Int
  p8 : Int
  p9 : Int
  p10 : Int
  p11 : Int
  p12 : Int
  p13 : Int
  cs : List Ck
  st : Bool
  wd : List Ky
  s0 : Int
  s1 : Int
  s2 : Int
  s3 : Int
  cap : Int
  ds : List Dn
  fr : List Ky
  to_ : List Ky
abbrev Ws (s : Shp) : W34 := ⟨s.form, s.n, Rn s.w, Rn s.h, Rk s.ps, s.f, s.rule, s.p0, s.p1, s.p2, s.p3, s.p4, s.p5, s.p6, s.p7, s.p8, s.p9, s.p10, s.p11, s.p12, s.p13, Rc s.cs, s.st, Rn s.wd, s.s0, s.s1, s.s2, s.s3, s.cap, Rd s.ds, Rn s.fr, Rn s.to_⟩
/-- A shape that a tape makes. -/
structure Gs (s : Shp) : Prop where
  form : 0 ≤ s.form ∧ s.form ≤ 3
  n : (s.form = 2 → 2 ≤ s.n ∧ s.n ≤ 16) ∧ (s.form ≠ 2 → s.n = 0)
  what : Gf s.form s.w s.h s.ps
  rule : s.rule = 0 ∨ s.rule = 1
  paint : (0 ≤ s.p0 ∧ s.p0 ≤ 2) ∧ nr s.p9 = true ∧ nr s.p10 = true ∧ nr s.p11 = true ∧ nr s.p12 = true ∧ nr s.p13 = true
  cols : s.cs.length ≤ 2 ∧ ∀ j (h : j < s.cs.length), okC s.cs j h
  wd : s.wd.length ≤ 4 ∧ Gn 0 327679 61 s.wd
  cap : s.cap = 0 ∨ s.cap = 1
  ds : s.ds.length ≤ 3 ∧ ∀ d ∈ s.ds, 65536 ≤ d.c0 ∧ d.c0 ≤ 393215
  fr : s.fr.length ≤ 3 ∧ Gn 0 131071 31 s.fr
  to_ : s.to_.length ≤ 3 ∧ Gn 0 131071 31 s.to_
theorem shape_ex (tape : List W3) (hl : (tape.length : Int) ≤ 9223372036854775807) (a : Int) (ha : 0 ≤ a) :
    ∃ (s : Shp) (at' : Int), F13 (Rt tape) a = some (.a0 s.form s.n s.w.length s.h.length s.ps.length s.f s.rule s.p0 s.p1 s.p2 s.p3 s.p4 s.p5 s.p6 s.p7 s.p8 s.p9 s.p10 s.p11 s.p12 s.p13 s.cs.length s.st s.wd.length s.s0 s.s1 s.s2 s.s3 s.cap s.ds.length s.fr.length s.to_.length (Rt tape) at' (Rn s.w) (Rn s.h) (Rk s.ps) (Rc s.cs) (Rn s.wd) (Rd s.ds) (Rn s.fr) (Rn s.to_)) ∧ 0 ≤ at' ∧ Gs s := by
  obtain ⟨fo, s1, e1, l1, u1, q1⟩ := next_ex tape a 4 ha hl (by decide)
  obtain ⟨n, s2, e2, q2, n1, n2⟩ := c15_ex tape hl s1 fo q1
  obtain ⟨W, H, P, s3, e3, q3, g3⟩ := c22_ex tape hl s2 fo n q2
  obtain ⟨fi, s4, e4, l4, u4, q4⟩ := next_ex tape s3 3 q3 hl (by decide)
  obtain ⟨ru, s5, e5, l5, u5, q5⟩ := next_ex tape s4 2 q4 hl (by decide)
  obtain ⟨p0, p1, p2, p3, p4, p5, p6, p7, p8, p9, p10, p11, p12, p13, s6, e6, q6, pk⟩ := paint_ex tape hl s5 q5
  obtain ⟨cc, s7, e7, l7, u7, q7⟩ := next_ex tape s6 3 q6 hl (by decide)
  obtain ⟨cs, s8, e8, q8, c1, c2⟩ := c90_ex tape hl (cc == 0) s7 q7 fo n W.length H.length P.length (decide (fi > 0)) ru p0 p1 p2 p3 p4 p5 p6 p7 p8 p9 p10 p11 p12 p13 (Rn W) (Rn H) (Rk P)
  obtain ⟨st, s9, e9, q9⟩ := r21_ex tape hl s8 q8 fo n W.length H.length P.length (decide (fi > 0)) ru p0 p1 p2 p3 p4 p5 p6 p7 p8 p9 p10 p11 p12 p13 cs.length (Rn W) (Rn H) (Rk P) (Rc cs)
  have hru : ru = 0 ∨ ru = 1 := by omega
  simp only [F13, D13, PT.ev, PT.test, dite_eq_ite, Ws, e1, e2, e3, e4, e5, e6, e7, e8, e9, Option.bind_some]
  by_cases h : st = true
  · obtain ⟨wd, t1, f1, w1, w2, r1⟩ := tkeys_ex tape hl 0 4 (by decide) (by decide) (by decide) s9 q9
    obtain ⟨v, t2, f2, l2, u2, r2⟩ := number_ex tape 1 4 t1 r1 hl (by decide) (by decide) (by decide)
    obtain ⟨x0, x1, x2, x3, t3, f3, r3⟩ := col_ex tape hl t2 r2
    obtain ⟨cap, t4, f4, l4, u4, r4⟩ := next_ex tape t3 2 r3 hl (by decide)
    obtain ⟨da, t5, f5, l5, u5, r5⟩ := next_ex tape t4 4 r4 hl (by decide)
    obtain ⟨db, t6, f6, l6, u6, r6⟩ := next_ex tape t5 2 r5 hl (by decide)
    have hc : 0 + wd.length ≤ wd.length ∧ (wd.length + 1) * 56 ≤ 140737488355328 ∧ wd.length + 1 ≤ 140737488355328 := by omega
    have eW : List.take wd.length (Rn wd) ++ [[i64 60, i64 v, i64 0, i64 0, i64 0, i64 0, i64 0]] = Rn (wd ++ [⟨60, v, 0, 0, 0, 0, 0⟩]) := pushN wd ⟨60, v, 0, 0, 0, 0, 0⟩
    have lW : (wd ++ [(⟨60, v, 0, 0, 0, 0, 0⟩ : Ky)]).length = wd.length + 1 := by simp
    have hd : ∃ d : Nat, w64 (da * db) = (d : Int) ∧ d ≤ 3 := by
      have : db = 0 ∨ db = 1 := by omega
      rcases this with rfl | rfl
      · exact ⟨0, by rw [Int.mul_zero]; rfl, by decide⟩
      · exact ⟨da.toNat, by rw [Int.mul_one, w64_in (by omega) (by omega)]; omega, by omega⟩
    obtain ⟨d, hd1, hd2⟩ := hd
    obtain ⟨ds, t7, f7, d1, d2, r7⟩ := dash_loop tape hl fo n W.length H.length P.length (decide (fi > 0)) ru p0 p1 p2 p3 p4 p5 p6 p7 p8 p9 p10 p11 p12 p13 cs.length st (wd.length + 1) x0 x1 x2 x3 cap (Rn W) (Rn H) (Rk P) (Rc cs) (Rn (wd ++ [⟨60, v, 0, 0, 0, 0, 0⟩])) 18446744073709551616 d [] t6 (by omega) (by simp only [List.length_nil]; omega) (fun d hd => absurd hd List.not_mem_nil) r6
    rw [show (Rd ([] : List Dn)) = [] from rfl, show ([] : List Dn).length = 0 from rfl] at f7
    obtain ⟨z, t8, f8, l8, u8, r8⟩ := next_ex tape t7 2 r7 hl (by decide)
    simp only [if_pos h, f1, f2, f3, f4, f5, f6, Option.bind_some, PT.ev, PT.test, dite_eq_ite, Ws, rn_len, if_pos hc, eW, hd1, f7, f8]
    have gw : (wd ++ [(⟨60, v, 0, 0, 0, 0, 0⟩ : Ky)]).length ≤ 4 ∧ Gn 0 327679 61 (wd ++ [⟨60, v, 0, 0, 0, 0, 0⟩]) := ⟨by rw [lW]; omega, w2.end_ v (by omega)⟩
    by_cases hz : z = 0
    · obtain ⟨fr, t9, f9, k9, g9, r9⟩ := tkeys_ex tape hl 0 1 (by decide) (by decide) (by decide) t8 r8
      obtain ⟨to_, t10, f10, k10, g10, r10⟩ := tkeys_ex tape hl 0 1 (by decide) (by decide) (by decide) t9 r9
      simp only [if_pos (show (z == 0) = true by rw [beq_iff_eq]; exact hz), f9, f10, Option.bind_some, PT.ev, PT.test, dite_eq_ite, Ws]
      exact ⟨⟨fo, n, W, H, P, decide (fi > 0), ru, p0, p1, p2, p3, p4, p5, p6, p7, p8, p9, p10, p11, p12, p13, cs, st, wd ++ [⟨60, v, 0, 0, 0, 0, 0⟩], x0, x1, x2, x3, cap, ds, fr, to_⟩, t10, by simp only [lW], r10, ⟨⟨l1, by show fo ≤ 3; omega⟩, ⟨n1, n2⟩, g3, hru, pk, ⟨c1, c2⟩, gw, by show cap = 0 ∨ cap = 1; omega, ⟨d1, d2⟩, ⟨k9, g9⟩, ⟨k10, g10⟩⟩⟩
    · simp only [if_neg (show ¬ (z == 0) = true by rw [beq_iff_eq]; exact hz), Option.bind_some, PT.ev, PT.test, dite_eq_ite, Ws]
      exact ⟨⟨fo, n, W, H, P, decide (fi > 0), ru, p0, p1, p2, p3, p4, p5, p6, p7, p8, p9, p10, p11, p12, p13, cs, st, wd ++ [⟨60, v, 0, 0, 0, 0, 0⟩], x0, x1, x2, x3, cap, ds, [], []⟩, t8, by simp only [lW]; rfl, r8, ⟨⟨l1, by show fo ≤ 3; omega⟩, ⟨n1, n2⟩, g3, hru, pk, ⟨c1, c2⟩, gw, by show cap = 0 ∨ cap = 1; omega, ⟨d1, d2⟩, ⟨Nat.zero_le _, Gn.nil⟩, ⟨Nat.zero_le _, Gn.nil⟩⟩⟩
  · simp only [if_neg h]
    exact ⟨⟨fo, n, W, H, P, decide (fi > 0), ru, p0, p1, p2, p3, p4, p5, p6, p7, p8, p9, p10, p11, p12, p13, cs, st, [], 0, 0, 0, 0, 0, [], [], []⟩, s9, rfl, q9, ⟨⟨l1, by show fo ≤ 3; omega⟩, ⟨n1, n2⟩, g3, hru, pk, ⟨c1, c2⟩, ⟨Nat.zero_le _, Gn.nil⟩, .inl rfl, ⟨Nat.zero_le _, fun d hd => absurd hd List.not_mem_nil⟩, ⟨Nat.zero_le _, Gn.nil⟩, ⟨Nat.zero_le _, Gn.nil⟩⟩⟩
end Go.Proofs.YtifalphladcdcaaGreat.H
