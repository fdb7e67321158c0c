import Derived.Test.YtifalphladcdcaaGreatOne4O
set_option linter.unusedVariables false
set_option linter.unusedSimpArgs false
/- Documents judged by the program: that they are. Conditions: those stated. -/
namespace Go.Proofs.YtifalphladcdcaaGreat.H
open Go Go.VM
set_option maxRecDepth 100000
/-! ### Lists of keys -/
abbrev RK (K : List (List Ky)) : List (List V) := K.map fun k => [V.list 7 (Rn k)]
theorem rK_get (K : List (List Ky)) (i : Nat) : ((RK K)[i]?).bind W23.dec = (K[i]?).map fun k => ⟨Rn k⟩ := by
  simp only [RK, List.getElem?_map]
  cases K[i]? <;> rfl
theorem ik1_loop (K : List (List Ky)) (hk : ∀ k ∈ K, (k.length : Int) < 4611686018427387904) (hl : K.length ≤ 1000) : ∀ (n i : Nat), i ≤ K.length → K.length < n + i →
    L289_0 n (.s0 (.mk (RK K) K.length i)) = some .e1 ∨ ∃ k : Nat, L289_0 n (.s0 (.mk (RK K) K.length i)) = some (.e0 (.mk k))
  | 0, i, h1, h2 => by omega
  | n + 1, i, h1, h2 => by
    rw [L289_0_s0]
    by_cases h : i < K.length
    · have hw : w64 ((i : Int) + 1) = ((i + 1 : Nat) : Int) := by rw [w64_in (by omega) (by omega)]; omega
      have ih := ik1_loop K hk hl n (i + 1) h (by omega)
      obtain ⟨b, e⟩ := kr1 K[i] (hk _ (List.getElem_mem h))
      simp only [D289_0, PT.ev, PT.test, dite_eq_ite, Ws, if_pos (show (i : Int) < (K.length : Int) by omega), if_pos (show (0 : Int) ≤ (i : Int) by omega), Int.toNat_natCast, rK_get, List.getElem?_eq_getElem h, Option.map_some, Option.bind_some, F278, D278, e, hw, N289_0.nx]
      cases b with
      | true => exact ih
      | false => exact .inr ⟨i, rfl⟩
    · simp only [D289_0, PT.ev, PT.test, dite_eq_ite, Ws, if_neg (show ¬ (i : Int) < (K.length : Int) by omega), N289_0.nx]
      first
        | exact .inl trivial
        | exact .inl rfl
theorem ck1 (K : List (List Ky)) (hk : ∀ k ∈ K, (k.length : Int) < 4611686018427387904) (hl : K.length ≤ 1000) : ∃ b, F276 (RK K) = some (.a0 b) := by
  have h := ik1_loop K hk hl 18446744073709551616 0 (by omega) (by omega)
  rw [show ((0 : Nat) : Int) = 0 from rfl] at h
  have e : (RK K).length = K.length := List.length_map ..
  simp only [F276, D276, F289, D289, PT.ev, PT.test, dite_eq_ite, Ws, e]
  rcases h with h1 | ⟨k, h1⟩ <;> rw [h1] <;> exact ⟨_, rfl⟩
/-! ### Lists that are the same -/
theorem ek1_loop (xs ys : List Ky) (hl : xs.length = ys.length) (hb : (xs.length : Int) < 4611686018427387904) : ∀ (n i : Nat), i ≤ xs.length → xs.length < n + i → Two .e1 .e0 (L290_0 n (.s0 (.mk (Rn xs) (Rn ys) xs.length i)))
  | 0, i, h1, h2 => by omega
  | n + 1, i, h1, h2 => by
    rw [L290_0_s0]
    by_cases h : i < xs.length
    · have hw : w64 ((i : Int) + 1) = ((i + 1 : Nat) : Int) := by rw [w64_in (by omega) (by omega)]; omega
      have h' : i < ys.length := by omega
      have ih := ek1_loop xs ys hl hb n (i + 1) h (by omega)
      simp only [D290_0, PT.ev, PT.test, dite_eq_ite, Ws, if_pos (show (i : Int) < (xs.length : Int) by omega), if_pos (show (0 : Int) ≤ (i : Int) by omega), Int.toNat_natCast, rn_get, List.getElem?_eq_getElem h, List.getElem?_eq_getElem h', Option.bind_some, hw, N290_0.nx]
      split
      · exact .inr rfl
      · exact ih
    · simp only [D290_0, PT.ev, PT.test, dite_eq_ite, Ws, if_neg (show ¬ (i : Int) < (xs.length : Int) by omega), N290_0.nx]
      exact .inl rfl
theorem ek1 (xs ys : List Ky) (hb : (xs.length : Int) < 4611686018427387904) : ∃ b, F290 (Rn xs) (Rn ys) = some (.a0 b) := by
  simp only [F290, D290, PT.ev, PT.test, dite_eq_ite, Ws, rn_len]
  by_cases c : ((xs.length : Int) != (ys.length : Int)) = true
  · rw [if_pos c]; exact ⟨_, rfl⟩
  · rw [if_neg c]
    have hl : xs.length = ys.length := by
      rw [bne_iff_ne, Decidable.not_not] at c; omega
    have h := ek1_loop xs ys hl hb 18446744073709551616 0 (by omega) (by omega)
    rw [show ((0 : Nat) : Int) = 0 from rfl] at h
    rcases h with h1 | h1 <;> rw [h1] <;> exact ⟨_, rfl⟩
theorem ec1_loop (xs ys : List Ck) (hl : xs.length = ys.length) (hb : (xs.length : Int) < 4611686018427387904) : ∀ (n i : Nat), i ≤ xs.length → xs.length < n + i → Two .e1 .e0 (L292_0 n (.s0 (.mk (Rc xs) (Rc ys) xs.length i)))
  | 0, i, h1, h2 => by omega
  | n + 1, i, h1, h2 => by
    rw [L292_0_s0]
    by_cases h : i < xs.length
    · have hw : w64 ((i : Int) + 1) = ((i + 1 : Nat) : Int) := by rw [w64_in (by omega) (by omega)]; omega
      have h' : i < ys.length := by omega
      have ih := ec1_loop xs ys hl hb n (i + 1) h (by omega)
      simp only [D292_0, PT.ev, PT.test, dite_eq_ite, Ws, if_pos (show (i : Int) < (xs.length : Int) by omega), if_pos (show (0 : Int) ≤ (i : Int) by omega), Int.toNat_natCast, rc_get, List.getElem?_eq_getElem h, List.getElem?_eq_getElem h', Option.bind_some, hw, N292_0.nx]
      split
      · exact .inr rfl
      · exact ih
    · simp only [D292_0, PT.ev, PT.test, dite_eq_ite, Ws, if_neg (show ¬ (i : Int) < (xs.length : Int) by omega), N292_0.nx]
      exact .inl rfl
theorem ec1 (xs ys : List Ck) (hb : (xs.length : Int) < 4611686018427387904) : ∃ b, F292 (Rc xs) (Rc ys) = some (.a0 b) := by
  simp only [F292, D292, PT.ev, PT.test, dite_eq_ite, Ws, rc_len]
  by_cases c : ((xs.length : Int) != (ys.length : Int)) = true
  · rw [if_pos c]; exact ⟨_, rfl⟩
  · rw [if_neg c]
    have hl : xs.length = ys.length := by
      rw [bne_iff_ne, Decidable.not_not] at c; omega
    have h := ec1_loop xs ys hl hb 18446744073709551616 0 (by omega) (by omega)
    rw [show ((0 : Nat) : Int) = 0 from rfl] at h
    rcases h with h1 | h1 <;> rw [h1] <;> exact ⟨_, rfl⟩
theorem ed1_loop (xs ys : List Dn) (hl : xs.length = ys.length) (hb : (xs.length : Int) < 4611686018427387904) : ∀ (n i : Nat), i ≤ xs.length → xs.length < n + i → Two .e1 .e0 (L293_0 n (.s0 (.mk (Rd xs) (Rd ys) xs.length i)))
  | 0, i, h1, h2 => by omega
  | n + 1, i, h1, h2 => by
    rw [L293_0_s0]
    by_cases h : i < xs.length
    · have hw : w64 ((i : Int) + 1) = ((i + 1 : Nat) : Int) := by rw [w64_in (by omega) (by omega)]; omega
      have h' : i < ys.length := by omega
      have ih := ed1_loop xs ys hl hb n (i + 1) h (by omega)
      simp only [D293_0, PT.ev, PT.test, dite_eq_ite, Ws, if_pos (show (i : Int) < (xs.length : Int) by omega), if_pos (show (0 : Int) ≤ (i : Int) by omega), Int.toNat_natCast, rd_get, List.getElem?_eq_getElem h, List.getElem?_eq_getElem h', Option.bind_some, hw, N293_0.nx]
      split
      · exact .inr rfl
      · exact ih
    · simp only [D293_0, PT.ev, PT.test, dite_eq_ite, Ws, if_neg (show ¬ (i : Int) < (xs.length : Int) by omega), N293_0.nx]
      exact .inl rfl
theorem ed1 (xs ys : List Dn) (hb : (xs.length : Int) < 4611686018427387904) : ∃ b, F293 (Rd xs) (Rd ys) = some (.a0 b) := by
  simp only [F293, D293, PT.ev, PT.test, dite_eq_ite, Ws, rd_len]
  by_cases c : ((xs.length : Int) != (ys.length : Int)) = true
  · rw [if_pos c]; exact ⟨_, rfl⟩
  · rw [if_neg c]
    have hl : xs.length = ys.length := by
      rw [bne_iff_ne, Decidable.not_not] at c; omega
    have h := ed1_loop xs ys hl hb 18446744073709551616 0 (by omega) (by omega)
    rw [show ((0 : Nat) : Int) = 0 from rfl] at h
    rcases h with h1 | h1 <;> rw [h1] <;> exact ⟨_, rfl⟩
theorem pk2 (x y : PK) (hx : Gw x) (hy : Gw y) : ∃ b, F298 x.c0 x.c1 x.c2 x.c3 x.c4 x.c5 x.c6 x.c7 y.c0 y.c1 y.c2 y.c3 y.c4 y.c5 y.c6 y.c7 = some (.a0 b) := by
  obtain ⟨ps, e1, e2⟩ := hx.ps
  obtain ⟨qs, f1, f2⟩ := hy.ps
  simp only [F298, D298, PT.ev, PT.test, dite_eq_ite, Ws, e1, f1, qsame _ ps _ qs (by omega), Option.bind_some]
  repeat' split
  all_goals exact ⟨_, rfl⟩
theorem ep1_loop (xs ys : List PK) (hx : ∀ k ∈ xs, Gw k) (hy : ∀ k ∈ ys, Gw k) (hl : xs.length = ys.length) (hb : (xs.length : Int) < 4611686018427387904) : ∀ (n i : Nat), i ≤ xs.length → xs.length < n + i → Two .e1 .e0 (L297_0 n (.s0 (.mk (Rk ys) (Rk xs) xs.length i)))
  | 0, i, h1, h2 => by omega
  | n + 1, i, h1, h2 => by
    rw [L297_0_s0]
    by_cases h : i < xs.length
    · have hw : w64 ((i : Int) + 1) = ((i + 1 : Nat) : Int) := by rw [w64_in (by omega) (by omega)]; omega
      have h' : i < ys.length := by omega
      have ih := ep1_loop xs ys hx hy hl hb n (i + 1) h (by omega)
      obtain ⟨b, e⟩ := pk2 xs[i] ys[i] (hx _ (List.getElem_mem h)) (hy _ (List.getElem_mem h'))
      simp only [D297_0, PT.ev, PT.test, dite_eq_ite, Ws, if_pos (show (i : Int) < (xs.length : Int) by omega), if_pos (show (0 : Int) ≤ (i : Int) by omega), Int.toNat_natCast, rk_get, List.getElem?_eq_getElem h, List.getElem?_eq_getElem h', Option.bind_some, e, hw, N297_0.nx]
      split
      · exact .inr rfl
      · exact ih
    · simp only [D297_0, PT.ev, PT.test, dite_eq_ite, Ws, if_neg (show ¬ (i : Int) < (xs.length : Int) by omega), N297_0.nx]
      exact .inl rfl
theorem ep1 (xs ys : List PK) (hx : ∀ k ∈ xs, Gw k) (hy : ∀ k ∈ ys, Gw k) (hb : (xs.length : Int) < 4611686018427387904) : ∃ b, F291 (Rk xs) (Rk ys) = some (.a0 b) := by
  simp only [F291, D291, F297, D297, PT.ev, PT.test, dite_eq_ite, Ws, rk_len]
  by_cases c : ((xs.length : Int) != (ys.length : Int)) = true
  · rw [if_pos c]; exact ⟨_, rfl⟩
  · rw [if_neg c]
    have hl : xs.length = ys.length := by
      rw [bne_iff_ne, Decidable.not_not] at c; omega
    have h := ep1_loop xs ys hx hy hl hb 18446744073709551616 0 (by omega) (by omega)
    rw [show ((0 : Nat) : Int) = 0 from rfl] at h
    rcases h with h1 | h1 <;> rw [h1] <;> exact ⟨_, rfl⟩
theorem ss_r1 (a d : W34) : ∃ b, J279_r1 (.mk a d) = some (.e0 (.mk b a d)) := by
  simp only [J279_r1, D279_r1, PT.ev, PT.test, dite_eq_ite, Ws]
  repeat' split
  all_goals exact ⟨_, rfl⟩
theorem ss_r2 (f : Bool) (s r : Shp) (g : Gr s) : ∃ b, J279_r2 (.mk f (Ws s) (Ws r)) = some (.e0 (.mk f b (Ws s) (Ws r))) := by
  obtain ⟨b1, e1⟩ := ek1 s.w r.w g.w
  obtain ⟨b2, e2⟩ := ek1 s.h r.h g.h
  obtain ⟨b3, e3⟩ := ek1 s.wd r.wd g.wd
  obtain ⟨b4, e4⟩ := ek1 s.fr r.fr g.fr
  obtain ⟨b5, e5⟩ := ek1 s.to_ r.to_ g.to_
  simp only [J279_r2, D279_r2, PT.ev, PT.test, dite_eq_ite, Ws, e1, e2, e3, e4, e5, Option.bind_some]
  repeat' split
  all_goals exact ⟨_, rfl⟩
theorem ss1 (s r : Shp) (g : Gr s) (g' : Gr r) : ∃ b, F279 (Ws s) (Ws r) = some (.a0 b) := by
  obtain ⟨b1, e1⟩ := ss_r1 (Ws s) (Ws r)
  obtain ⟨b2, e2⟩ := ss_r2 b1 s r g
  obtain ⟨b3, e3⟩ := ep1 s.ps r.ps g.gw g'.gw g.ps
  obtain ⟨b4, e4⟩ := ec1 s.cs r.cs g.cs
  obtain ⟨b5, e5⟩ := ed1 s.ds r.ds g.ds
  simp only [F279, D279, PT.ev, PT.test, dite_eq_ite]
  rw [e1]
  simp only [Option.bind_some]
  rw [e2]
  simp only [Option.bind_some, PT.ev, PT.test, dite_eq_ite, e3, e4, e5]
  repeat' split
  all_goals exact ⟨_, rfl⟩
theorem paint1 (z1 z2 z3 z4 z5 z6 z7 z8 z9 z10 z11 z12 z13 z14 : Int) : ∃ b, F280 z1 z2 z3 z4 z5 z6 z7 z8 z9 z10 z11 z12 z13 z14 = some (.a0 b) := by
  simp only [F280, D280, J280_r1, D280_r1, PT.ev, PT.test, dite_eq_ite, Ws, bnd_def]
  cases F294 z10 <;> cases F294 z11 <;> cases F294 z12 <;> cases F294 z13 <;> simp only [if_true, Bool.false_eq_true, if_false, Option.bind_some, PT.ev, PT.test, dite_eq_ite, Ws, bnd_def] <;> (repeat' split) <;> exact ⟨_, rfl⟩
end Go.Proofs.YtifalphladcdcaaGreat.H

/- Layers, trees, documents judged by the program: that they are. Conditions: those stated. -/
namespace Go.Proofs.YtifalphladcdcaaGreat.H
open Go Go.VM
set_option maxRecDepth 100000
/-- A layer whose lists are short. -/
structure Lq (l : Ly) : Prop where
  sm : Sm l
  sr : Gr l.s
  mp : (l.mp.length : Int) < 4611686018427387904
theorem Gr.sh0 : Gr sh0 := ⟨by decide, by decide, by decide, fun k hk => absurd hk List.not_mem_nil, by decide, by decide, by decide, by decide, by decide⟩
theorem dl_r1 (a : W57) : ∃ b, J253_r1 (.mk a) = some (.e0 (.mk b a)) := by
  simp only [J253_r1, D253_r1, PT.ev, PT.test, dite_eq_ite]
  repeat' split
  all_goals exact ⟨_, rfl⟩
theorem dl_r2 (x : Bool) (a : W57) : ∃ b, J253_r2 (.mk x a) = some (.e0 (.mk x b a)) := by
  simp only [J253_r2, D253_r2, PT.ev, PT.test, dite_eq_ite, bnd_def]
  repeat' split
  all_goals exact ⟨_, rfl⟩
theorem dl_r3 (x y : Bool) (l : Ly) (g : Lq l) : ∃ b, J253_r3 (.mk x y (Wl l)) = some (.e0 (.mk x y b (Wl l))) := by
  have e := qright l.mc l.mp g.mp
  simp only [J253_r3, D253_r3, PT.ev, PT.test, dite_eq_ite, bnd_def, e, Option.bind_some]
  repeat' split
  all_goals exact ⟨_, rfl⟩
theorem dl_r4 (x y z : Bool) (l : Ly) (g : Lq l) : ∃ b, J253_r4 (.mk x y z (Wl l)) = some (.e0 (.mk b (Wl l))) := by
  have s := g.sm
  obtain ⟨b, e⟩ := ck1 [l.x, l.y, l.ax, l.ay, l.sx, l.sy, l.tu, l.op, l.re] (fun k hk => by
    simp only [List.mem_cons, List.not_mem_nil, or_false] at hk
    rcases hk with rfl | rfl | rfl | rfl | rfl | rfl | rfl | rfl | rfl
    · exact s.x
    · exact s.y
    · exact s.ax
    · exact s.ay
    · exact s.sx
    · exact s.sy
    · exact s.tu
    · exact s.op
    · exact s.re) (by show 9 ≤ 1000; decide)
  have e' : F276 (List.take 9 [[V.list 7 (Rn l.x)], [V.list 7 (Rn l.y)], [V.list 7 (Rn l.ax)], [V.list 7 (Rn l.ay)], [V.list 7 (Rn l.sx)], [V.list 7 (Rn l.sy)], [V.list 7 (Rn l.tu)], [V.list 7 (Rn l.op)], [V.list 7 (Rn l.re)]]) = some (.a0 b) := e
  simp only [J253_r4, D253_r4, PT.ev, PT.test, dite_eq_ite, F277, D277, Option.bind_some, e', List.length_cons, List.length_nil, Nat.zero_add, Nat.reduceAdd, Nat.le_refl, if_true]
  repeat' split
  all_goals exact ⟨_, rfl⟩
theorem dl1 (l : Ly) (g : Lq l) : ∃ b, F253 (Wl l) = some (.a0 b) := by
  obtain ⟨b1, e1⟩ := dl_r1 (Wl l)
  obtain ⟨b2, e2⟩ := dl_r2 b1 (Wl l)
  obtain ⟨b3, e3⟩ := dl_r3 b1 b2 l g
  obtain ⟨b4, e4⟩ := dl_r4 b1 b2 b3 l g
  obtain ⟨b5, e5⟩ := ss1 l.s sh0 g.sr Gr.sh0
  obtain ⟨b6, e6⟩ := sr1 l.s g.sr
  obtain ⟨b7, e7⟩ := paint1 l.s.p0 l.s.p1 l.s.p2 l.s.p3 l.s.p4 l.s.p5 l.s.p6 l.s.p7 l.s.p8 l.s.p9 l.s.p10 l.s.p11 l.s.p12 l.s.p13
  simp only [F253, D253, PT.ev, PT.test, dite_eq_ite]
  rw [e1]
  simp only [Option.bind_some]
  rw [e2]
  simp only [Option.bind_some]
  rw [e3]
  simp only [Option.bind_some]
  rw [e4]
  simp only [Option.bind_some]
  split
  · exact ⟨_, rfl⟩
  · split
    · exact ⟨_, (congrArg (fun o => Option.bind o _) e5).trans rfl⟩
    · split
      · split
        · cases b6 with
          | true => exact ⟨b7, (congrArg (fun o => Option.bind o _) e6).trans (by simp only [Option.bind_some, e7, if_true])⟩
          | false => exact ⟨false, (congrArg (fun o => Option.bind o _) e6).trans rfl⟩
        · exact ⟨_, rfl⟩
      · exact ⟨_, rfl⟩
theorem there1 (a d : Int) : F255 a d = (decide (a ≥ 0) && decide (a < d)) := by
  simp only [F255, D255, PT.evT, PT.test, dite_eq_ite]
  by_cases h : a ≥ 0
  · rw [if_pos h, decide_eq_true h]; rfl
  · rw [if_neg h, decide_eq_false h]; rfl
theorem rg_loop (ls : List Ly) (k : Int) (hl : ls.length ≤ 1000000) : ∀ (n j : Nat) (at_ : Int), j ≤ ls.length → ls.length < n + j →
    L281_0 n (.s0 (.mk k at_ ls.length j (Rl ls))) = some .e1 ∨ ∃ b, L281_0 n (.s0 (.mk k at_ ls.length j (Rl ls))) = some (.e0 (.mk b))
  | 0, j, at_, h1, h2 => by omega
  | n + 1, j, at_, h1, h2 => by
    rw [L281_0_s0]
    by_cases h : j < ls.length
    · have hw : w64 ((j : Int) + 1) = ((j + 1 : Nat) : Int) := by rw [w64_in (by omega) (by omega)]; omega
      simp only [D281_0, PT.ev, PT.test, dite_eq_ite, bnd_def, there1, rl_len, if_pos (show (j : Int) < (ls.length : Int) by omega), N281_0.nx]
      by_cases c : (at_ == k) = true
      · rw [if_pos c]; exact .inr ⟨_, rfl⟩
      · rw [if_neg c]
        by_cases c1 : at_ ≥ 0
        · by_cases c2 : at_ < (ls.length : Int)
          · have hi : at_.toNat < ls.length := by omega
            simp only [decide_eq_true c1, decide_eq_true c2, Bool.and_self, Bool.not_true, Bool.false_eq_true, if_false, if_pos (show 0 ≤ at_ from c1), rl_get, List.getElem?_eq_getElem hi, Option.map_some, Option.bind_some, hw]
            exact rg_loop ls k hl n (j + 1) _ h (by omega)
          · simp only [decide_eq_false c2, Bool.and_false, Bool.not_false, if_true]
            exact .inr ⟨_, rfl⟩
        · simp only [decide_eq_false c1, Bool.false_and, Bool.not_false, if_true]
          exact .inr ⟨_, rfl⟩
    · simp only [D281_0, PT.ev, PT.test, dite_eq_ite, if_neg (show ¬ (j : Int) < (ls.length : Int) by omega), N281_0.nx]
      first
        | exact .inl trivial
        | exact .inl rfl
theorem rg1 (ls : List Ly) (hl : ls.length ≤ 1000000) (k : Nat) (hk : k < ls.length) : ∃ b, F281 (Rl ls) k = some (.a0 b) := by
  have h := rg_loop ls k hl 18446744073709551616 0 ls[k].par (by omega) (by omega)
  rw [show ((0 : Nat) : Int) = 0 from rfl] at h
  simp only [F281, D281, PT.ev, PT.test, dite_eq_ite, rl_len, if_pos (show (0 : Int) ≤ (k : Int) by omega), Int.toNat_natCast, rl_get, List.getElem?_eq_getElem hk, Option.map_some, Option.bind_some]
  rcases h with h1 | ⟨b, h1⟩ <;> rw [h1] <;> exact ⟨_, rfl⟩
theorem tr_r3 (c k z1 z2 : Int) (X : List (List V)) (ls : List Ly) (a : W57) : ∃ b, J254_r3 (.mk c k z1 z2 X (Rl ls) a) = some (.e0 (.mk c k b z1 z2 X (Rl ls) a)) := by
  simp only [J254_r3, D254_r3, PT.ev, PT.test, dite_eq_ite, bnd_def]
  repeat' split
  all_goals exact ⟨_, rfl⟩
theorem tr_r6 (c z1 z2 : Int) (X : List (List V)) (ls : List Ly) (hl : ls.length ≤ 1000000) (k : Nat) (hk : k < ls.length) (a : W57) : ∃ b, J254_r6 (.mk c k z1 z2 X (Rl ls) a) = some (.e0 (.mk c b z1 z2 X a)) := by
  simp only [J254_r6, D254_r6, PT.ev, PT.test, dite_eq_ite]
  by_cases h : (a.c3 != 0) = true
  · rw [if_pos h]
    by_cases hz : ((k : Int) == 0) = true
    · rw [if_pos hz]; exact ⟨_, rfl⟩
    · have hk0 : 0 < k := by
        rw [beq_iff_eq] at hz; omega
      have hw : w64 ((k : Int) - 1) = ((k - 1 : Nat) : Int) := by rw [w64_in (by omega) (by omega)]; omega
      rw [if_neg hz, hw, if_pos (by omega), Int.toNat_natCast, rl_get, List.getElem?_eq_getElem (by omega)]
      exact ⟨_, rfl⟩
  · rw [if_neg h]; exact ⟨_, rfl⟩
theorem tree1 (C : List (List Ly)) (hC : ∀ c ∈ C, c.length ≤ 1000000) (i o : Int) (c k : Nat) (hc : c < C.length) (hk : k < C[c].length) : ∃ b, F254 i o (Rcs C) c k = some (.a0 b) := by
  have hl := hC _ (List.getElem_mem hc)
  generalize hls : C[c] = ls at *
  obtain ⟨b1, e1⟩ := rg1 ls hl k hk
  obtain ⟨b2, e2⟩ := tr_r3 c k i o (Rcs C) ls (Wl ls[k])
  obtain ⟨b3, e3⟩ := tr_r6 c i o (Rcs C) ls hl k hk (Wl ls[k])
  have eb : J254_b0 (.mk c k i o (Rcs C) (Rl ls) (Wl ls[k])) = some .e0 ∨ J254_b0 (.mk c k i o (Rcs C) (Rl ls) (Wl ls[k])) = some (.e1 (.mk c i o (Rcs C) (Wl ls[k]))) := by
    simp only [J254_b0, D254_b0, PT.ev, PT.test, dite_eq_ite]
    rw [e2]
    simp only [Option.bind_some, PT.ev, e1]
    cases b2 with
    | true => exact .inl rfl
    | false =>
      cases b1 with
      | true => exact .inl rfl
      | false =>
        simp only [Bool.false_eq_true, if_false]
        rw [e3]
        cases b3 with
        | true => exact .inl rfl
        | false => exact .inr rfl
  simp only [F254, D254, PT.ev, PT.test, dite_eq_ite, if_pos (show (0 : Int) ≤ (c : Int) by omega), if_pos (show (0 : Int) ≤ (k : Int) by omega), Int.toNat_natCast, rcs_get, List.getElem?_eq_getElem hc, hls, Option.map_some, Option.bind_some, rl_get, List.getElem?_eq_getElem hk]
  rcases eb with h | h <;> rw [h] <;> simp only [Option.bind_some, PT.ev, bnd_def] <;> (repeat' split) <;> exact ⟨_, rfl⟩
/-- Comps whose layers are few, and short. -/
structure Cq (C : List (List Ly)) : Prop where
  len : C.length ≤ 1000000
  ly : ∀ c ∈ C, c.length ≤ 1000000 ∧ ∀ l ∈ c, Lq l
theorem lay_in (C : List (List Ly)) (g : Cq C) (i o : Int) (c : Nat) (hc : c < C.length) : ∀ (n k : Nat), k ≤ C[c].length → C[c].length < n + k →
    (∃ z, L215_2 n (.s0 (.mk c (Rcs C) C.length (Rl C[c]) C[c].length k i o)) = some (.e0 (.mk z))) ∨ L215_2 n (.s0 (.mk c (Rcs C) C.length (Rl C[c]) C[c].length k i o)) = some (.e1 (.mk (Rcs C) C.length c i o))
  | 0, k, h1, h2 => by omega
  | n + 1, k, h1, h2 => by
    rw [L215_2_s0]
    obtain ⟨gl, gy⟩ := g.ly _ (List.getElem_mem hc)
    by_cases h : k < C[c].length
    · have hw : w64 ((k : Int) + 1) = ((k + 1 : Nat) : Int) := by rw [w64_in (by omega) (by omega)]; omega
      obtain ⟨b1, e1⟩ := dl1 (C[c][k]) (gy _ (List.getElem_mem h))
      obtain ⟨b2, e2⟩ := tree1 C (fun c hc => (g.ly c hc).1) i o c k hc h
      have ih := lay_in C g i o c hc n (k + 1) h (by omega)
      simp only [D215_2, PT.ev, PT.test, dite_eq_ite, if_pos (show (k : Int) < (C[c].length : Int) by omega), if_pos (show (0 : Int) ≤ (k : Int) by omega), Int.toNat_natCast, rl_get, List.getElem?_eq_getElem h, Option.map_some, Option.bind_some, e2, hw, N215_2.nx, N215_2.nx]
      cases b1 with
      | false => exact .inl ⟨14, (congrArg (fun o => Option.bind o _) e1).trans rfl⟩
      | true =>
        cases b2 with
        | false => exact .inl ⟨15, (congrArg (fun o => Option.bind o _) e1).trans rfl⟩
        | true =>
          rcases ih with ⟨z, ih⟩ | ih
          · exact .inl ⟨z, (congrArg (fun o => Option.bind o _) e1).trans ih⟩
          · exact .inr ((congrArg (fun o => Option.bind o _) e1).trans ih)
    · simp only [D215_2, PT.ev, PT.test, dite_eq_ite, if_neg (show ¬ (k : Int) < (C[c].length : Int) by omega), N215_2.nx]
      first
        | exact .inr trivial
        | exact .inr rfl
theorem lay_out (C : List (List Ly)) (g : Cq C) (i o : Int) : ∀ (n c : Nat), c ≤ C.length → C.length < n + c →
    (∃ z, L215_0 n (.s0 (.mk (Rcs C) C.length c i o)) = some (.e0 (.mk z))) ∨ L215_0 n (.s0 (.mk (Rcs C) C.length c i o)) = some .e1
  | 0, c, h1, h2 => by omega
  | n + 1, c, h1, h2 => by
    rw [L215_0_s0]
    have hl := g.len
    by_cases h : c < C.length
    · have hw : w64 ((c : Int) + 1) = ((c + 1 : Nat) : Int) := by rw [w64_in (by omega) (by omega)]; omega
      obtain ⟨gl, gy⟩ := g.ly _ (List.getElem_mem h)
      have inn := lay_in C g i o c h 18446744073709551616 0 (by omega) (by omega)
      rw [show ((0 : Nat) : Int) = 0 from rfl] at inn
      have ih := lay_out C g i o n (c + 1) h (by omega)
      simp only [D215_0, PT.ev, PT.test, dite_eq_ite, if_pos (show (c : Int) < (C.length : Int) by omega), if_pos (show (0 : Int) ≤ (c : Int) by omega), Int.toNat_natCast, rcs_get, List.getElem?_eq_getElem h, Option.map_some, Option.bind_some, rl_len, hw, N215_0.nx, N215_0.nx]
      rcases inn with ⟨z, e⟩ | e <;> rw [e]
      · exact .inl ⟨z, rfl⟩
      · simp only [Option.bind_some, PT.ev, PT.test, dite_eq_ite, hw, N215_0.nx]
        exact ih
    · simp only [D215_0, PT.ev, PT.test, dite_eq_ite, if_neg (show ¬ (c : Int) < (C.length : Int) by omega), N215_0.nx]
      first
        | exact .inr trivial
        | exact .inr rfl
theorem lys1 (C : List (List Ly)) (g : Cq C) (i o : Int) : ∃ z, F215 i o (Rcs C) = some (.a0 z) := by
  have hl := g.len
  have h := lay_out C g i o 18446744073709551616 0 (by omega) (by omega)
  rw [show ((0 : Nat) : Int) = 0 from rfl] at h
  simp only [F215, D215, PT.ev, PT.test, dite_eq_ite, rcs_len]
  rcases h with ⟨z, e⟩ | e <;> rw [e] <;> exact ⟨_, rfl⟩
end Go.Proofs.YtifalphladcdcaaGreat.H

/- Counts of documents, and whether they may be, by the program. Conditions: those stated. -/
namespace Go.Proofs.YtifalphladcdcaaGreat.H
open Go Go.VM
set_option maxRecDepth 100000
theorem rt_set (ns : List W3) (k : Nat) (u : Int) : List.set (Rt ns) k [i64 u] = Rt (ns.set k ⟨u⟩) := by rw [Rt, Rt, List.map_set]
theorem rt_rep (n : Nat) : List.replicate n [i64 0] = Rt (List.replicate n ⟨0⟩) := by rw [Rt, List.map_replicate]
theorem sft1 (C : List (List Ly)) (g : Cq C) : ∃ b, F212 (Rcs C) = some (.a0 b) := by
  have loop : ∀ (n i : Nat), i ≤ C.length → C.length < n + i → L252_0 n (.s0 (.mk (Rcs C) C.length i)) = some .e1 ∨ ∃ k : Int, L252_0 n (.s0 (.mk (Rcs C) C.length i)) = some (.e0 (.mk k)) := by
    intro n
    induction n with
    | zero => intro i h1 h2; omega
    | succ n ih =>
      intro i h1 h2
      have hl := g.len
      rw [L252_0_s0]
      by_cases h : i < C.length
      · have hw : w64 ((i : Int) + 1) = ((i + 1 : Nat) : Int) := by rw [w64_in (by omega) (by omega)]; omega
        simp only [D252_0, PT.ev, PT.test, dite_eq_ite, bnd_def, if_pos (show (i : Int) < (C.length : Int) by omega), if_pos (show (0 : Int) ≤ (i : Int) by omega), Int.toNat_natCast, rcs_get, List.getElem?_eq_getElem h, Option.map_some, Option.bind_some, hw, N252_0.nx]
        split
        · exact .inr ⟨_, rfl⟩
        · exact ih (i + 1) h (by omega)
      · simp only [D252_0, PT.ev, PT.test, dite_eq_ite, if_neg (show ¬ (i : Int) < (C.length : Int) by omega), N252_0.nx]
        first
          | exact .inl trivial
          | exact .inl rfl
  have hl := g.len
  have h := loop 18446744073709551616 0 (by omega) (by omega)
  rw [show ((0 : Nat) : Int) = 0 from rfl] at h
  simp only [F212, D212, F252, D252, PT.ev, PT.test, dite_eq_ite, rcs_len]
  rcases h with h1 | ⟨k, h1⟩ <;> rw [h1] <;> exact ⟨_, rfl⟩
theorem c_r10 (bg acc i o : Int) (L : Nat) (c k kl : Int) (P X v : List (List V)) (a : W57) : ∃ b, J256_r10 (.mk bg L c acc P kl k i o X v a) = some (.e0 (.mk bg L c acc P kl k b i o X v a)) ∧ (b = true → c < a.c2 ∧ a.c2 < (X.length : Int)) := by
  simp only [J256_r10, D256_r10, PT.ev, PT.test, dite_eq_ite]
  by_cases h1 : (a.c0 == 1) = true
  · by_cases h2 : a.c2 > c
    · rw [if_pos h1, if_pos h2]; exact ⟨_, rfl, fun h => ⟨h2, of_decide_eq_true h⟩⟩
    · rw [if_pos h1, if_neg h2]; exact ⟨_, rfl, fun h => by cases h⟩
  · rw [if_neg h1]; exact ⟨_, rfl, fun h => by cases h⟩
theorem c_in (C : List (List Ly)) (ls : List Ly) (hl : ls.length ≤ 1000000) (bg i o : Int) (ns : List W3) (hns : ns.length = C.length) (c : Nat) : ∀ (n k : Nat) (acc : Int), k ≤ ls.length → ls.length < n + k →
    ∃ r, L256_2 n (.s0 (.mk bg C.length c acc (Rl ls) ls.length k i o (Rcs C) (Rt ns))) = some (.e0 (.mk bg C.length c r i o (Rcs C) (Rt ns)))
  | 0, k, acc, h1, h2 => by omega
  | n + 1, k, acc, h1, h2 => by
    rw [L256_2_s0]
    by_cases h : k < ls.length
    · have hw : w64 ((k : Int) + 1) = ((k + 1 : Nat) : Int) := by rw [w64_in (by omega) (by omega)]; omega
      obtain ⟨b, e, hb⟩ := c_r10 bg acc i o C.length c k ls.length (Rl ls) (Rcs C) (Rt ns) (Wl ls[k])
      have ih := fun acc => c_in C ls hl bg i o ns hns c n (k + 1) acc h (by omega)
      simp only [D256_2, PT.ev, PT.test, dite_eq_ite, if_pos (show (k : Int) < (ls.length : Int) by omega), if_pos (show (0 : Int) ≤ (k : Int) by omega), Int.toNat_natCast, rl_get, List.getElem?_eq_getElem h, Option.map_some, Option.bind_some]
      rw [e]
      simp only [Option.bind_some, PT.ev, PT.test, dite_eq_ite, bnd_def, hw, N256_2.nx]
      cases b with
      | true =>
        obtain ⟨q1, q2⟩ := hb rfl
        rw [rcs_len] at q2
        have hi : (Wl ls[k]).c2.toNat < ns.length := by omega
        simp only [if_true, if_pos (show 0 ≤ (Wl ls[k]).c2 ∧ (Wl ls[k]).c2 < (C.length : Int) by omega), Nat.zero_add, rt_get, List.getElem?_eq_getElem hi, Option.bind_some]
        exact ih _
      | false =>
        simp only [Bool.false_eq_true, if_false]
        exact ih _
    · simp only [D256_2, PT.ev, PT.test, dite_eq_ite, if_neg (show ¬ (k : Int) < (ls.length : Int) by omega), N256_2.nx]
      exact ⟨acc, rfl⟩
theorem c_out (C : List (List Ly)) (g : Cq C) (bg i o : Int) : ∀ (m n : Nat) (ns : List W3), ns.length = C.length → m ≤ C.length → m < n →
    ∃ ns' : List W3, L256_0 n (.s0 (.mk bg C.length ((m : Int) - 1) i o (Rcs C) (Rt ns))) = some (.e0 (.mk C.length (Rt ns'))) ∧ ns'.length = C.length
  | _, 0, _, _, _, h => by omega
  | 0, n + 1, ns, h0, h1, h2 => by
    rw [L256_0_s0]
    simp only [D256_0, PT.ev, PT.test, dite_eq_ite, if_neg (show ¬ (((0 : Nat) : Int) - 1 ≥ 0) by omega), N256_0.nx]
    exact ⟨ns, rfl, h0⟩
  | m + 1, n + 1, ns, h0, h1, h2 => by
    have hg := g.len
    have hm : m < C.length := by omega
    have e : ((m + 1 : Nat) : Int) - 1 = (m : Int) := by omega
    have hw : w64 ((m : Int) - 1) = (m : Int) - 1 := w64_in (by omega) (by omega)
    obtain ⟨r, er⟩ := c_in C C[m] (g.ly _ (List.getElem_mem hm)).1 bg i o ns h0 m 18446744073709551616 0 bg (by omega) (by have := (g.ly _ (List.getElem_mem hm)).1; omega)
    rw [show ((0 : Nat) : Int) = 0 from rfl] at er
    obtain ⟨ns', e1, e2⟩ := c_out C g bg i o m n (ns.set m ⟨r⟩) (by rw [List.length_set]; exact h0) (by omega) (by omega)
    have hmn : m < ns.length := by omega
    rw [L256_0_s0]
    simp only [D256_0, PT.ev, PT.test, dite_eq_ite, e, if_pos (show (m : Int) ≥ 0 by omega), if_pos (show (0 : Int) ≤ (m : Int) by omega), Int.toNat_natCast, rcs_get, List.getElem?_eq_getElem hm, Option.map_some, Option.bind_some, rl_len]
    rw [er]
    simp only [Option.bind_some, PT.ev, PT.test, dite_eq_ite, if_pos (show (0 : Int) ≤ (m : Int) ∧ (m : Int) < (C.length : Int) by omega), Nat.zero_add, Int.toNat_natCast, rt_get, List.getElem?_eq_getElem hmn, rt_set, hw, N256_0.nx]
    exact ⟨ns', e1, e2⟩
theorem c1 (C : List (List Ly)) (g : Cq C) (bg i o : Int) : ∃ ns : List W3, F256 i o (Rcs C) bg = some (.a0 C.length (Rt ns)) ∧ ns.length = C.length := by
  have hg := g.len
  have hw : w64 ((C.length : Int) - 1) = (C.length : Int) - 1 := w64_in (by omega) (by omega)
  obtain ⟨ns, e1, e2⟩ := c_out C g bg i o C.length 18446744073709551616 (List.replicate C.length ⟨0⟩) List.length_replicate (Nat.le_refl _) (by omega)
  simp only [F256, D256, PT.ev, PT.test, dite_eq_ite, rcs_len, if_pos (show 0 ≤ (C.length : Int) ∧ (C.length : Int) ≤ (C.length : Int) ∧ (C.length : Int) ≤ 140737488355328 ∧ (C.length : Int) * 8 ≤ 140737488355328 by omega), Int.toNat_natCast, rt_rep, hw, e1, Option.bind_some]
  exact ⟨ns, rfl, e2⟩
theorem cv1_r10 (bg acc i o : Int) (L : Nat) (c k kl : Int) (P X v : List (List V)) (a : W57) : ∃ b, J256v1_r10 (.mk bg L c acc P kl k i o X v a) = some (.e0 (.mk bg L c acc P kl k b i o X v a)) ∧ (b = true → c < a.c2 ∧ a.c2 < (X.length : Int)) := by
  simp only [J256v1_r10, D256v1_r10, PT.ev, PT.test, dite_eq_ite]
  by_cases h1 : (a.c0 == 1) = true
  · by_cases h2 : a.c2 > c
    · rw [if_pos h1, if_pos h2]; exact ⟨_, rfl, fun h => ⟨h2, of_decide_eq_true h⟩⟩
    · rw [if_pos h1, if_neg h2]; exact ⟨_, rfl, fun h => by cases h⟩
  · rw [if_neg h1]; exact ⟨_, rfl, fun h => by cases h⟩
theorem cv1_in (C : List (List Ly)) (ls : List Ly) (hl : ls.length ≤ 1000000) (bg i o : Int) (ns : List W3) (hns : ns.length = C.length) (c : Nat) : ∀ (n k : Nat) (acc : Int), k ≤ ls.length → ls.length < n + k →
    ∃ r, L256v1_2 n (.s0 (.mk bg C.length c acc (Rl ls) ls.length k i o (Rcs C) (Rt ns))) = some (.e0 (.mk bg C.length c r i o (Rcs C) (Rt ns)))
  | 0, k, acc, h1, h2 => by omega
  | n + 1, k, acc, h1, h2 => by
    rw [L256v1_2_s0]
    by_cases h : k < ls.length
    · have hw : w64 ((k : Int) + 1) = ((k + 1 : Nat) : Int) := by rw [w64_in (by omega) (by omega)]; omega
      obtain ⟨b, e, hb⟩ := cv1_r10 bg acc i o C.length c k ls.length (Rl ls) (Rcs C) (Rt ns) (Wl ls[k])
      have ih := fun acc => cv1_in C ls hl bg i o ns hns c n (k + 1) acc h (by omega)
      simp only [D256v1_2, PT.ev, PT.test, dite_eq_ite, if_pos (show (k : Int) < (ls.length : Int) by omega), if_pos (show (0 : Int) ≤ (k : Int) by omega), Int.toNat_natCast, rl_get, List.getElem?_eq_getElem h, Option.map_some, Option.bind_some]
      rw [e]
      simp only [Option.bind_some, PT.ev, PT.test, dite_eq_ite, bnd_def, hw, N256v1_2.nx]
      cases b with
      | true =>
        obtain ⟨q1, q2⟩ := hb rfl
        rw [rcs_len] at q2
        have hi : (Wl ls[k]).c2.toNat < ns.length := by omega
        simp only [if_true, if_pos (show 0 ≤ (Wl ls[k]).c2 ∧ (Wl ls[k]).c2 < (C.length : Int) by omega), Nat.zero_add, rt_get, List.getElem?_eq_getElem hi, Option.bind_some]
        exact ih _
      | false =>
        simp only [Bool.false_eq_true, if_false]
        exact ih _
    · simp only [D256v1_2, PT.ev, PT.test, dite_eq_ite, if_neg (show ¬ (k : Int) < (ls.length : Int) by omega), N256v1_2.nx]
      exact ⟨acc, rfl⟩
theorem cv1_out (C : List (List Ly)) (g : Cq C) (bg i o : Int) : ∀ (m n : Nat) (ns : List W3), ns.length = C.length → m ≤ C.length → m < n →
    ∃ ns' : List W3, L256v1_0 n (.s0 (.mk bg C.length ((m : Int) - 1) i o (Rcs C) (Rt ns))) = some (.e0 (.mk C.length (Rt ns'))) ∧ ns'.length = C.length
  | _, 0, _, _, _, h => by omega
  | 0, n + 1, ns, h0, h1, h2 => by
    rw [L256v1_0_s0]
    simp only [D256v1_0, PT.ev, PT.test, dite_eq_ite, if_neg (show ¬ (((0 : Nat) : Int) - 1 ≥ 0) by omega), N256v1_0.nx]
    exact ⟨ns, rfl, h0⟩
  | m + 1, n + 1, ns, h0, h1, h2 => by
    have hg := g.len
    have hm : m < C.length := by omega
    have e : ((m + 1 : Nat) : Int) - 1 = (m : Int) := by omega
    have hw : w64 ((m : Int) - 1) = (m : Int) - 1 := w64_in (by omega) (by omega)
    obtain ⟨r, er⟩ := cv1_in C C[m] (g.ly _ (List.getElem_mem hm)).1 bg i o ns h0 m 18446744073709551616 0 bg (by omega) (by have := (g.ly _ (List.getElem_mem hm)).1; omega)
    rw [show ((0 : Nat) : Int) = 0 from rfl] at er
    obtain ⟨ns', e1, e2⟩ := cv1_out C g bg i o m n (ns.set m ⟨r⟩) (by rw [List.length_set]; exact h0) (by omega) (by omega)
    have hmn : m < ns.length := by omega
    rw [L256v1_0_s0]
    simp only [D256v1_0, PT.ev, PT.test, dite_eq_ite, e, if_pos (show (m : Int) ≥ 0 by omega), if_pos (show (0 : Int) ≤ (m : Int) by omega), Int.toNat_natCast, rcs_get, List.getElem?_eq_getElem hm, Option.map_some, Option.bind_some, rl_len]
    rw [er]
    simp only [Option.bind_some, PT.ev, PT.test, dite_eq_ite, if_pos (show (0 : Int) ≤ (m : Int) ∧ (m : Int) < (C.length : Int) by omega), Nat.zero_add, Int.toNat_natCast, rt_get, List.getElem?_eq_getElem hmn, rt_set, hw, N256v1_0.nx]
    exact ⟨ns', e1, e2⟩
theorem cv11 (C : List (List Ly)) (g : Cq C) (bg i o : Int) : ∃ ns : List W3, F256v1 i o (Rcs C) bg = some (.a0 C.length (Rt ns)) ∧ ns.length = C.length := by
  have hg := g.len
  have hw : w64 ((C.length : Int) - 1) = (C.length : Int) - 1 := w64_in (by omega) (by omega)
  obtain ⟨ns, e1, e2⟩ := cv1_out C g bg i o C.length 18446744073709551616 (List.replicate C.length ⟨0⟩) List.length_replicate (Nat.le_refl _) (by omega)
  simp only [F256v1, D256v1, PT.ev, PT.test, dite_eq_ite, rcs_len, if_pos (show 0 ≤ (C.length : Int) ∧ (C.length : Int) ≤ (C.length : Int) ∧ (C.length : Int) ≤ 140737488355328 ∧ (C.length : Int) * 8 ≤ 140737488355328 by omega), Int.toNat_natCast, rt_rep, hw, e1, Option.bind_some]
  exact ⟨ns, rfl, e2⟩
theorem deep1 (C : List (List Ly)) (g : Cq C) (i o : Int) : ∃ z, F216 i o (Rcs C) 0 = some (.a0 z) := by
  obtain ⟨ns, e1, e2⟩ := c1 C g 1 i o
  simp only [F216, D216, PT.ev, PT.test, dite_eq_ite, bnd_def, there1, rcs_len, e1, Option.bind_some]
  by_cases h : (0 : Int) < (C.length : Int)
  · have hz : 0 < ns.length := by omega
    simp only [decide_eq_true h, show decide ((0 : Int) ≥ 0) = true from rfl, Bool.and_self, Bool.not_true, Bool.false_eq_true, if_false, if_pos (show (0 : Int) ≤ 0 ∧ (0 : Int) < (C.length : Int) from ⟨by decide, h⟩), Nat.zero_add, Int.toNat_zero, rt_get, List.getElem?_eq_getElem hz, Option.bind_some]
    exact ⟨_, rfl⟩
  · simp only [decide_eq_false h, Bool.and_false, Bool.not_false, if_true]
    exact ⟨_, rfl⟩
theorem nodes1 (C : List (List Ly)) (g : Cq C) (i o : Int) : ∃ z, F217 i o (Rcs C) 0 = some (.a0 z) := by
  obtain ⟨ns, e1, e2⟩ := cv11 C g 0 i o
  simp only [F217, D217, PT.ev, PT.test, dite_eq_ite, bnd_def, there1, rcs_len, e1, Option.bind_some]
  by_cases h : (0 : Int) < (C.length : Int)
  · have hz : 0 < ns.length := by omega
    simp only [decide_eq_true h, show decide ((0 : Int) ≥ 0) = true from rfl, Bool.and_self, Bool.not_true, Bool.false_eq_true, if_false, if_pos (show (0 : Int) ≤ 0 ∧ (0 : Int) < (C.length : Int) from ⟨by decide, h⟩), Nat.zero_add, Int.toNat_zero, rt_get, List.getElem?_eq_getElem hz, Option.bind_some]
    exact ⟨_, rfl⟩
  · simp only [decide_eq_false h, Bool.and_false, Bool.not_false, if_true]
    exact ⟨_, rfl⟩
theorem dr_r2 (x : Bool) (i o : Int) (X : List (List V)) : ∃ b, J157_r2 (.mk x i o X) = some (.e0 (.mk b i o X)) := by
  simp only [J157_r2, D157_r2, PT.ev, PT.test, dite_eq_ite]
  repeat' split
  all_goals exact ⟨_, rfl⟩
theorem dr_r4 (i o : Int) (X : List (List V)) : ∃ b, J157_r4 (.mk i o X) = some (.e0 (.mk b i o X)) := by
  simp only [J157_r4, D157_r4, PT.ev, PT.test, dite_eq_ite, bnd_def]
  repeat' split
  all_goals exact ⟨_, rfl⟩
/-- A document is judged. -/
theorem doc1 (C : List (List Ly)) (g : Cq C) (i o : Int) : ∃ z, F157 i o (Rcs C) = some (.a0 z) := by
  obtain ⟨b1, e1⟩ := sft1 C g
  obtain ⟨b2, e2⟩ := dr_r2 b1 i o (Rcs C)
  obtain ⟨b3, e3⟩ := dr_r4 i o (Rcs C)
  obtain ⟨z4, e4⟩ := lys1 C g i o
  obtain ⟨z5, e5⟩ := deep1 C g i o
  obtain ⟨z6, e6⟩ := nodes1 C g i o
  simp only [F157, D157, PT.ev, PT.test, dite_eq_ite, e1, Option.bind_some]
  rw [e2]
  simp only [Option.bind_some, PT.ev]
  rw [e3]
  simp only [Option.bind_some, PT.ev, PT.test, dite_eq_ite, e4, e5, e6]
  repeat' split
  all_goals exact ⟨_, rfl⟩
end Go.Proofs.YtifalphladcdcaaGreat.H

/- Display lists by the program: that they are, and how deep. Conditions: those stated. -/
namespace Go.Proofs.YtifalphladcdcaaGreat.H
open Go Go.VM
set_option maxRecDepth 100000
abbrev Nd := W87
abbrev Rnd (ns : List Nd) : List (List V) := ns.map W87.cells
theorem rnd_len (ns : List Nd) : (Rnd ns).length = ns.length := List.length_map ..
theorem rnd_get (ns : List Nd) (i : Nat) : ((Rnd ns)[i]?).bind W87.dec = ns[i]? := by
  simp only [Rnd, List.getElem?_map]
  cases ns[i]? with
  | none => rfl
  | some x => exact W87.dec_cells x
theorem rnd_all (ns : List Nd) : List.take ns.length (Rnd ns) = Rnd ns := List.take_of_length_le (by rw [rnd_len]; exact Nat.le_refl _)
/-- Rows that are polys, not too many. -/
def Pq (X : List (List V)) : Prop := ∃ Q : List Po, X = Ro Q ∧ (∀ q ∈ Q, q.p.length ≤ 2000) ∧ Q.length ≤ 1000000
theorem Pf.pq {X : List (List V)} (h : Pf X) : Pq X := by
  obtain ⟨Q, h1, h2, h3⟩ := h
  exact ⟨Q, h1, fun q hq => (h2 q hq).1, h3⟩
theorem Pq.nil : Pq [] := ⟨[], rfl, by simp, by simp⟩
/-- Nodes, no deeper than so many. -/
def Gnd : Nat → List (List V) → Prop
  | 0, X => X = []
  | d + 1, X => ∃ ns : List Nd, X = Rnd ns ∧ ns.length ≤ 4000 ∧ ∀ n ∈ ns, Pq n.c1 ∧ Pq n.c19 ∧ Gnd d n.c18 ∧ Gnd d n.c21
theorem Gnd.nil : ∀ d, Gnd d []
  | 0 => rfl
  | d + 1 => ⟨[], rfl, by simp, by simp⟩
theorem Gnd.inc : ∀ {d : Nat} {X : List (List V)}, Gnd d X → Gnd (d + 1) X
  | 0, X, h => by rw [show X = [] from h]; exact Gnd.nil 1
  | d + 1, X, ⟨ns, h1, h2, h3⟩ => ⟨ns, h1, h2, fun n hn => by
    obtain ⟨a, b, c, e⟩ := h3 n hn
    exact ⟨a, b, c.inc, e.inc⟩⟩
theorem Gnd.le {d : Nat} {X : List (List V)} (h : Gnd d X) : ∀ k, Gnd (d + k) X
  | 0 => h
  | k + 1 => (h.le k).inc
theorem Gnd.mono {d e : Nat} {X : List (List V)} (h : Gnd d X) (k : d ≤ e) : Gnd e X := by
  rw [show e = d + (e - d) by omega]; exact h.le _
theorem Gnd.one {X : List (List V)} {d : Nat} (h : Gnd d X) : ∃ ns : List Nd, X = Rnd ns := by
  cases d with
  | zero => exact ⟨[], h⟩
  | succ d => obtain ⟨ns, h1, _⟩ := h; exact ⟨ns, h1⟩
theorem Gnd.app {d : Nat} {a b : List Nd} (h1 : Gnd (d + 1) (Rnd a)) (h2 : Gnd (d + 1) (Rnd b)) (hl : a.length + b.length ≤ 4000) (ha : ∀ n ∈ a, Pq n.c1 ∧ Pq n.c19 ∧ Gnd d n.c18 ∧ Gnd d n.c21) (hb : ∀ n ∈ b, Pq n.c1 ∧ Pq n.c19 ∧ Gnd d n.c18 ∧ Gnd d n.c21) : Gnd (d + 1) (Rnd (a ++ b)) :=
  ⟨a ++ b, rfl, by rw [List.length_append]; exact hl, fun n hn => (List.mem_append.1 hn).elim (ha n) (hb n)⟩
/-- Nodes told with their number. -/
structure Nl (d m : Nat) (ns : List Nd) : Prop where
  len : ns.length ≤ m
  nd : ∀ n ∈ ns, Pq n.c1 ∧ Pq n.c19 ∧ Gnd d n.c18 ∧ Gnd d n.c21
theorem Nl.gn {d m : Nat} {ns : List Nd} (h : Nl d m ns) (hm : m ≤ 4000) : Gnd (d + 1) (Rnd ns) := ⟨ns, rfl, Nat.le_trans h.len hm, h.nd⟩
theorem Nl.inc {d m : Nat} {ns : List Nd} (h : Nl d m ns) {e k : Nat} (h1 : d ≤ e) (h2 : m ≤ k) : Nl e k ns := ⟨Nat.le_trans h.len h2, fun n hn => by
  obtain ⟨a, b, c, f⟩ := h.nd n hn
  exact ⟨a, b, c.mono h1, f.mono h1⟩⟩
theorem Nl.nil (d m : Nat) : Nl d m [] := ⟨Nat.zero_le _, by simp⟩
abbrev ndi (x : It) : Nd := ⟨false, x.c0, x.c1, x.c2, x.c3, x.c4, x.c5, x.c6, x.c7, x.c8, x.c9, x.c10, x.c11, x.c12, x.c13, x.c14, x.c15, x.c16, [], [], 0, [], 0⟩
theorem rig (xs : List It) (i : Nat) : ((Ri xs)[i]?).bind W85.dec = xs[i]? := by
  simp only [Ri, List.getElem?_map]
  cases xs[i]? with
  | none => rfl
  | some x => exact W85.dec_cells x
theorem in_loop (rF : K158) (hF : H158 rF) (xs : List It) (hx : xs.length ≤ 2) : ∀ (n i : Nat) (acc : List Nd), i ≤ xs.length → xs.length < n + i → acc = (xs.take i).map ndi →
    L259_0 rF hF n (.s0 (.mk acc.length xs.length xs.length i (Rnd acc) (Ri xs))) = some (.e0 (.mk xs.length (Rnd (xs.map ndi))))
  | 0, i, acc, h1, h2, _ => by omega
  | n + 1, i, acc, h1, h2, h3 => by
    rw [L259_0_s0]
    have hla : acc.length = i := by rw [h3, List.length_map, List.length_take]; omega
    by_cases h : i < xs.length
    · have hw : w64 ((i : Int) + 1) = ((i + 1 : Nat) : Int) := by rw [w64_in (by omega) (by omega)]; omega
      have ih := in_loop rF hF xs hx n (i + 1) (acc ++ [ndi xs[i]]) h (by omega) (by rw [h3, List.take_add_one, List.getElem?_eq_getElem h, List.map_append]; rfl)
      have hq : 0 + acc.length ≤ (Rnd acc).length ∧ (acc.length + 1) * 192 ≤ 140737488355328 ∧ acc.length + 1 ≤ 140737488355328 := by rw [rnd_len]; omega
      have hp : List.take acc.length (Rnd acc) ++ [(ndi xs[i]).cells] = Rnd (acc ++ [ndi xs[i]]) := by rw [rnd_all, Rnd, Rnd, List.map_append]; rfl
      simp only [D259_0, PT.ev, PT.test, dite_eq_ite, if_pos (show (i : Int) < (xs.length : Int) by omega), if_pos (show (0 : Int) ≤ (i : Int) ∧ (i : Int) < (xs.length : Int) by omega), Nat.zero_add, Int.toNat_natCast, rig, List.getElem?_eq_getElem h, Option.bind_some]
      rw [Nat.zero_add] at hq
      rw [if_pos hq]
      simp only [hw, N259_0.nx]
      rw [List.length_append, List.length_singleton, ← hp] at ih
      exact ih
    · have e : acc = xs.map ndi := by rw [h3, List.take_of_length_le (by omega)]
      simp only [D259_0, PT.ev, PT.test, dite_eq_ite, if_neg (show ¬ (i : Int) < (xs.length : Int) by omega), N259_0.nx]
      rw [e, List.length_map]
/-- What a list of a comp comes to, ahead. -/
def Lf (C : List (List Ly)) (i o deep : Int) (d m : Nat) (rF : K158) : Prop :=
  ∀ (c : Int) (t : Int) (M : Mt), 0 ≤ c → c < (C.length : Int) → ∃ ns : List Nd, rF i o (Rcs C) c t M deep = some (.a0 ns.length (Rnd ns)) ∧ Nl d m ns
theorem Lq.gm {l : Ly} (g : Lq l) : Gm l.s := ⟨g.sr.w, g.sr.h, g.sr.ps, g.sr.gw⟩
theorem inner1 (C : List (List Ly)) (i o deep : Int) (d m : Nat) (rF : K158) (hF : H158 rF) (hL : Lf C i o (w64 (deep + 1)) d m rF) (hm : 2 ≤ m) (l : Ly) (g : Lq l) (hn : l.kind = 1 → 0 ≤ l.comp ∧ l.comp < (C.length : Int)) (t : Int) (M : Mt) (a : Int) :
    ∃ ns : List Nd, F259 rF hF i o (Rcs C) (Wl l) t M deep a = some (.a0 ns.length (Rnd ns)) ∧ Nl d m ns := by
  by_cases h : l.kind = 1
  · obtain ⟨h1, h2⟩ := hn h
    obtain ⟨ns, e1, e2⟩ := hL l.comp (innerv l t) M h1 h2
    have hk : (l.kind == 1) = true := by rw [beq_iff_eq]; exact h
    simp only [F259, D259, PT.ev, PT.test, dite_eq_ite, if_pos hk, qinner l g.sm, Option.bind_some, e1]
    exact ⟨ns, rfl, e2⟩
  · have hk : ¬ (l.kind == 1) = true := by rw [beq_iff_eq]; exact h
    obtain ⟨xs, e1, e2, e3⟩ := items1 l.s g.gm g.sr.wd g.sr.ds g.sr.cs g.sr.fr g.sr.to_ (F70 (Wl l) t) M a
    have lp := in_loop rF hF xs e2 18446744073709551616 0 [] (by omega) (by omega) rfl
    rw [show ((0 : Nat) : Int) = 0 from rfl, show Rnd [] = [] from rfl, show ([] : List Nd).length = 0 from rfl] at lp
    have lm : (xs.map ndi).length = xs.length := List.length_map ..
    simp only [F259, D259, PT.ev, PT.test, dite_eq_ite, if_neg hk, bnd_def]
    refine ⟨xs.map ndi, (congrArg (fun o => Option.bind o _) e1).trans ?_, ⟨by rw [lm]; omega, fun n hn => by
      obtain ⟨x, hx, rfl⟩ := List.mem_map.1 hn
      exact ⟨(e3 x hx).pq, Pq.nil, Gnd.nil _, Gnd.nil _⟩⟩⟩
    simp only [Option.bind_some, lp, lm, PT.ev]
abbrev ndg (P N M : List (List V)) (how : Int) (a : Int) : Nd := ⟨true, [], 0, 0, 0, 0, 0, 0, 0, 0, 0, 0, 0, 0, 0, 0, 0, 0, N, M, how, P, a⟩
theorem ly_r3 (rF : K158) (hF : H158 rF) (rG : K218) (hG : H218 rG) (k t deep al i o : Int) (X : List (List V)) (ls : List (List V)) (M : Mt) (a : W57) : ∃ b, (J218_r3) rF hF rG hG (.mk k t deep al i o X ls M a) = some (.e0 (.mk k t deep al b i o X ls M a)) := by
  simp only [J218_r3, D218_r3, PT.ev, PT.test, dite_eq_ite, bnd_def]
  repeat' split
  all_goals exact ⟨_, rfl⟩
theorem ly_r6 (rF : K158) (hF : H158 rF) (rG : K218) (hG : H218 rG) (k t deep al i o : Int) (X : List (List V)) (ls : List (List V)) (M : Mt) (a : W57) (own : Mt) : ∃ b, (J218_r6) rF hF rG hG (.mk k t deep al i o X ls M a own) = some (.e0 (.mk k t deep al b i o X ls M a own)) := by
  simp only [J218_r6, D218_r6, PT.ev, PT.test, dite_eq_ite, bnd_def]
  repeat' split
  all_goals exact ⟨_, rfl⟩
theorem layer1 (C : List (List Ly)) (ls : List Ly) (i o t deep : Int) (M : Mt) (d m : Nat) (hm : 2 ≤ m) (hm2 : m ≤ 4000) (rF : K158) (hF : H158 rF) (hL : Lf C i o (w64 (deep + 1)) d m rF)
    (gl : ls.length ≤ 1000000) (gy : ∀ l ∈ ls, Lq l ∧ (l.kind = 1 → 0 ≤ l.comp ∧ l.comp < (C.length : Int))) : ∀ (k n : Nat), k < n → k < ls.length →
    ∃ ns : List Nd, F218 rF hF n i o (Rcs C) (Rl ls) k t M deep = some (.a0 ns.length (Rnd ns)) ∧ Nl (d + 1 + k) m ns
  | k, 0, h, _ => by omega
  | k, n + 1, h, hk => by
    obtain ⟨g, gn⟩ := gy _ (List.getElem_mem hk)
    obtain ⟨b1, r3⟩ := ly_r3 rF hF (F218 rF hF n) (F218_ok rF hF n) k t deep (opacv ls[k] t) i o (Rcs C) (Rl ls) M (Wl ls[k])
    obtain ⟨b2, r6⟩ := ly_r6 rF hF (F218 rF hF n) (F218_ok rF hF n) k t deep (opacv ls[k] t) i o (Rcs C) (Rl ls) M (Wl ls[k]) (aftv M (chainv ls k t))
    have qc := qchain ls (fun l hl => (gy l hl).1.sm) k t
    rw [F218_succ]
    simp only [D218, PT.ev, PT.test, dite_eq_ite, if_pos (show (0 : Int) ≤ (k : Int) by omega), Int.toNat_natCast, rl_get, List.getElem?_eq_getElem hk, Option.map_some, Option.bind_some, qopac ls[k] g.sm]
    rw [r3]
    simp only [Option.bind_some, PT.ev, PT.test, dite_eq_ite, qc, qafter]
    cases b1 with
    | true => exact ⟨[], rfl, Nl.nil _ _⟩
    | false =>
      simp only [Bool.false_eq_true, if_false]
      rw [r6]
      simp only [Option.bind_some, PT.ev, PT.test, dite_eq_ite]
      cases b2 with
      | true =>
        obtain ⟨ns, e1, e2⟩ := inner1 C i o deep d m rF hF hL hm ls[k] g gn t (aftv M (chainv ls k t)) (opacv ls[k] t)
        simp only [if_true]
        exact ⟨ns, (congrArg (fun o => Option.bind o _) e1).trans rfl, e2.inc (by omega) (Nat.le_refl _)⟩
      | false =>
        obtain ⟨ns, e1, e2⟩ := inner1 C i o deep d m rF hF hL hm ls[k] g gn t (aftv M (chainv ls k t)) 255
        obtain ⟨Q, q1, q2, q3⟩ := mask1 ls[k] g.mp (aftv M (chainv ls k t))
        have e3 := e2.gn hm2
        have tn := rnd_all ns
        have tq := ro_all Q
        have ln : (Rnd ns).length = ns.length := rnd_len ns
        have lq := ro_len Q
        have one : ∀ (P : List (List V)), Gnd (d + 1 + k) P → ∀ (how a : Int), Nl (d + 1 + k) m [ndg P (Rnd ns) (Ro Q) how a] := fun P hP how a => ⟨by show 1 ≤ m; omega, fun x hx => by
          rw [List.mem_singleton.1 hx]
          exact ⟨Pq.nil, ⟨Q, rfl, fun q hq => (q2 q hq).1, by omega⟩, e3.mono (by omega), hP⟩⟩
        simp only [Bool.false_eq_true, if_false]
        by_cases hmt : ((Wl ls[k]).c3 != 0) = true
        · by_cases hk0 : (k : Int) > 0
          · have hw : w64 ((k : Int) - 1) = ((k - 1 : Nat) : Int) := by rw [w64_in (by omega) (by omega)]; omega
            obtain ⟨ps, p1, p2⟩ := layer1 C ls i o t deep M d m hm hm2 rF hF hL gl gy (k - 1) n (by omega) (by omega)
            have p3 := p2.gn hm2
            refine ⟨[ndg (Rnd ps) (Rnd ns) (Ro Q) ls[k].mat (opacv ls[k] t)], (congrArg (fun o => Option.bind o _) e1).trans ?_, one (Rnd ps) (p3.mono (by omega)) _ _⟩
            simp only [Option.bind_some, PT.ev, PT.test, dite_eq_ite]
            refine (congrArg (fun o => Option.bind o _) q1).trans ?_
            simp only [Option.bind_some, PT.ev, PT.test, dite_eq_ite, if_pos hmt, if_pos hk0, hw, p1, Nat.zero_add, ln, lq, rnd_len, Nat.le_refl, if_true, tn, tq, rnd_all]
            rfl
          · refine ⟨[ndg [] (Rnd ns) (Ro Q) ls[k].mat (opacv ls[k] t)], (congrArg (fun o => Option.bind o _) e1).trans ?_, one [] (Gnd.nil _) _ _⟩
            simp only [Option.bind_some, PT.ev, PT.test, dite_eq_ite]
            refine (congrArg (fun o => Option.bind o _) q1).trans ?_
            simp only [Option.bind_some, PT.ev, PT.test, dite_eq_ite, if_pos hmt, if_neg hk0, Nat.zero_add, ln, lq, Nat.le_refl, if_true, tn, tq]
            rfl
        · refine ⟨[ndg [] (Rnd ns) (Ro Q) ls[k].mat (opacv ls[k] t)], (congrArg (fun o => Option.bind o _) e1).trans ?_, one [] (Gnd.nil _) _ _⟩
          simp only [Option.bind_some, PT.ev, PT.test, dite_eq_ite]
          refine (congrArg (fun o => Option.bind o _) q1).trans ?_
          simp only [Option.bind_some, PT.ev, PT.test, dite_eq_ite, if_neg hmt, Nat.zero_add, ln, lq, Nat.le_refl, if_true, tn, tq]
          rfl
end Go.Proofs.YtifalphladcdcaaGreat.H

/- Lists of comps, of documents, by the program. Conditions: those stated. -/
namespace Go.Proofs.YtifalphladcdcaaGreat.H
open Go Go.VM
set_option maxRecDepth 100000
theorem Nl.app {d m k : Nat} {a b : List Nd} (h1 : Nl d m a) (h2 : Nl d k b) : Nl d (m + k) (a ++ b) := ⟨by rw [List.length_append]; exact Nat.add_le_add h1.len h2.len, fun n hn => (List.mem_append.1 hn).elim (h1.nd n) (h2.nd n)⟩
theorem list_in (C : List (List Ly)) (ls : List Ly) (i o t deep : Int) (M : Mt) (d m : Nat) (hm : 2 ≤ m) (hm2 : m ≤ 1000) (rF : K158) (hF : H158 rF) (hL : Lf C i o (w64 (deep + 1)) d m rF)
    (gl : ls.length ≤ 4) (gy : ∀ l ∈ ls, Lq l ∧ (l.kind = 1 → 0 ≤ l.comp ∧ l.comp < (C.length : Int))) : ∀ (n k : Nat) (acc : List Nd), k ≤ ls.length → ls.length < n + k → Nl (d + 4) (k * m) acc →
    ∃ ns : List Nd, L158_0 rF hF n (.s0 (.mk t deep acc.length ls.length k i o (Rcs C) M (Rnd acc) (Rl ls))) = some (.e0 (.mk ns.length (Rnd ns))) ∧ Nl (d + 4) (4 * m) ns
  | 0, k, acc, h1, h2, _ => by omega
  | n + 1, k, acc, h1, h2, h3 => by
    rw [L158_0_s0]
    by_cases h : k < ls.length
    · have hw : w64 ((k : Int) + 1) = ((k + 1 : Nat) : Int) := by rw [w64_in (by omega) (by omega)]; omega
      have hkm : k * m ≤ 3 * m := Nat.mul_le_mul_right m (by omega)
      have hk1 : (k + 1) * m = k * m + m := Nat.succ_mul k m
      have skip := list_in C ls i o t deep M d m hm hm2 rF hF hL gl gy n (k + 1) acc h (by omega) (h3.inc (Nat.le_refl _) (by omega))
      obtain ⟨ns, e1, e2⟩ := layer1 C ls i o t deep M d m hm (by omega) rF hF hL (by omega) gy k 100000 (by omega) h
      have e3 : Nl (d + 4) m ns := e2.inc (by omega) (Nat.le_refl _)
      have hn := e3.len
      have ha := h3.len
      have go := list_in C ls i o t deep M d m hm hm2 rF hF hL gl gy n (k + 1) (acc ++ ns) h (by omega) (by rw [hk1]; exact h3.app e3)
      have hp : Rnd acc ++ Rnd ns = Rnd (acc ++ ns) := by rw [Rnd, Rnd, Rnd, List.map_append]
      have hq : (acc.length + ns.length) * 192 ≤ 140737488355328 ∧ acc.length + ns.length ≤ 140737488355328 := by omega
      rw [List.length_append] at go
      simp only [D158_0, PT.ev, PT.test, dite_eq_ite, rl_len, if_pos (show (k : Int) < (ls.length : Int) by omega), hw]
      by_cases h4 : ((k + 1 : Nat) : Int) < (ls.length : Int)
      · have hk2 : k + 1 < ls.length := by omega
        simp only [if_pos h4, if_pos (show (0 : Int) ≤ ((k + 1 : Nat) : Int) by omega), Int.toNat_natCast, rl_get, List.getElem?_eq_getElem hk2, Option.map_some, Option.bind_some, e1, Nat.zero_add, rnd_len, Nat.le_refl, true_and, if_true, rnd_all, hp, if_pos hq, hw, N158_0.nx]
        split
        · exact skip
        · exact go
      · simp only [if_neg h4, e1, Option.bind_some, PT.ev, PT.test, dite_eq_ite, Nat.zero_add, rnd_len, Nat.le_refl, true_and, if_true, rnd_all, hp, if_pos hq, hw, N158_0.nx]
        exact go
    · have hkm : k * m ≤ 4 * m := Nat.mul_le_mul_right m (by omega)
      simp only [D158_0, PT.ev, PT.test, dite_eq_ite, if_neg (show ¬ (k : Int) < (ls.length : Int) by omega), N158_0.nx]
      exact ⟨acc, rfl, h3.inc (Nat.le_refl _) hkm⟩
/-- Comps of a tape: few layers, nested ones that are. -/
structure Ct (C : List (List Ly)) : Prop where
  q : Cq C
  four : ∀ c ∈ C, c.length ≤ 4
  nest : ∀ c ∈ C, ∀ l ∈ c, l.kind = 1 → 0 ≤ l.comp ∧ l.comp < (C.length : Int)
def bn : Nat → Nat
  | 0 => 2
  | d + 1 => 4 * bn d
theorem bn_le : ∀ d : Nat, d ≤ 4 → 2 ≤ bn d ∧ bn d ≤ 512 := by decide
theorem list1 (C : List (List Ly)) (g : Ct C) (i o : Int) : ∀ (d n : Nat) (deep : Int), deep + d = 4 → d ≤ 4 → d < n → Lf C i o deep (4 * d) (bn d) (F158 n)
  | d, 0, deep, _, _, h => by omega
  | 0, n + 1, deep, hd, _, _ => fun c t M h1 h2 => by
    have e : deep = 4 := by omega
    subst e
    rw [F158_succ]
    exact ⟨[], rfl, Nl.nil _ _⟩
  | d + 1, n + 1, deep, hd, h4, hn => fun c t M h1 h2 => by
    have hb := bn_le d (by omega)
    have hw : w64 (deep + 1) = deep + 1 := w64_in (by omega) (by omega)
    have ih : Lf C i o (w64 (deep + 1)) (4 * d) (bn d) (F158 n) := by rw [hw]; exact list1 C g i o d n (deep + 1) (by omega) (by omega) (by omega)
    have hc : c.toNat < C.length := by omega
    have hm := List.getElem_mem hc
    obtain ⟨_, gy⟩ := g.q.ly _ hm
    obtain ⟨ns, e1, e2⟩ := list_in C C[c.toNat] i o t deep M (4 * d) (bn d) hb.1 (by omega) (F158 n) (F158_ok n) ih (g.four _ hm) (fun l hl => ⟨gy l hl, g.nest _ hm l hl⟩) 18446744073709551616 0 [] (by omega) (by have := g.four _ hm; omega) (Nl.nil _ _)
    rw [show ((0 : Nat) : Int) = 0 from rfl, show Rnd [] = [] from rfl, show ([] : List Nd).length = 0 from rfl] at e1
    rw [F158_succ]
    simp only [D158, J158_r1, D158_r1, PT.ev, PT.test, dite_eq_ite, if_neg (show ¬ deep < 0 by omega), decide_eq_false (show ¬ deep ≥ 4 by omega), Option.bind_some, Bool.false_eq_true, if_false, if_pos h1, rcs_get, List.getElem?_eq_getElem hc, Option.map_some, rl_len]
    rw [e1]
    exact ⟨ns, rfl, e2⟩
/-- A document's list. -/
theorem doclist1 (C : List (List Ly)) (g : Ct C) (i o t : Int) : ∃ ns : List Nd, F33 i o (Rcs C) t = some (.a0 ns.length (Rnd ns)) ∧ Nl 16 512 ns := by
  obtain ⟨z, e⟩ := doc1 C g.q i o
  have L := list1 C g i o 4 100000 0 (by omega) (by omega) (by omega)
  simp only [F33, D33, F91, D91, PT.ev, PT.test, dite_eq_ite, bnd_def, e, Option.bind_some, rcs_len]
  by_cases hz : (z != 0) = true
  · simp only [if_pos hz]; exact ⟨[], rfl, Nl.nil _ _⟩
  · simp only [if_neg hz]
    by_cases h0 : (0 : Int) ≥ (C.length : Int)
    · simp only [if_neg (show ¬ (0 : Int) < 0 by decide), if_pos h0]; exact ⟨[], rfl, Nl.nil _ _⟩
    · obtain ⟨ns, e1, e2⟩ := L 0 t F78 (by omega) (by omega)
      simp only [if_neg (show ¬ (0 : Int) < 0 by decide), if_neg h0]
      exact ⟨ns, (congrArg (fun o => Option.bind o _) (congrArg (fun o => Option.bind o _) e1)).trans rfl, e2.inc (by omega) (by decide)⟩
end Go.Proofs.YtifalphladcdcaaGreat.H

/- Some of chapter 22's runs, by the program. Conditions: those stated. -/
namespace Go.Proofs.YtifalphladcdcaaGreat.H
open Go Go.VM
set_option maxRecDepth 100000
abbrev kl : Ly := ⟨0, -1, 0, 0, 0, 5, 0, [], [], [], [], [], [], [], [], [], false, [], ⟨0, 0, [⟨0, 65536, 0, 0, 0, 0, 0⟩], [⟨0, 65536, 0, 0, 0, 0, 0⟩], [], true, 0, 0, 0, 0, 0, 0, 0, 0, 0, 0, 0, 0, 0, 0, 0, [], false, [], 0, 0, 0, 0, 0, [], [], []⟩⟩
theorem kl0 : ((Rl [kl])[0]?).bind W57.dec = some (Wl kl) := by rw [rl_get]; rfl
theorem kc0 : ((Rcs [[kl]])[0]?).bind W52.dec = some ⟨Rl [kl]⟩ := rfl
theorem kring : F281 (Rl [kl]) 0 = some (.a0 false) := by
  simp only [F281, D281, PT.ev, PT.test, dite_eq_ite, if_pos (show (0 : Int) ≤ 0 by decide), Int.toNat_zero, kl0, Option.bind_some]
  kernel_rfl
theorem ktree : F254 0 9 (Rcs [[kl]]) 0 0 = some (.a0 true) := by
  have hb : J254_b0 (.mk 0 0 0 9 (Rcs [[kl]]) (Rl [kl]) (Wl kl)) = some (.e1 (.mk 0 0 9 (Rcs [[kl]]) (Wl kl))) := by
    simp only [J254_b0, D254_b0, PT.ev, PT.test, dite_eq_ite]
    rw [show J254_r3 (.mk 0 0 0 9 (Rcs [[kl]]) (Rl [kl]) (Wl kl)) = some (.e0 (.mk 0 0 false 0 9 (Rcs [[kl]]) (Rl [kl]) (Wl kl))) from by kernel_rfl]
    simp only [Option.bind_some, PT.ev, kring, Bool.false_eq_true, if_false]
    kernel_rfl
  simp only [F254, D254, PT.ev, PT.test, dite_eq_ite, if_pos (show (0 : Int) ≤ 0 by decide), Int.toNat_zero, kc0, kl0, Option.bind_some]
  rw [hb]
  rfl
theorem klay : F253 (Wl kl) = some (.a0 true) := by kernel_rfl
theorem klys : F215 0 9 (Rcs [[kl]]) = some (.a0 0) := by
  have h2 : L215_2 18446744073709551616 (.s0 (.mk 0 (Rcs [[kl]]) 1 (Rl [kl]) 1 0 0 9)) = some (.e1 (.mk (Rcs [[kl]]) 1 0 0 9)) := by
    rw [show (18446744073709551616 : Nat) = 18446744073709551614 + 1 + 1 from rfl, L215_2_s0]
    simp only [D215_2, PT.ev, PT.test, dite_eq_ite, if_pos (show (0 : Int) < 1 by decide), if_pos (show (0 : Int) ≤ 0 by decide), Int.toNat_zero, kl0, Option.bind_some, klay, ktree, Bool.not_true, Bool.false_eq_true, if_false]
    kernel_rfl
  have h0 : L215_0 18446744073709551616 (.s0 (.mk (Rcs [[kl]]) 1 0 0 9)) = some .e1 := by
    rw [show L215_0 18446744073709551616 (.s0 (.mk (Rcs [[kl]]) 1 0 0 9)) = L215_0 (18446744073709551614 + 1 + 1) (.s0 (.mk (Rcs [[kl]]) 1 0 0 9)) from rfl, L215_0_s0]
    simp only [D215_0, PT.ev, PT.test, dite_eq_ite, if_pos (show (0 : Int) < 1 by decide), if_pos (show (0 : Int) ≤ 0 by decide), Int.toNat_zero, kc0, Option.bind_some]
    rw [show (((Rl [kl]).length : Nat) : Int) = 1 from rfl, h2]
    kernel_rfl
  simp only [F215, D215, PT.ev]
  rw [show (((Rcs [[kl]]).length : Nat) : Int) = 1 from rfl, h0]
  rfl
theorem kdeep : F216 0 9 (Rcs [[kl]]) 0 = some (.a0 1) := by
  have h2 : L256_2 18446744073709551616 (.s0 (.mk 1 1 0 1 (Rl [kl]) 1 0 0 9 (Rcs [[kl]]) [[i64 0]])) = some (.e0 (.mk 1 1 0 1 0 9 (Rcs [[kl]]) [[i64 0]])) := by
    rw [show (18446744073709551616 : Nat) = 18446744073709551614 + 1 + 1 from rfl, L256_2_s0]
    simp only [D256_2, PT.ev, PT.test, dite_eq_ite, if_pos (show (0 : Int) < 1 by decide), if_pos (show (0 : Int) ≤ 0 by decide), Int.toNat_zero, kl0, Option.bind_some]
    kernel_rfl
  have h0 : L256_0 18446744073709551616 (.s0 (.mk 1 1 0 0 9 (Rcs [[kl]]) [[i64 0]])) = some (.e0 (.mk 1 [[i64 1]])) := by
    rw [show L256_0 18446744073709551616 (.s0 (.mk 1 1 0 0 9 (Rcs [[kl]]) [[i64 0]])) = L256_0 (18446744073709551614 + 1 + 1) (.s0 (.mk 1 1 0 0 9 (Rcs [[kl]]) [[i64 0]])) from rfl, L256_0_s0]
    simp only [D256_0, PT.ev, PT.test, dite_eq_ite, if_pos (show (0 : Int) ≥ 0 by decide), if_pos (show (0 : Int) ≤ 0 by decide), Int.toNat_zero, kc0, Option.bind_some]
    rw [show (((Rl [kl]).length : Nat) : Int) = 1 from rfl, h2]
    kernel_rfl
  have h1 : F256 0 9 (Rcs [[kl]]) 1 = some (.a0 1 [[i64 1]]) := by
    simp only [F256, D256, PT.ev, PT.test, dite_eq_ite]
    rw [show (((Rcs [[kl]]).length : Nat) : Int) = 1 from rfl, if_pos (by decide), show List.replicate (Int.toNat 1) [i64 0] = [[i64 0]] from rfl, show w64 ((1 : Int) - 1) = 0 from rfl, show Int.toNat 1 = 1 from rfl, h0]
    rfl
  simp only [F216, D216, PT.ev, PT.test, dite_eq_ite, h1]
  rfl
theorem knodes : F217 0 9 (Rcs [[kl]]) 0 = some (.a0 2) := by
  have h2 : L256v1_2 18446744073709551616 (.s0 (.mk 0 1 0 0 (Rl [kl]) 1 0 0 9 (Rcs [[kl]]) [[i64 0]])) = some (.e0 (.mk 0 1 0 2 0 9 (Rcs [[kl]]) [[i64 0]])) := by
    rw [show (18446744073709551616 : Nat) = 18446744073709551614 + 1 + 1 from rfl, L256v1_2_s0]
    simp only [D256v1_2, PT.ev, PT.test, dite_eq_ite, if_pos (show (0 : Int) < 1 by decide), if_pos (show (0 : Int) ≤ 0 by decide), Int.toNat_zero, kl0, Option.bind_some]
    kernel_rfl
  have h0 : L256v1_0 18446744073709551616 (.s0 (.mk 0 1 0 0 9 (Rcs [[kl]]) [[i64 0]])) = some (.e0 (.mk 1 [[i64 2]])) := by
    rw [show L256v1_0 18446744073709551616 (.s0 (.mk 0 1 0 0 9 (Rcs [[kl]]) [[i64 0]])) = L256v1_0 (18446744073709551614 + 1 + 1) (.s0 (.mk 0 1 0 0 9 (Rcs [[kl]]) [[i64 0]])) from rfl, L256v1_0_s0]
    simp only [D256v1_0, PT.ev, PT.test, dite_eq_ite, if_pos (show (0 : Int) ≥ 0 by decide), if_pos (show (0 : Int) ≤ 0 by decide), Int.toNat_zero, kc0, Option.bind_some]
    rw [show (((Rl [kl]).length : Nat) : Int) = 1 from rfl, h2]
    kernel_rfl
  have h1 : F256v1 0 9 (Rcs [[kl]]) 0 = some (.a0 1 [[i64 2]]) := by
    simp only [F256v1, D256v1, PT.ev, PT.test, dite_eq_ite]
    rw [show (((Rcs [[kl]]).length : Nat) : Int) = 1 from rfl, if_pos (by decide), show List.replicate (Int.toNat 1) [i64 0] = [[i64 0]] from rfl, show w64 ((1 : Int) - 1) = 0 from rfl, show Int.toNat 1 = 1 from rfl, h0]
    rfl
  simp only [F217, D217, PT.ev, PT.test, dite_eq_ite, h1]
  rfl
theorem kright : F157 0 9 (Rcs [[kl]]) = some (.a0 0) := by
  simp only [F157, D157, PT.ev, PT.test, dite_eq_ite]
  rw [show F212 (Rcs [[kl]]) = some (.a0 false) from by kernel_rfl]
  simp only [Option.bind_some, PT.ev]
  rw [show J157_r2 (.mk false 0 9 (Rcs [[kl]])) = some (.e0 (.mk false 0 9 (Rcs [[kl]]))) from by kernel_rfl]
  simp only [Option.bind_some, PT.ev, Bool.false_eq_true, if_false]
  rw [show J157_r4 (.mk 0 9 (Rcs [[kl]])) = some (.e0 (.mk false 0 9 (Rcs [[kl]]))) from by kernel_rfl]
  simp only [Option.bind_some, PT.ev, Bool.false_eq_true, if_false, klys, kdeep, knodes]
  kernel_rfl
end Go.Proofs.YtifalphladcdcaaGreat.H

/- Chapter 22's own runs hold. Conditions: those stated. -/
namespace Go.Proofs.YtifalphladcdcaaGreat.H
open Go Go.VM
set_option maxRecDepth 100000
noncomputable abbrev kM (t : Int) : Mt := aftv F78 (chainv [kl] 0 t)
noncomputable def krow : List (List V) := match F75 (Ws kl.s) 3 (kM 3) 255 with
  | some (.a0 _ r) => r
  | none => []
noncomputable def kit : It := W85.of (krow.headD [])
theorem kit0 : F75 (Ws kl.s) 3 (kM 3) 255 = some (.a0 1 (Ri [kit])) := by kernel_rfl
noncomputable abbrev kn : Nd := ndi kit
theorem klayer3 (rF : K158) (hF : H158 rF) : F218 rF hF 100000 0 9 (Rcs [[kl]]) (Rl [kl]) 0 3 F78 0 = some (.a0 1 (Rnd [kn])) := by
  have r3 : (J218_r3) rF hF (F218 rF hF 99999) (F218_ok rF hF 99999) (.mk 0 3 0 255 0 9 (Rcs [[kl]]) (Rl [kl]) F78 (Wl kl)) = some (.e0 (.mk 0 3 0 255 false 0 9 (Rcs [[kl]]) (Rl [kl]) F78 (Wl kl))) := by kernel_rfl
  have r6 : (J218_r6) rF hF (F218 rF hF 99999) (F218_ok rF hF 99999) (.mk 0 3 0 255 0 9 (Rcs [[kl]]) (Rl [kl]) F78 (Wl kl) (kM 3)) = some (.e0 (.mk 0 3 0 255 true 0 9 (Rcs [[kl]]) (Rl [kl]) F78 (Wl kl) (kM 3))) := by kernel_rfl
  have op : F22 (Wl kl) 3 = some (.a0 255) := by kernel_rfl
  have qc := qchain [kl] (fun l hl => by rw [List.mem_singleton.1 hl]; exact ⟨by decide, by decide, by decide, by decide, by decide, by decide, by decide, by decide, by decide⟩) 0 3
  have tk : F70 (Wl kl) 3 = 3 := by kernel_rfl
  have inn : F259 rF hF 0 9 (Rcs [[kl]]) (Wl kl) 3 (kM 3) 0 255 = some (.a0 1 (Rnd [kn])) := by
    have lp := in_loop rF hF [kit] (by decide) 18446744073709551616 0 [] (by decide) (by decide) rfl
    rw [show ((0 : Nat) : Int) = 0 from rfl, show Rnd [] = [] from rfl, show ([] : List Nd).length = 0 from rfl, show ([kit] : List It).length = 1 from rfl] at lp
    simp only [F259, D259, PT.ev, PT.test, dite_eq_ite, if_neg (show ¬ ((0 : Int) == 1) = true by decide), bnd_def, tk]
    refine (congrArg (fun o => Option.bind o _) kit0).trans ?_
    simp only [Option.bind_some, PT.ev]
    rw [show (((1 : Nat) : Int)) = 1 from rfl] at *
    rw [lp]
    rfl
  rw [show (100000 : Nat) = 99999 + 1 from rfl, F218_succ]
  simp only [D218, PT.ev, PT.test, dite_eq_ite, if_pos (show (0 : Int) ≤ 0 by decide), Int.toNat_zero, kl0, Option.bind_some, op]
  rw [r3]
  simp only [Option.bind_some, PT.ev, PT.test, dite_eq_ite, qc, qafter, Bool.false_eq_true, if_false]
  rw [r6]
  simp only [Option.bind_some, PT.ev, PT.test, dite_eq_ite, if_true, inn]
theorem klayer6 (rF : K158) (hF : H158 rF) : F218 rF hF 100000 0 9 (Rcs [[kl]]) (Rl [kl]) 0 6 F78 0 = some (.a0 0 []) := by
  have r3 : (J218_r3) rF hF (F218 rF hF 99999) (F218_ok rF hF 99999) (.mk 0 6 0 255 0 9 (Rcs [[kl]]) (Rl [kl]) F78 (Wl kl)) = some (.e0 (.mk 0 6 0 255 true 0 9 (Rcs [[kl]]) (Rl [kl]) F78 (Wl kl))) := by kernel_rfl
  have op : F22 (Wl kl) 6 = some (.a0 255) := by kernel_rfl
  rw [show (100000 : Nat) = 99999 + 1 from rfl, F218_succ]
  simp only [D218, PT.ev, PT.test, dite_eq_ite, if_pos (show (0 : Int) ≤ 0 by decide), Int.toNat_zero, kl0, Option.bind_some, op]
  rw [r3]
  rfl
theorem klist (t : Int) (ns : List Nd) (hn : ns.length ≤ 4) (h : ∀ (rF : K158) (hF : H158 rF), F218 rF hF 100000 0 9 (Rcs [[kl]]) (Rl [kl]) 0 t F78 0 = some (.a0 ns.length (Rnd ns))) : F33 0 9 (Rcs [[kl]]) t = some (.a0 ns.length (Rnd ns)) := by
  have lp : ∀ (rF : K158) (hF : H158 rF), L158_0 rF hF 18446744073709551616 (.s0 (.mk t 0 0 1 0 0 9 (Rcs [[kl]]) F78 [] (Rl [kl]))) = some (.e0 (.mk ns.length (Rnd ns))) := fun rF hF => by
    rw [show (18446744073709551616 : Nat) = 18446744073709551614 + 1 + 1 from rfl, L158_0_s0]
    have q : 0 + 0 ≤ ([] : List (List V)).length ∧ (0 + (Rnd ns).length) * 192 ≤ 140737488355328 ∧ 0 + (Rnd ns).length ≤ 140737488355328 := by rw [rnd_len]; simp; omega
    simp only [D158_0, PT.ev, PT.test, dite_eq_ite, if_pos (show (0 : Int) < 1 by decide), if_neg (show ¬ w64 ((0 : Int) + 1) < (((Rl [kl]).length : Nat) : Int) by decide), h, Option.bind_some, if_pos (show 0 + ns.length ≤ (Rnd ns).length by rw [rnd_len]; omega), rnd_all, if_pos q, N158_0.nx]
    rw [L158_0_s0]
    simp only [D158_0, PT.ev, PT.test, dite_eq_ite, if_neg (show ¬ w64 ((0 : Int) + 1) < 1 by decide), N158_0.nx, List.take_nil, List.nil_append, rnd_len, Nat.zero_add]
  simp only [F33, D33, F91, D91, PT.ev, PT.test, dite_eq_ite, Ws, bnd_def, kright, Option.bind_some]
  rw [if_neg (show ¬ ((0 : Int) != 0) = true by decide), if_neg (show ¬ (0 : Int) < 0 by decide), if_neg (show ¬ (0 : Int) ≥ (((Rcs [[kl]]).length : Nat) : Int) by decide)]
  rw [show (100000 : Nat) = 99999 + 1 from rfl, F158_succ]
  simp only [D158, J158_r1, D158_r1, PT.ev, PT.test, dite_eq_ite, if_neg (show ¬ (0 : Int) < 0 by decide), decide_eq_false (show ¬ (0 : Int) ≥ 4 by decide), Option.bind_some, Bool.false_eq_true, if_false, if_pos (show (0 : Int) ≤ 0 by decide), Int.toNat_zero, kc0]
  rw [show (((Rl [kl]).length : Nat) : Int) = 1 from rfl, lp]
  rfl
theorem known22 : F35 = some (.a0 true) := by
  have l3 := klist 3 [kn] (by decide) klayer3
  have l6 := klist 6 [] (by decide) klayer6
  have l0 : F33 0 0 [] 0 = some (.a0 0 []) := by kernel_rfl
  have g0 : ((Rnd [kn])[0]?).bind W87.dec = some kn := by rw [rnd_get]; rfl
  have bx : F94 100000 kn = some (.a0 (-1) (-1) 1 1) := by kernel_rfl
  have al : (kn.c17 == 255) = true := by kernel_rfl
  have sm : F34 100000 kn kn = some (.a0 true) := by kernel_rfl
  simp only [F35, D35, PT.ev, PT.test, dite_eq_ite]
  refine (congrArg (fun o => Option.bind o _) l3).trans ?_
  simp only [Option.bind_some, PT.ev, PT.test, dite_eq_ite, g0]
  rw [if_pos (by decide), if_pos (by decide), if_pos (by rfl), if_pos al]
  refine (congrArg (fun o => Option.bind o _) l6).trans ?_
  simp only [Option.bind_some, PT.ev, PT.test, dite_eq_ite]
  rw [if_pos (by decide), bx]
  simp only [Option.bind_some, PT.ev, PT.test, dite_eq_ite, sm, l0]
  rfl
end Go.Proofs.YtifalphladcdcaaGreat.H
