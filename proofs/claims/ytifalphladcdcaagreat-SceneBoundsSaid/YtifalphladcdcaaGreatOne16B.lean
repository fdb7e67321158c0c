import Derived.Test.YtifalphladcdcaaGreatOne4B
set_option linter.unusedVariables false
set_option linter.unusedSimpArgs false
/- Documents judged by the program: that they are. Conditions: those stated. -/
namespace Go.Proofs.YtifalphladcdcaaGreat.H
open Go Go.VM
set_option maxRecDepth 100000
/-! ### Lists of keys -/
abbrev RK (K : List (List Ky)) : List (List V) := K.map fun k => [V.list 7 (Rn k)]
theorem rK_get (K : List (List Ky)) (i : Nat) : ((RK K)[i]?).bind W23.dec = (K[i]?).map fun k => ⟨Rn k⟩ := by
  simp only [RK, List.getElem?_map]
  cases K[i]? <;> rfl
theorem ik1_loop (K : List (List Ky)) (hk : ∀ k ∈ K, (k.length : Int) < 4611686018427387904) (hl : K.length ≤ 1000) : ∀ (n i : Nat), i ≤ K.length → K.length < n + i →
    L289_0 n (.s0 (.mk (RK K) K.length i)) = some .e1 ∨ ∃ k : Nat, L289_0 n (.s0 (.mk (RK K) K.length i)) = some (.e0 (.mk k))
  | 0, i, h1, h2 => by omega
  | n + 1, i, h1, h2 => by
    rw [L289_0_s0]
    by_cases h : i < K.length
    · have hw : w64 ((i : Int) + 1) = ((i + 1 : Nat) : Int) := by rw [w64_in (by omega) (by omega)]; omega
      have ih := ik1_loop K hk hl n (i + 1) h (by omega)
      obtain ⟨b, e⟩ := kr1 K[i] (hk _ (List.getElem_mem h))
      simp only [D289_0, PT.ev, PT.test, dite_eq_ite, Ws, if_pos (show (i : Int) < (K.length : Int) by omega), if_pos (show (0 : Int) ≤ (i : Int) by omega), Int.toNat_natCast, rK_get, List.getElem?_eq_getElem h, Option.map_some, Option.bind_some, F278, D278, e, hw, N289_0.nx]
      cases b with
      | true => exact ih
      | false => exact .inr ⟨i, rfl⟩
    · simp only [D289_0, PT.ev, PT.test, dite_eq_ite, Ws, if_neg (show ¬ (i : Int) < (K.length : Int) by omega), N289_0.nx]
      first
        | exact .inl trivial
        | exact .inl rfl
theorem ck1 (K : List (List Ky)) (hk : ∀ k ∈ K, (k.length : Int) < 4611686018427387904) (hl : K.length ≤ 1000) : ∃ b, F276 (RK K) = some (.a0 b) := by
  have h := ik1_loop K hk hl 18446744073709551616 0 (by omega) (by omega)
  rw [show ((0 : Nat) : Int) = 0 from rfl] at h
  have e : (RK K).length = K.length := List.length_map ..
  simp only [F276, D276, F289, D289, PT.ev, PT.test, dite_eq_ite, Ws, e]
  rcases h with h1 | ⟨k, h1⟩ <;> rw [h1] <;> exact ⟨_, rfl⟩
/-! ### Lists that are the same -/
theorem ek1_loop (xs ys : List Ky) (hl : xs.length = ys.length) (hb : (xs.length : Int) < 4611686018427387904) : ∀ (n i : Nat), i ≤ xs.length → xs.length < n + i → Two .e1 .e0 (L290_0 n (.s0 (.mk (Rn xs) (Rn ys) xs.length i)))
  | 0, i, h1, h2 => by omega
  | n + 1, i, h1, h2 => by
    rw [L290_0_s0]
    by_cases h : i < xs.length
    · have hw : w64 ((i : Int) + 1) = ((i + 1 : Nat) : Int) := by rw [w64_in (by omega) (by omega)]; omega
      have h' : i < ys.length := by omega
      have ih := ek1_loop xs ys hl hb n (i + 1) h (by omega)
      simp only [D290_0, PT.ev, PT.test, dite_eq_ite, Ws, if_pos (show (i : Int) < (xs.length : Int) by omega), if_pos (show (0 : Int) ≤ (i : Int) by omega), Int.toNat_natCast, rn_get, List.getElem?_eq_getElem h, List.getElem?_eq_getElem h', Option.bind_some, hw, N290_0.nx]
      split
      · exact .inr rfl
      · exact ih
    · simp only [D290_0, PT.ev, PT.test, dite_eq_ite, Ws, if_neg (show ¬ (i : Int) < (xs.length : Int) by omega), N290_0.nx]
      exact .inl rfl
theorem ek1 (xs ys : List Ky) (hb : (xs.length : Int) < 4611686018427387904) : ∃ b, F290 (Rn xs) (Rn ys) = some (.a0 b) := by
  simp only [F290, D290, PT.ev, PT.test, dite_eq_ite, Ws, rn_len]
  by_cases c : ((xs.length : Int) != (ys.length : Int)) = true
  · rw [if_pos c]; exact ⟨_, rfl⟩
  · rw [if_neg c]
    have hl : xs.length = ys.length := by
      rw [bne_iff_ne, Decidable.not_not] at c; omega
    have h := ek1_loop xs ys hl hb 18446744073709551616 0 (by omega) (by omega)
    rw [show ((0 : Nat) : Int) = 0 from rfl] at h
    rcases h with h1 | h1 <;> rw [h1] <;> exact ⟨_, rfl⟩
theorem ec1_loop (xs ys : List Ck) (hl : xs.length = ys.length) (hb : (xs.length : Int) < 4611686018427387904) : ∀ (n i : Nat), i ≤ xs.length → xs.length < n + i → Two .e1 .e0 (L292_0 n (.s0 (.mk (Rc xs) (Rc ys) xs.length i)))
  | 0, i, h1, h2 => by omega
  | n + 1, i, h1, h2 => by
    rw [L292_0_s0]
    by_cases h : i < xs.length
    · have hw : w64 ((i : Int) + 1) = ((i + 1 : Nat) : Int) := by rw [w64_in (by omega) (by omega)]; omega
      have h' : i < ys.length := by omega
      have ih := ec1_loop xs ys hl hb n (i + 1) h (by omega)
      simp only [D292_0, PT.ev, PT.test, dite_eq_ite, Ws, if_pos (show (i : Int) < (xs.length : Int) by omega), if_pos (show (0 : Int) ≤ (i : Int) by omega), Int.toNat_natCast, rc_get, List.getElem?_eq_getElem h, List.getElem?_eq_getElem h', Option.bind_some, hw, N292_0.nx]
      split
      · exact .inr rfl
      · exact ih
    · simp only [D292_0, PT.ev, PT.test, dite_eq_ite, Ws, if_neg (show ¬ (i : Int) < (xs.length : Int) by omega), N292_0.nx]
      exact .inl rfl
theorem ec1 (xs ys : List Ck) (hb : (xs.length : Int) < 4611686018427387904) : ∃ b, F292 (Rc xs) (Rc ys) = some (.a0 b) := by
  simp only [F292, D292, PT.ev, PT.test, dite_eq_ite, Ws, rc_len]
  by_cases c : ((xs.length : Int) != (ys.length : Int)) = true
  · rw [if_pos c]; exact ⟨_, rfl⟩
  · rw [if_neg c]
    have hl : xs.length = ys.length := by
      rw [bne_iff_ne, Decidable.not_not] at c; omega
    have h := ec1_loop xs ys hl hb 18446744073709551616 0 (by omega) (by omega)
    rw [show ((0 : Nat) : Int) = 0 from rfl] at h
    rcases h with h1 | h1 <;> rw [h1] <;> exact ⟨_, rfl⟩
theorem ed1_loop (xs ys : List Dn) (hl : xs.length = ys.length) (hb : (xs.length : Int) < 4611686018427387904) : ∀ (n i : Nat), i ≤ xs.length → xs.length < n + i → Two .e1 .e0 (L293_0 n (.s0 (.mk (Rd xs) (Rd ys) xs.length i)))
  | 0, i, h1, h2 => by omega
  | n + 1, i, h1, h2 => by
    rw [L293_0_s0]
    by_cases h : i < xs.length
    · have hw : w64 ((i : Int) + 1) = ((i + 1 : Nat) : Int) := by rw [w64_in (by omega) (by omega)]; omega
      have h' : i < ys.length := by omega
      have ih := ed1_loop xs ys hl hb n (i + 1) h (by omega)
      simp only [D293_0, PT.ev, PT.test, dite_eq_ite, Ws, if_pos (show (i : Int) < (xs.length : Int) by omega), if_pos (show (0 : Int) ≤ (i : Int) by omega), Int.toNat_natCast, rd_get, List.getElem?_eq_getElem h, List.getElem?_eq_getElem h', Option.bind_some, hw, N293_0.nx]
      split
      · exact .inr rfl
      · exact ih
    · simp only [D293_0, PT.ev, PT.test, dite_eq_ite, Ws, if_neg (show ¬ (i : Int) < (xs.length : Int) by omega), N293_0.nx]
      exact .inl rfl
theorem ed1 (xs ys : List Dn) (hb : (xs.length : Int) < 4611686018427387904) : ∃ b, F293 (Rd xs) (Rd ys) = some (.a0 b) := by
  simp only [F293, D293, PT.ev, PT.test, dite_eq_ite, Ws, rd_len]
  by_cases c : ((xs.length : Int) != (ys.length : Int)) = true
  · rw [if_pos c]; exact ⟨_, rfl⟩
  · rw [if_neg c]
    have hl : xs.length = ys.length := by
      rw [bne_iff_ne, Decidable.not_not] at c; omega
    have h := ed1_loop xs ys hl hb 18446744073709551616 0 (by omega) (by omega)
    rw [show ((0 : Nat) : Int) = 0 from rfl] at h
    rcases h with h1 | h1 <;> rw [h1] <;> exact ⟨_, rfl⟩
theorem pk2 (x y : PK) (hx : Gw x) (hy : Gw y) : ∃ b, F298 x.c0 x.c1 x.c2 x.c3 x.c4 x.c5 x.c6 x.c7 y.c0 y.c1 y.c2 y.c3 y.c4 y.c5 y.c6 y.c7 = some (.a0 b) := by
  obtain ⟨ps, e1, e2⟩ := hx.ps
  obtain ⟨qs, f1, f2⟩ := hy.ps
  simp only [F298, D298, PT.ev, PT.test, dite_eq_ite, Ws, e1, f1, qsame _ ps _ qs (by omega), Option.bind_some]
  repeat' split
  all_goals exact ⟨_, rfl⟩
theorem ep1_loop (xs ys : List PK) (hx : ∀ k ∈ xs, Gw k) (hy : ∀ k ∈ ys, Gw k) (hl : xs.length = ys.length) (hb : (xs.length : Int) < 4611686018427387904) : ∀ (n i : Nat), i ≤ xs.length → xs.length < n + i → Two .e1 .e0 (L297_0 n (.s0 (.mk (Rk ys) (Rk xs) xs.length i)))
  | 0, i, h1, h2 => by omega
  | n + 1, i, h1, h2 => by
    rw [L297_0_s0]
    by_cases h : i < xs.length
    · have hw : w64 ((i : Int) + 1) = ((i + 1 : Nat) : Int) := by rw [w64_in (by omega) (by omega)]; omega
      have h' : i < ys.length := by omega
      have ih := ep1_loop xs ys hx hy hl hb n (i + 1) h (by omega)
      obtain ⟨b, e⟩ := pk2 xs[i] ys[i] (hx _ (List.getElem_mem h)) (hy _ (List.getElem_mem h'))
      simp only [D297_0, PT.ev, PT.test, dite_eq_ite, Ws, if_pos (show (i : Int) < (xs.length : Int) by omega), if_pos (show (0 : Int) ≤ (i : Int) by omega), Int.toNat_natCast, rk_get, List.getElem?_eq_getElem h, List.getElem?_eq_getElem h', Option.bind_some, e, hw, N297_0.nx]
      split
      · exact .inr rfl
      · exact ih
    · simp only [D297_0, PT.ev, PT.test, dite_eq_ite, Ws, if_neg (show ¬ (i : Int) < (xs.length : Int) by omega), N297_0.nx]
      exact .inl rfl
theorem ep1 (xs ys : List PK) (hx : ∀ k ∈ xs, Gw k) (hy : ∀ k ∈ ys, Gw k) (hb : (xs.length : Int) < 4611686018427387904) : ∃ b, F291 (Rk xs) (Rk ys) = some (.a0 b) := by
  simp only [F291, D291, F297, D297, PT.ev, PT.test, dite_eq_ite, Ws, rk_len]
  by_cases c : ((xs.length : Int) != (ys.length : Int)) = true
  · rw [if_pos c]; exact ⟨_, rfl⟩
  · rw [if_neg c]
    have hl : xs.length = ys.length := by
      rw [bne_iff_ne, Decidable.not_not] at c; omega
    have h := ep1_loop xs ys hx hy hl hb 18446744073709551616 0 (by omega) (by omega)
    rw [show ((0 : Nat) : Int) = 0 from rfl] at h
    rcases h with h1 | h1 <;> rw [h1] <;> exact ⟨_, rfl⟩
theorem ss_r1 (a d : W34) : ∃ b, J279_r1 (.mk a d) = some (.e0 (.mk b a d)) := by
  simp only [J279_r1, D279_r1, PT.ev, PT.test, dite_eq_ite, Ws]
  repeat' split
  all_goals exact ⟨_, rfl⟩
theorem ss_r2 (f : Bool) (s r : Shp) (g : Gr s) : ∃ b, J279_r2 (.mk f (Ws s) (Ws r)) = some (.e0 (.mk f b (Ws s) (Ws r))) := by
  obtain ⟨b1, e1⟩ := ek1 s.w r.w g.w
  obtain ⟨b2, e2⟩ := ek1 s.h r.h g.h
  obtain ⟨b3, e3⟩ := ek1 s.wd r.wd g.wd
  obtain ⟨b4, e4⟩ := ek1 s.fr r.fr g.fr
  obtain ⟨b5, e5⟩ := ek1 s.to_ r.to_ g.to_
  simp only [J279_r2, D279_r2, PT.ev, PT.test, dite_eq_ite, Ws, e1, e2, e3, e4, e5, Option.bind_some]
  repeat' split
  all_goals exact ⟨_, rfl⟩
theorem ss1 (s r : Shp) (g : Gr s) (g' : Gr r) : ∃ b, F279 (Ws s) (Ws r) = some (.a0 b) := by
  obtain ⟨b1, e1⟩ := ss_r1 (Ws s) (Ws r)
  obtain ⟨b2, e2⟩ := ss_r2 b1 s r g
  obtain ⟨b3, e3⟩ := ep1 s.ps r.ps g.gw g'.gw g.ps
  obtain ⟨b4, e4⟩ := ec1 s.cs r.cs g.cs
  obtain ⟨b5, e5⟩ := ed1 s.ds r.ds g.ds
  simp only [F279, D279, PT.ev, PT.test, dite_eq_ite]
  rw [e1]
  simp only [Option.bind_some]
  rw [e2]
  simp only [Option.bind_some, PT.ev, PT.test, dite_eq_ite, e3, e4, e5]
  repeat' split
  all_goals exact ⟨_, rfl⟩
theorem paint1 (z1 z2 z3 z4 z5 z6 z7 z8 z9 z10 z11 z12 z13 z14 : Int) : ∃ b, F280 z1 z2 z3 z4 z5 z6 z7 z8 z9 z10 z11 z12 z13 z14 = some (.a0 b) := by
  simp only [F280, D280, J280_r1, D280_r1, PT.ev, PT.test, dite_eq_ite, Ws, bnd_def]
  cases F294 z10 <;> cases F294 z11 <;> cases F294 z12 <;> cases F294 z13 <;> simp only [if_true, Bool.false_eq_true, if_false, Option.bind_some, PT.ev, PT.test, dite_eq_ite, Ws, bnd_def] <;> (repeat' split) <;> exact ⟨_, rfl⟩
end Go.Proofs.YtifalphladcdcaaGreat.H

/- Layers, trees, documents judged by the program: that they are. Conditions: those stated. -/
namespace Go.Proofs.YtifalphladcdcaaGreat.H
open Go Go.VM
set_option maxRecDepth 100000
/-- A layer whose lists are short. -/
structure Lq (l : Ly) : Prop where
  sm : Sm l
  sr : Gr l.s
  mp : (l.mp.length : Int) < 4611686018427387904
theorem Gr.sh0 : Gr sh0 := ⟨by decide, by decide, by decide, fun k hk => absurd hk List.not_mem_nil, by decide, by decide, by decide, by decide, by decide⟩
theorem dl_r1 (a : W57) : ∃ b, J253_r1 (.mk a) = some (.e0 (.mk b a)) := by
  simp only [J253_r1, D253_r1, PT.ev, PT.test, dite_eq_ite]
  repeat' split
  all_goals exact ⟨_, rfl⟩
theorem dl_r2 (x : Bool) (a : W57) : ∃ b, J253_r2 (.mk x a) = some (.e0 (.mk x b a)) := by
  simp only [J253_r2, D253_r2, PT.ev, PT.test, dite_eq_ite, bnd_def]
  repeat' split
  all_goals exact ⟨_, rfl⟩
theorem dl_r3 (x y : Bool) (l : Ly) (g : Lq l) : ∃ b, J253_r3 (.mk x y (Wl l)) = some (.e0 (.mk x y b (Wl l))) := by
  have e := qright l.mc l.mp g.mp
  simp only [J253_r3, D253_r3, PT.ev, PT.test, dite_eq_ite, bnd_def, e, Option.bind_some]
  repeat' split
  all_goals exact ⟨_, rfl⟩
theorem dl_r4 (x y z : Bool) (l : Ly) (g : Lq l) : ∃ b, J253_r4 (.mk x y z (Wl l)) = some (.e0 (.mk b (Wl l))) := by
  have s := g.sm
  obtain ⟨b, e⟩ := ck1 [l.x, l.y, l.ax, l.ay, l.sx, l.sy, l.tu, l.op, l.re] (fun k hk => by
    simp only [List.mem_cons, List.not_mem_nil, or_false] at hk
    rcases hk with rfl | rfl | rfl | rfl | rfl | rfl | rfl | rfl | rfl
    · exact s.x
    · exact s.y
    · exact s.ax
    · exact s.ay
    · exact s.sx
    · exact s.sy
    · exact s.tu
    · exact s.op
    · exact s.re) (by show 9 ≤ 1000; decide)
  have e' : F276 (List.take 9 [[V.list 7 (Rn l.x)], [V.list 7 (Rn l.y)], [V.list 7 (Rn l.ax)], [V.list 7 (Rn l.ay)], [V.list 7 (Rn l.sx)], [V.list 7 (Rn l.sy)], [V.list 7 (Rn l.tu)], [V.list 7 (Rn l.op)], [V.list 7 (Rn l.re)]]) = some (.a0 b) := e
  simp only [J253_r4, D253_r4, PT.ev, PT.test, dite_eq_ite, F277, D277, Option.bind_some, e', List.length_cons, List.length_nil, Nat.zero_add, Nat.reduceAdd, Nat.le_refl, if_true]
  repeat' split
  all_goals exact ⟨_, rfl⟩
theorem dl1 (l : Ly) (g : Lq l) : ∃ b, F253 (Wl l) = some (.a0 b) := by
  obtain ⟨b1, e1⟩ := dl_r1 (Wl l)
  obtain ⟨b2, e2⟩ := dl_r2 b1 (Wl l)
  obtain ⟨b3, e3⟩ := dl_r3 b1 b2 l g
  obtain ⟨b4, e4⟩ := dl_r4 b1 b2 b3 l g
  obtain ⟨b5, e5⟩ := ss1 l.s sh0 g.sr Gr.sh0
  obtain ⟨b6, e6⟩ := sr1 l.s g.sr
  obtain ⟨b7, e7⟩ := paint1 l.s.p0 l.s.p1 l.s.p2 l.s.p3 l.s.p4 l.s.p5 l.s.p6 l.s.p7 l.s.p8 l.s.p9 l.s.p10 l.s.p11 l.s.p12 l.s.p13
  simp only [F253, D253, PT.ev, PT.test, dite_eq_ite]
  rw [e1]
  simp only [Option.bind_some]
  rw [e2]
  simp only [Option.bind_some]
  rw [e3]
  simp only [Option.bind_some]
  rw [e4]
  simp only [Option.bind_some]
  split
  · exact ⟨_, rfl⟩
  · split
    · exact ⟨_, (congrArg (fun o => Option.bind o _) e5).trans rfl⟩
    · split
      · split
        · cases b6 with
          | true => exact ⟨b7, (congrArg (fun o => Option.bind o _) e6).trans (by simp only [Option.bind_some, e7, if_true])⟩
          | false => exact ⟨false, (congrArg (fun o => Option.bind o _) e6).trans rfl⟩
        · exact ⟨_, rfl⟩
      · exact ⟨_, rfl⟩
theorem there1 (a d : Int) : F255 a d = (decide (a ≥ 0) && decide (a < d)) := by
  simp only [F255, D255, PT.evT, PT.test, dite_eq_ite]
  by_cases h : a ≥ 0
  · rw [if_pos h, decide_eq_true h]; rfl
  · rw [if_neg h, decide_eq_false h]; rfl
theorem rg_loop (ls : List Ly) (k : Int) (hl : ls.length ≤ 1000000) : ∀ (n j : Nat) (at_ : Int), j ≤ ls.length → ls.length < n + j →
    L281_0 n (.s0 (.mk k at_ ls.length j (Rl ls))) = some .e1 ∨ ∃ b, L281_0 n (.s0 (.mk k at_ ls.length j (Rl ls))) = some (.e0 (.mk b))
  | 0, j, at_, h1, h2 => by omega
  | n + 1, j, at_, h1, h2 => by
    rw [L281_0_s0]
    by_cases h : j < ls.length
    · have hw : w64 ((j : Int) + 1) = ((j + 1 : Nat) : Int) := by rw [w64_in (by omega) (by omega)]; omega
      simp only [D281_0, PT.ev, PT.test, dite_eq_ite, bnd_def, there1, rl_len, if_pos (show (j : Int) < (ls.length : Int) by omega), N281_0.nx]
      by_cases c : (at_ == k) = true
      · rw [if_pos c]; exact .inr ⟨_, rfl⟩
      · rw [if_neg c]
        by_cases c1 : at_ ≥ 0
        · by_cases c2 : at_ < (ls.length : Int)
          · have hi : at_.toNat < ls.length := by omega
            simp only [decide_eq_true c1, decide_eq_true c2, Bool.and_self, Bool.not_true, Bool.false_eq_true, if_false, if_pos (show 0 ≤ at_ from c1), rl_get, List.getElem?_eq_getElem hi, Option.map_some, Option.bind_some, hw]
            exact rg_loop ls k hl n (j + 1) _ h (by omega)
          · simp only [decide_eq_false c2, Bool.and_false, Bool.not_false, if_true]
            exact .inr ⟨_, rfl⟩
        · simp only [decide_eq_false c1, Bool.false_and, Bool.not_false, if_true]
          exact .inr ⟨_, rfl⟩
    · simp only [D281_0, PT.ev, PT.test, dite_eq_ite, if_neg (show ¬ (j : Int) < (ls.length : Int) by omega), N281_0.nx]
      first
        | exact .inl trivial
        | exact .inl rfl
theorem rg1 (ls : List Ly) (hl : ls.length ≤ 1000000) (k : Nat) (hk : k < ls.length) : ∃ b, F281 (Rl ls) k = some (.a0 b) := by
  have h := rg_loop ls k hl 18446744073709551616 0 ls[k].par (by omega) (by omega)
  rw [show ((0 : Nat) : Int) = 0 from rfl] at h
  simp only [F281, D281, PT.ev, PT.test, dite_eq_ite, rl_len, if_pos (show (0 : Int) ≤ (k : Int) by omega), Int.toNat_natCast, rl_get, List.getElem?_eq_getElem hk, Option.map_some, Option.bind_some]
  rcases h with h1 | ⟨b, h1⟩ <;> rw [h1] <;> exact ⟨_, rfl⟩
theorem tr_r3 (c k z1 z2 : Int) (X : List (List V)) (ls : List Ly) (a : W57) : ∃ b, J254_r3 (.mk c k z1 z2 X (Rl ls) a) = some (.e0 (.mk c k b z1 z2 X (Rl ls) a)) := by
  simp only [J254_r3, D254_r3, PT.ev, PT.test, dite_eq_ite, bnd_def]
  repeat' split
  all_goals exact ⟨_, rfl⟩
theorem tr_r6 (c z1 z2 : Int) (X : List (List V)) (ls : List Ly) (hl : ls.length ≤ 1000000) (k : Nat) (hk : k < ls.length) (a : W57) : ∃ b, J254_r6 (.mk c k z1 z2 X (Rl ls) a) = some (.e0 (.mk c b z1 z2 X a)) := by
  simp only [J254_r6, D254_r6, PT.ev, PT.test, dite_eq_ite]
  by_cases h : (a.c3 != 0) = true
  · rw [if_pos h]
    by_cases hz : ((k : Int) == 0) = true
    · rw [if_pos hz]; exact ⟨_, rfl⟩
    · have hk0 : 0 < k := by
        rw [beq_iff_eq] at hz; omega
      have hw : w64 ((k : Int) - 1) = ((k - 1 : Nat) : Int) := by rw [w64_in (by omega) (by omega)]; omega
      rw [if_neg hz, hw, if_pos (by omega), Int.toNat_natCast, rl_get, List.getElem?_eq_getElem (by omega)]
      exact ⟨_, rfl⟩
  · rw [if_neg h]; exact ⟨_, rfl⟩
theorem tree1 (C : List (List Ly)) (hC : ∀ c ∈ C, c.length ≤ 1000000) (i o : Int) (c k : Nat) (hc : c < C.length) (hk : k < C[c].length) : ∃ b, F254 i o (Rcs C) c k = some (.a0 b) := by
  have hl := hC _ (List.getElem_mem hc)
  generalize hls : C[c] = ls at *
  obtain ⟨b1, e1⟩ := rg1 ls hl k hk
  obtain ⟨b2, e2⟩ := tr_r3 c k i o (Rcs C) ls (Wl ls[k])
  obtain ⟨b3, e3⟩ := tr_r6 c i o (Rcs C) ls hl k hk (Wl ls[k])
  have eb : J254_b0 (.mk c k i o (Rcs C) (Rl ls) (Wl ls[k])) = some .e0 ∨ J254_b0 (.mk c k i o (Rcs C) (Rl ls) (Wl ls[k])) = some (.e1 (.mk c i o (Rcs C) (Wl ls[k]))) := by
    simp only [J254_b0, D254_b0, PT.ev, PT.test, dite_eq_ite]
    rw [e2]
    simp only [Option.bind_some, PT.ev, e1]
    cases b2 with
    | true => exact .inl rfl
    | false =>
      cases b1 with
      | true => exact .inl rfl
      | false =>
        simp only [Bool.false_eq_true, if_false]
        rw [e3]
        cases b3 with
        | true => exact .inl rfl
        | false => exact .inr rfl
  simp only [F254, D254, PT.ev, PT.test, dite_eq_ite, if_pos (show (0 : Int) ≤ (c : Int) by omega), if_pos (show (0 : Int) ≤ (k : Int) by omega), Int.toNat_natCast, rcs_get, List.getElem?_eq_getElem hc, hls, Option.map_some, Option.bind_some, rl_get, List.getElem?_eq_getElem hk]
  rcases eb with h | h <;> rw [h] <;> simp only [Option.bind_some, PT.ev, bnd_def] <;> (repeat' split) <;> exact ⟨_, rfl⟩
/-- Comps whose layers are few, and short. -/
structure Cq (C : List (List Ly)) : Prop where
  len : C.length ≤ 1000000
  ly : ∀ c ∈ C, c.length ≤ 1000000 ∧ ∀ l ∈ c, Lq l
theorem lay_in (C : List (List Ly)) (g : Cq C) (i o : Int) (c : Nat) (hc : c < C.length) : ∀ (n k : Nat), k ≤ C[c].length → C[c].length < n + k →
    (∃ z, L215_2 n (.s0 (.mk c (Rcs C) C.length (Rl C[c]) C[c].length k i o)) = some (.e0 (.mk z))) ∨ L215_2 n (.s0 (.mk c (Rcs C) C.length (Rl C[c]) C[c].length k i o)) = some (.e1 (.mk (Rcs C) C.length c i o))
  | 0, k, h1, h2 => by omega
  | n + 1, k, h1, h2 => by
    rw [L215_2_s0]
    obtain ⟨gl, gy⟩ := g.ly _ (List.getElem_mem hc)
    by_cases h : k < C[c].length
    · have hw : w64 ((k : Int) + 1) = ((k + 1 : Nat) : Int) := by rw [w64_in (by omega) (by omega)]; omega
      obtain ⟨b1, e1⟩ := dl1 (C[c][k]) (gy _ (List.getElem_mem h))
      obtain ⟨b2, e2⟩ := tree1 C (fun c hc => (g.ly c hc).1) i o c k hc h
      have ih := lay_in C g i o c hc n (k + 1) h (by omega)
      simp only [D215_2, PT.ev, PT.test, dite_eq_ite, if_pos (show (k : Int) < (C[c].length : Int) by omega), if_pos (show (0 : Int) ≤ (k : Int) by omega), Int.toNat_natCast, rl_get, List.getElem?_eq_getElem h, Option.map_some, Option.bind_some, e2, hw, N215_2.nx, N215_2.nx]
      cases b1 with
      | false => exact .inl ⟨14, (congrArg (fun o => Option.bind o _) e1).trans rfl⟩
      | true =>
        cases b2 with
        | false => exact .inl ⟨15, (congrArg (fun o => Option.bind o _) e1).trans rfl⟩
        | true =>
          rcases ih with ⟨z, ih⟩ | ih
          · exact .inl ⟨z, (congrArg (fun o => Option.bind o _) e1).trans ih⟩
          · exact .inr ((congrArg (fun o => Option.bind o _) e1).trans ih)
    · simp only [D215_2, PT.ev, PT.test, dite_eq_ite, if_neg (show ¬ (k : Int) < (C[c].length : Int) by omega), N215_2.nx]
      first
        | exact .inr trivial
        | exact .inr rfl
theorem lay_out (C : List (List Ly)) (g : Cq C) (i o : Int) : ∀ (n c : Nat), c ≤ C.length → C.length < n + c →
    (∃ z, L215_0 n (.s0 (.mk (Rcs C) C.length c i o)) = some (.e0 (.mk z))) ∨ L215_0 n (.s0 (.mk (Rcs C) C.length c i o)) = some .e1
  | 0, c, h1, h2 => by omega
  | n + 1, c, h1, h2 => by
    rw [L215_0_s0]
    have hl := g.len
    by_cases h : c < C.length
    · have hw : w64 ((c : Int) + 1) = ((c + 1 : Nat) : Int) := by rw [w64_in (by omega) (by omega)]; omega
      obtain ⟨gl, gy⟩ := g.ly _ (List.getElem_mem h)
      have inn := lay_in C g i o c h 18446744073709551616 0 (by omega) (by omega)
      rw [show ((0 : Nat) : Int) = 0 from rfl] at inn
      have ih := lay_out C g i o n (c + 1) h (by omega)
      simp only [D215_0, PT.ev, PT.test, dite_eq_ite, if_pos (show (c : Int) < (C.length : Int) by omega), if_pos (show (0 : Int) ≤ (c : Int) by omega), Int.toNat_natCast, rcs_get, List.getElem?_eq_getElem h, Option.map_some, Option.bind_some, rl_len, hw, N215_0.nx, N215_0.nx]
      rcases inn with ⟨z, e⟩ | e <;> rw [e]
      · exact .inl ⟨z, rfl⟩
      · simp only [Option.bind_some, PT.ev, PT.test, dite_eq_ite, hw, N215_0.nx]
        exact ih
    · simp only [D215_0, PT.ev, PT.test, dite_eq_ite, if_neg (show ¬ (c : Int) < (C.length : Int) by omega), N215_0.nx]
      first
        | exact .inr trivial
        | exact .inr rfl
theorem lys1 (C : List (List Ly)) (g : Cq C) (i o : Int) : ∃ z, F215 i o (Rcs C) = some (.a0 z) := by
  have hl := g.len
  have h := lay_out C g i o 18446744073709551616 0 (by omega) (by omega)
  rw [show ((0 : Nat) : Int) = 0 from rfl] at h
  simp only [F215, D215, PT.ev, PT.test, dite_eq_ite, rcs_len]
  rcases h with ⟨z, e⟩ | e <;> rw [e] <;> exact ⟨_, rfl⟩
end Go.Proofs.YtifalphladcdcaaGreat.H

/- Counts of documents, and whether they may be, by the program. Conditions: those stated. -/
namespace Go.Proofs.YtifalphladcdcaaGreat.H
open Go Go.VM
set_option maxRecDepth 100000
theorem rt_set (ns : List W3) (k : Nat) (u : Int) : List.set (Rt ns) k [i64 u] = Rt (ns.set k ⟨u⟩) := by rw [Rt, Rt, List.map_set]
theorem rt_rep (n : Nat) : List.replicate n [i64 0] = Rt (List.replicate n ⟨0⟩) := by rw [Rt, List.map_replicate]
theorem sft1 (C : List (List Ly)) (g : Cq C) : ∃ b, F212 (Rcs C) = some (.a0 b) := by
  have loop : ∀ (n i : Nat), i ≤ C.length → C.length < n + i → L252_0 n (.s0 (.mk (Rcs C) C.length i)) = some .e1 ∨ ∃ k : Int, L252_0 n (.s0 (.mk (Rcs C) C.length i)) = some (.e0 (.mk k)) := by
    intro n
    induction n with
    | zero => intro i h1 h2; omega
    | succ n ih =>
      intro i h1 h2
      have hl := g.len
      rw [L252_0_s0]
      by_cases h : i < C.length
      · have hw : w64 ((i : Int) + 1) = ((i + 1 : Nat) : Int) := by rw [w64_in (by omega) (by omega)]; omega
        simp only [D252_0, PT.ev, PT.test, dite_eq_ite, bnd_def, if_pos (show (i : Int) < (C.length : Int) by omega), if_pos (show (0 : Int) ≤ (i : Int) by omega), Int.toNat_natCast, rcs_get, List.getElem?_eq_getElem h, Option.map_some, Option.bind_some, hw, N252_0.nx]
        split
        · exact .inr ⟨_, rfl⟩
        · exact ih (i + 1) h (by omega)
      · simp only [D252_0, PT.ev, PT.test, dite_eq_ite, if_neg (show ¬ (i : Int) < (C.length : Int) by omega), N252_0.nx]
        first
          | exact .inl trivial
          | exact .inl rfl
  have hl := g.len
  have h := loop 18446744073709551616 0 (by omega) (by omega)
  rw [show ((0 : Nat) : Int) = 0 from rfl] at h
  simp only [F212, D212, F252, D252, PT.ev, PT.test, dite_eq_ite, rcs_len]
  rcases h with h1 | ⟨k, h1⟩ <;> rw [h1] <;> exact ⟨_, rfl⟩
theorem c_r10 (bg acc i o : Int) (L : Nat) (c k kl : Int) (P X v : List (List V)) (a : W57) : ∃ b, J256_r10 (.mk bg L c acc P kl k i o X v a) = some (.e0 (.mk bg L c acc P kl k b i o X v a)) ∧ (b = true → c < a.c2 ∧ a.c2 < (X.length : Int)) := by
  simp only [J256_r10, D256_r10, PT.ev, PT.test, dite_eq_ite]
  by_cases h1 : (a.c0 == 1) = true
  · by_cases h2 : a.c2 > c
    · rw [if_pos h1, if_pos h2]; exact ⟨_, rfl, fun h => ⟨h2, of_decide_eq_true h⟩⟩
    · rw [if_pos h1, if_neg h2]; exact ⟨_, rfl, fun h => by cases h⟩
  · rw [if_neg h1]; exact ⟨_, rfl, fun h => by cases h⟩
theorem c_in (C : List (List Ly)) (ls : List Ly) (hl : ls.length ≤ 1000000) (bg i o : Int) (ns : List W3) (hns : ns.length = C.length) (c : Nat) : ∀ (n k : Nat) (acc : Int), k ≤ ls.length → ls.length < n + k →
    ∃ r, L256_2 n (.s0 (.mk bg C.length c acc (Rl ls) ls.length k i o (Rcs C) (Rt ns))) = some (.e0 (.mk bg C.length c r i o (Rcs C) (Rt ns)))
  | 0, k, acc, h1, h2 => by omega
  | n + 1, k, acc, h1, h2 => by
    rw [L256_2_s0]
    by_cases h : k < ls.length
    · have hw : w64 ((k : Int) + 1) = ((k + 1 : Nat) : Int) := by rw [w64_in (by omega) (by omega)]; omega
      obtain ⟨b, e, hb⟩ := c_r10 bg acc i o C.length c k ls.length (Rl ls) (Rcs C) (Rt ns) (Wl ls[k])
      have ih := fun acc => c_in C ls hl bg i o ns hns c n (k + 1) acc h (by omega)
      simp only [D256_2, PT.ev, PT.test, dite_eq_ite, if_pos (show (k : Int) < (ls.length : Int) by omega), if_pos (show (0 : Int) ≤ (k : Int) by omega), Int.toNat_natCast, rl_get, List.getElem?_eq_getElem h, Option.map_some, Option.bind_some]
      rw [e]
      simp only [Option.bind_some, PT.ev, PT.test, dite_eq_ite, bnd_def, hw, N256_2.nx]
      cases b with
      | true =>
        obtain ⟨q1, q2⟩ := hb rfl
        rw [rcs_len] at q2
        have hi : (Wl ls[k]).c2.toNat < ns.length := by omega
        simp only [if_true, if_pos (show 0 ≤ (Wl ls[k]).c2 ∧ (Wl ls[k]).c2 < (C.length : Int) by omega), Nat.zero_add, rt_get, List.getElem?_eq_getElem hi, Option.bind_some]
        exact ih _
      | false =>
        simp only [Bool.false_eq_true, if_false]
        exact ih _
    · simp only [D256_2, PT.ev, PT.test, dite_eq_ite, if_neg (show ¬ (k : Int) < (ls.length : Int) by omega), N256_2.nx]
      exact ⟨acc, rfl⟩
theorem c_out (C : List (List Ly)) (g : Cq C) (bg i o : Int) : ∀ (m n : Nat) (ns : List W3), ns.length = C.length → m ≤ C.length → m < n →
    ∃ ns' : List W3, L256_0 n (.s0 (.mk bg C.length ((m : Int) - 1) i o (Rcs C) (Rt ns))) = some (.e0 (.mk C.length (Rt ns'))) ∧ ns'.length = C.length
  | _, 0, _, _, _, h => by omega
  | 0, n + 1, ns, h0, h1, h2 => by
    rw [L256_0_s0]
    simp only [D256_0, PT.ev, PT.test, dite_eq_ite, if_neg (show ¬ (((0 : Nat) : Int) - 1 ≥ 0) by omega), N256_0.nx]
    exact ⟨ns, rfl, h0⟩
  | m + 1, n + 1, ns, h0, h1, h2 => by
    have hg := g.len
    have hm : m < C.length := by omega
    have e : ((m + 1 : Nat) : Int) - 1 = (m : Int) := by omega
    have hw : w64 ((m : Int) - 1) = (m : Int) - 1 := w64_in (by omega) (by omega)
    obtain ⟨r, er⟩ := c_in C C[m] (g.ly _ (List.getElem_mem hm)).1 bg i o ns h0 m 18446744073709551616 0 bg (by omega) (by have := (g.ly _ (List.getElem_mem hm)).1; omega)
    rw [show ((0 : Nat) : Int) = 0 from rfl] at er
    obtain ⟨ns', e1, e2⟩ := c_out C g bg i o m n (ns.set m ⟨r⟩) (by rw [List.length_set]; exact h0) (by omega) (by omega)
    have hmn : m < ns.length := by omega
    rw [L256_0_s0]
    simp only [D256_0, PT.ev, PT.test, dite_eq_ite, e, if_pos (show (m : Int) ≥ 0 by omega), if_pos (show (0 : Int) ≤ (m : Int) by omega), Int.toNat_natCast, rcs_get, List.getElem?_eq_getElem hm, Option.map_some, Option.bind_some, rl_len]
    rw [er]
    simp only [Option.bind_some, PT.ev, PT.test, dite_eq_ite, if_pos (show (0 : Int) ≤ (m : Int) ∧ (m : Int) < (C.length : Int) by omega), Nat.zero_add, Int.toNat_natCast, rt_get, List.getElem?_eq_getElem hmn, rt_set, hw, N256_0.nx]
    exact ⟨ns', e1, e2⟩
theorem c1 (C : List (List Ly)) (g : Cq C) (bg i o : Int) : ∃ ns : List W3, F256 i o (Rcs C) bg = some (.a0 C.length (Rt ns)) ∧ ns.length = C.length := by
  have hg := g.len
  have hw : w64 ((C.length : Int) - 1) = (C.length : Int) - 1 := w64_in (by omega) (by omega)
  obtain ⟨ns, e1, e2⟩ := c_out C g bg i o C.length 18446744073709551616 (List.replicate C.length ⟨0⟩) List.length_replicate (Nat.le_refl _) (by omega)
  simp only [F256, D256, PT.ev, PT.test, dite_eq_ite, rcs_len, if_pos (show 0 ≤ (C.length : Int) ∧ (C.length : Int) ≤ (C.length : Int) ∧ (C.length : Int) ≤ 140737488355328 ∧ (C.length : Int) * 8 ≤ 140737488355328 by omega), Int.toNat_natCast, rt_rep, hw, e1, Option.bind_some]
  exact ⟨ns, rfl, e2⟩
theorem cv1_r10 (bg acc i o : Int) (L : Nat) (c k kl : Int) (P X v : List (List V)) (a : W57) : ∃ b, J256v1_r10 (.mk bg L c acc P kl k i o X v a) = some (.e0 (.mk bg L c acc P kl k b i o X v a)) ∧ (b = true → c < a.c2 ∧ a.c2 < (X.length : Int)) := by
  simp only [J256v1_r10, D256v1_r10, PT.ev, PT.test, dite_eq_ite]
  by_cases h1 : (a.c0 == 1) = true
  · by_cases h2 : a.c2 > c
    · rw [if_pos h1, if_pos h2]; exact ⟨_, rfl, fun h => ⟨h2, of_decide_eq_true h⟩⟩
    · rw [if_pos h1, if_neg h2]; exact ⟨_, rfl, fun h => by cases h⟩
  · rw [if_neg h1]; exact ⟨_, rfl, fun h => by cases h⟩
theorem cv1_in (C : List (List Ly)) (ls : List Ly) (hl : ls.length ≤ 1000000) (bg i o : Int) (ns : List W3) (hns : ns.length = C.length) (c : Nat) : ∀ (n k : Nat) (acc : Int), k ≤ ls.length → ls.length < n + k →
    ∃ r, L256v1_2 n (.s0 (.mk bg C.length c acc (Rl ls) ls.length k i o (Rcs C) (Rt ns))) = some (.e0 (.mk bg C.length c r i o (Rcs C) (Rt ns)))
  | 0, k, acc, h1, h2 => by omega
  | n + 1, k, acc, h1, h2 => by
    rw [L256v1_2_s0]
    by_cases h : k < ls.length
    · have hw : w64 ((k : Int) + 1) = ((k + 1 : Nat) : Int) := by rw [w64_in (by omega) (by omega)]; omega
      obtain ⟨b, e, hb⟩ := cv1_r10 bg acc i o C.length c k ls.length (Rl ls) (Rcs C) (Rt ns) (Wl ls[k])
      have ih := fun acc => cv1_in C ls hl bg i o ns hns c n (k + 1) acc h (by omega)
      simp only [D256v1_2, PT.ev, PT.test, dite_eq_ite, if_pos (show (k : Int) < (ls.length : Int) by omega), if_pos (show (0 : Int) ≤ (k : Int) by omega), Int.toNat_natCast, rl_get, List.getElem?_eq_getElem h, Option.map_some, Option.bind_some]
      rw [e]
      simp only [Option.bind_some, PT.ev, PT.test, dite_eq_ite, bnd_def, hw, N256v1_2.nx]
      cases b with
      | true =>
        obtain ⟨q1, q2⟩ := hb rfl
        rw [rcs_len] at q2
        have hi : (Wl ls[k]).c2.toNat < ns.length := by omega
        simp only [if_true, if_pos (show 0 ≤ (Wl ls[k]).c2 ∧ (Wl ls[k]).c2 < (C.length : Int) by omega), Nat.zero_add, rt_get, List.getElem?_eq_getElem hi, Option.bind_some]
        exact ih _
      | false =>
        simp only [Bool.false_eq_true, if_false]
        exact ih _
    · simp only [D256v1_2, PT.ev, PT.test, dite_eq_ite, if_neg (show ¬ (k : Int) < (ls.length : Int) by omega), N256v1_2.nx]
      exact ⟨acc, rfl⟩
theorem cv1_out (C : List (List Ly)) (g : Cq C) (bg i o : Int) : ∀ (m n : Nat) (ns : List W3), ns.length = C.length → m ≤ C.length → m < n →
    ∃ ns' : List W3, L256v1_0 n (.s0 (.mk bg C.length ((m : Int) - 1) i o (Rcs C) (Rt ns))) = some (.e0 (.mk C.length (Rt ns'))) ∧ ns'.length = C.length
  | _, 0, _, _, _, h => by omega
  | 0, n + 1, ns, h0, h1, h2 => by
    rw [L256v1_0_s0]
    simp only [D256v1_0, PT.ev, PT.test, dite_eq_ite, if_neg (show ¬ (((0 : Nat) : Int) - 1 ≥ 0) by omega), N256v1_0.nx]
    exact ⟨ns, rfl, h0⟩
  | m + 1, n + 1, ns, h0, h1, h2 => by
    have hg := g.len
    have hm : m < C.length := by omega
    have e : ((m + 1 : Nat) : Int) - 1 = (m : Int) := by omega
    have hw : w64 ((m : Int) - 1) = (m : Int) - 1 := w64_in (by omega) (by omega)
    obtain ⟨r, er⟩ := cv1_in C C[m] (g.ly _ (List.getElem_mem hm)).1 bg i o ns h0 m 18446744073709551616 0 bg (by omega) (by have := (g.ly _ (List.getElem_mem hm)).1; omega)
    rw [show ((0 : Nat) : Int) = 0 from rfl] at er
    obtain ⟨ns', e1, e2⟩ := cv1_out C g bg i o m n (ns.set m ⟨r⟩) (by rw [List.length_set]; exact h0) (by omega) (by omega)
    have hmn : m < ns.length := by omega
    rw [L256v1_0_s0]
    simp only [D256v1_0, PT.ev, PT.test, dite_eq_ite, e, if_pos (show (m : Int) ≥ 0 by omega), if_pos (show (0 : Int) ≤ (m : Int) by omega), Int.toNat_natCast, rcs_get, List.getElem?_eq_getElem hm, Option.map_some, Option.bind_some, rl_len]
    rw [er]
    simp only [Option.bind_some, PT.ev, PT.test, dite_eq_ite, if_pos (show (0 : Int) ≤ (m : Int) ∧ (m : Int) < (C.length : Int) by omega), Nat.zero_add, Int.toNat_natCast, rt_get, List.getElem?_eq_getElem hmn, rt_set, hw, N256v1_0.nx]
    exact ⟨ns', e1, e2⟩
theorem cv11 (C : List (List Ly)) (g : Cq C) (bg i o : Int) : ∃ ns : List W3, F256v1 i o (Rcs C) bg = some (.a0 C.length (Rt ns)) ∧ ns.length = C.length := by
  have hg := g.len
  have hw : w64 ((C.length : Int) - 1) = (C.length : Int) - 1 := w64_in (by omega) (by omega)
  obtain ⟨ns, e1, e2⟩ := cv1_out C g bg i o C.length 18446744073709551616 (List.replicate C.length ⟨0⟩) List.length_replicate (Nat.le_refl _) (by omega)
  simp only [F256v1, D256v1, PT.ev, PT.test, dite_eq_ite, rcs_len, if_pos (show 0 ≤ (C.length : Int) ∧ (C.length : Int) ≤ (C.length : Int) ∧ (C.length : Int) ≤ 140737488355328 ∧ (C.length : Int) * 8 ≤ 140737488355328 by omega), Int.toNat_natCast, rt_rep, hw, e1, Option.bind_some]
  exact ⟨ns, rfl, e2⟩
theorem deep1 (C : List (List Ly)) (g : Cq C) (i o : Int) : ∃ z, F216 i o (Rcs C) 0 = some (.a0 z) := by
  obtain ⟨ns, e1, e2⟩ := c1 C g 1 i o
  simp only [F216, D216, PT.ev, PT.test, dite_eq_ite, bnd_def, there1, rcs_len, e1, Option.bind_some]
  by_cases h : (0 : Int) < (C.length : Int)
  · have hz : 0 < ns.length := by omega
    simp only [decide_eq_true h, show decide ((0 : Int) ≥ 0) = true from rfl, Bool.and_self, Bool.not_true, Bool.false_eq_true, if_false, if_pos (show (0 : Int) ≤ 0 ∧ (0 : Int) < (C.length : Int) from ⟨by decide, h⟩), Nat.zero_add, Int.toNat_zero, rt_get, List.getElem?_eq_getElem hz, Option.bind_some]
    exact ⟨_, rfl⟩
  · simp only [decide_eq_false h, Bool.and_false, Bool.not_false, if_true]
    exact ⟨_, rfl⟩
theorem nodes1 (C : List (List Ly)) (g : Cq C) (i o : Int) : ∃ z, F217 i o (Rcs C) 0 = some (.a0 z) := by
  obtain ⟨ns, e1, e2⟩ := cv11 C g 0 i o
  simp only [F217, D217, PT.ev, PT.test, dite_eq_ite, bnd_def, there1, rcs_len, e1, Option.bind_some]
  by_cases h : (0 : Int) < (C.length : Int)
  · have hz : 0 < ns.length := by omega
    simp only [decide_eq_true h, show decide ((0 : Int) ≥ 0) = true from rfl, Bool.and_self, Bool.not_true, Bool.false_eq_true, if_false, if_pos (show (0 : Int) ≤ 0 ∧ (0 : Int) < (C.length : Int) from ⟨by decide, h⟩), Nat.zero_add, Int.toNat_zero, rt_get, List.getElem?_eq_getElem hz, Option.bind_some]
    exact ⟨_, rfl⟩
  · simp only [decide_eq_false h, Bool.and_false, Bool.not_false, if_true]
    exact ⟨_, rfl⟩
theorem dr_r2 (x : Bool) (i o : Int) (X : List (List V)) : ∃ b, J157_r2 (.mk x i o X) = some (.e0 (.mk b i o X)) := by
  simp only [J157_r2, D157_r2, PT.ev, PT.test, dite_eq_ite]
  repeat' split
  all_goals exact ⟨_, rfl⟩
theorem dr_r4 (i o : Int) (X : List (List V)) : ∃ b, J157_r4 (.mk i o X) = some (.e0 (.mk b i o X)) := by
  simp only [J157_r4, D157_r4, PT.ev, PT.test, dite_eq_ite, bnd_def]
  repeat' split
  all_goals exact ⟨_, rfl⟩
/-- A document is judged. -/
theorem doc1 (C : List (List Ly)) (g : Cq C) (i o : Int) : ∃ z, F157 i o (Rcs C) = some (.a0 z) := by
  obtain ⟨b1, e1⟩ := sft1 C g
  obtain ⟨b2, e2⟩ := dr_r2 b1 i o (Rcs C)
  obtain ⟨b3, e3⟩ := dr_r4 i o (Rcs C)
  obtain ⟨z4, e4⟩ := lys1 C g i o
  obtain ⟨z5, e5⟩ := deep1 C g i o
  obtain ⟨z6, e6⟩ := nodes1 C g i o
  simp only [F157, D157, PT.ev, PT.test, dite_eq_ite, e1, Option.bind_some]
  rw [e2]
  simp only [Option.bind_some, PT.ev]
  rw [e3]
  simp only [Option.bind_some, PT.ev, PT.test, dite_eq_ite, e4, e5, e6]
  repeat' split
  all_goals exact ⟨_, rfl⟩
end Go.Proofs.YtifalphladcdcaaGreat.H

/- Display lists by the program: that they are, and how deep. Conditions: those stated. -/
namespace Go.Proofs.YtifalphladcdcaaGreat.H
open Go Go.VM
set_option maxRecDepth 100000
abbrev Nd := W87
abbrev Rnd (ns : List Nd) : List (List V) := ns.map W87.cells
theorem rnd_len (ns : List Nd) : (Rnd ns).length = ns.length := List.length_map ..
theorem rnd_get (ns : List Nd) (i : Nat) : ((Rnd ns)[i]?).bind W87.dec = ns[i]? := by
  simp only [Rnd, List.getElem?_map]
  cases ns[i]? with
  | none => rfl
  | some x => exact W87.dec_cells x
theorem rnd_all (ns : List Nd) : List.take ns.length (Rnd ns) = Rnd ns := List.take_of_length_le (by rw [rnd_len]; exact Nat.le_refl _)
/-- Rows that are polys, not too many. -/
def Pq (X : List (List V)) : Prop := ∃ Q : List Po, X = Ro Q ∧ (∀ q ∈ Q, q.p.length ≤ 2000) ∧ Q.length ≤ 1000000
theorem Pf.pq {X : List (List V)} (h : Pf X) : Pq X := by
  obtain ⟨Q, h1, h2, h3⟩ := h
  exact ⟨Q, h1, fun q hq => (h2 q hq).1, h3⟩
theorem Pq.nil : Pq [] := ⟨[], rfl, by simp, by simp⟩
/-- Nodes, no deeper than so many. -/
def Gnd : Nat → List (List V) → Prop
  | 0, X => X = []
  | d + 1, X => ∃ ns : List Nd, X = Rnd ns ∧ ns.length ≤ 4000 ∧ ∀ n ∈ ns, Pq n.c1 ∧ Pq n.c19 ∧ Gnd d n.c18 ∧ Gnd d n.c21
theorem Gnd.nil : ∀ d, Gnd d []
  | 0 => rfl
  | d + 1 => ⟨[], rfl, by simp, by simp⟩
theorem Gnd.inc : ∀ {d : Nat} {X : List (List V)}, Gnd d X → Gnd (d + 1) X
  | 0, X, h => by rw [show X = [] from h]; exact Gnd.nil 1
  | d + 1, X, ⟨ns, h1, h2, h3⟩ => ⟨ns, h1, h2, fun n hn => by
    obtain ⟨a, b, c, e⟩ := h3 n hn
    exact ⟨a, b, c.inc, e.inc⟩⟩
theorem Gnd.le {d : Nat} {X : List (List V)} (h : Gnd d X) : ∀ k, Gnd (d + k) X
  | 0 => h
  | k + 1 => (h.le k).inc
theorem Gnd.mono {d e : Nat} {X : List (List V)} (h : Gnd d X) (k : d ≤ e) : Gnd e X := by
  rw [show e = d + (e - d) by omega]; exact h.le _
theorem Gnd.one {X : List (List V)} {d : Nat} (h : Gnd d X) : ∃ ns : List Nd, X = Rnd ns := by
  cases d with
  | zero => exact ⟨[], h⟩
  | succ d => obtain ⟨ns, h1, _⟩ := h; exact ⟨ns, h1⟩
theorem Gnd.app {d : Nat} {a b : List Nd} (h1 : Gnd (d + 1) (Rnd a)) (h2 : Gnd (d + 1) (Rnd b)) (hl : a.length + b.length ≤ 4000) (ha : ∀ n ∈ a, Pq n.c1 ∧ Pq n.c19 ∧ Gnd d n.c18 ∧ Gnd d n.c21) (hb : ∀ n ∈ b, Pq n.c1 ∧ Pq n.c19 ∧ Gnd d n.c18 ∧ Gnd d n.c21) : Gnd (d + 1) (Rnd (a ++ b)) :=
  ⟨a ++ b, rfl, by rw [List.length_append]; exact hl, fun n hn => (List.mem_append.1 hn).elim (ha n) (hb n)⟩
/-- Nodes told with their number. -/
structure Nl (d m : Nat) (ns : List Nd) : Prop where
  len : ns.length ≤ m
  nd : ∀ n ∈ ns, Pq n.c1 ∧ Pq n.c19 ∧ Gnd d n.c18 ∧ Gnd d n.c21
theorem Nl.gn {d m : Nat} {ns : List Nd} (h : Nl d m ns) (hm : m ≤ 4000) : Gnd (d + 1) (Rnd ns) := ⟨ns, rfl, Nat.le_trans h.len hm, h.nd⟩
theorem Nl.inc {d m : Nat} {ns : List Nd} (h : Nl d m ns) {e k : Nat} (h1 : d ≤ e) (h2 : m ≤ k) : Nl e k ns := ⟨Nat.le_trans h.len h2, fun n hn => by
  obtain ⟨a, b, c, f⟩ := h.nd n hn
  exact ⟨a, b, c.mono h1, f.mono h1⟩⟩
theorem Nl.nil (d m : Nat) : Nl d m [] := ⟨Nat.zero_le _, by simp⟩
abbrev ndi (x : It) : Nd := ⟨false, x.c0, x.c1, x.c2, x.c3, x.c4, x.c5, x.c6, x.c7, x.c8, x.c9, x.c10, x.c11, x.c12, x.c13, x.c14, x.c15, x.c16, [], [], 0, [], 0⟩
theorem rig (xs : List It) (i : Nat) : ((Ri xs)[i]?).bind W85.dec = xs[i]? := by
  simp only [Ri, List.getElem?_map]
  cases xs[i]? with
  | none => rfl
  | some x => exact W85.dec_cells x
theorem in_loop (rF : K158) (hF : H158 rF) (xs : List It) (hx : xs.length ≤ 2) : ∀ (n i : Nat) (acc : List Nd), i ≤ xs.length → xs.length < n + i → acc = (xs.take i).map ndi →
    L259_0 rF hF n (.s0 (.mk acc.length xs.length xs.length i (Rnd acc) (Ri xs))) = some (.e0 (.mk xs.length (Rnd (xs.map ndi))))
  | 0, i, acc, h1, h2, _ => by omega
  | n + 1, i, acc, h1, h2, h3 => by
    rw [L259_0_s0]
    have hla : acc.length = i := by rw [h3, List.length_map, List.length_take]; omega
    by_cases h : i < xs.length
    · have hw : w64 ((i : Int) + 1) = ((i + 1 : Nat) : Int) := by rw [w64_in (by omega) (by omega)]; omega
      have ih := in_loop rF hF xs hx n (i + 1) (acc ++ [ndi xs[i]]) h (by omega) (by rw [h3, List.take_add_one, List.getElem?_eq_getElem h, List.map_append]; rfl)
      have hq : 0 + acc.length ≤ (Rnd acc).length ∧ (acc.length + 1) * 192 ≤ 140737488355328 ∧ acc.length + 1 ≤ 140737488355328 := by rw [rnd_len]; omega
      have hp : List.take acc.length (Rnd acc) ++ [(ndi xs[i]).cells] = Rnd (acc ++ [ndi xs[i]]) := by rw [rnd_all, Rnd, Rnd, List.map_append]; rfl
      simp only [D259_0, PT.ev, PT.test, dite_eq_ite, if_pos (show (i : Int) < (xs.length : Int) by omega), if_pos (show (0 : Int) ≤ (i : Int) ∧ (i : Int) < (xs.length : Int) by omega), Nat.zero_add, Int.toNat_natCast, rig, List.getElem?_eq_getElem h, Option.bind_some]
      rw [Nat.zero_add] at hq
      rw [if_pos hq]
      simp only [hw, N259_0.nx]
      rw [List.length_append, List.length_singleton, ← hp] at ih
      exact ih
    · have e : acc = xs.map ndi := by rw [h3, List.take_of_length_le (by omega)]
      simp only [D259_0, PT.ev, PT.test, dite_eq_ite, if_neg (show ¬ (i : Int) < (xs.length : Int) by omega), N259_0.nx]
      rw [e, List.length_map]
/-- What a list of a comp comes to, ahead. -/
def Lf (C : List (List Ly)) (i o deep : Int) (d m : Nat) (rF : K158) : Prop :=
  ∀ (c : Int) (t : Int) (M : Mt), 0 ≤ c → c < (C.length : Int) → ∃ ns : List Nd, rF i o (Rcs C) c t M deep = some (.a0 ns.length (Rnd ns)) ∧ Nl d m ns
theorem Lq.gm {l : Ly} (g : Lq l) : Gm l.s := ⟨g.sr.w, g.sr.h, g.sr.ps, g.sr.gw⟩
theorem inner1 (C : List (List Ly)) (i o deep : Int) (d m : Nat) (rF : K158) (hF : H158 rF) (hL : Lf C i o (w64 (deep + 1)) d m rF) (hm : 2 ≤ m) (l : Ly) (g : Lq l) (hn : l.kind = 1 → 0 ≤ l.comp ∧ l.comp < (C.length : Int)) (t : Int) (M : Mt) (a : Int) :
    ∃ ns : List Nd, F259 rF hF i o (Rcs C) (Wl l) t M deep a = some (.a0 ns.length (Rnd ns)) ∧ Nl d m ns := by
  by_cases h : l.kind = 1
  · obtain ⟨h1, h2⟩ := hn h
    obtain ⟨ns, e1, e2⟩ := hL l.comp (innerv l t) M h1 h2
    have hk : (l.kind == 1) = true := by rw [beq_iff_eq]; exact h
    simp only [F259, D259, PT.ev, PT.test, dite_eq_ite, if_pos hk, qinner l g.sm, Option.bind_some, e1]
    exact ⟨ns, rfl, e2⟩
  · have hk : ¬ (l.kind == 1) = true := by rw [beq_iff_eq]; exact h
    obtain ⟨xs, e1, e2, e3⟩ := items1 l.s g.gm g.sr.wd g.sr.ds g.sr.cs g.sr.fr g.sr.to_ (F70 (Wl l) t) M a
    have lp := in_loop rF hF xs e2 18446744073709551616 0 [] (by omega) (by omega) rfl
    rw [show ((0 : Nat) : Int) = 0 from rfl, show Rnd [] = [] from rfl, show ([] : List Nd).length = 0 from rfl] at lp
    have lm : (xs.map ndi).length = xs.length := List.length_map ..
    simp only [F259, D259, PT.ev, PT.test, dite_eq_ite, if_neg hk, bnd_def]
    refine ⟨xs.map ndi, (congrArg (fun o => Option.bind o _) e1).trans ?_, ⟨by rw [lm]; omega, fun n hn => by
      obtain ⟨x, hx, rfl⟩ := List.mem_map.1 hn
      exact ⟨(e3 x hx).pq, Pq.nil, Gnd.nil _, Gnd.nil _⟩⟩⟩
    simp only [Option.bind_some, lp, lm, PT.ev]
abbrev ndg (P N M : List (List V)) (how : Int) (a : Int) : Nd := ⟨true, [], 0, 0, 0, 0, 0, 0, 0, 0, 0, 0, 0, 0, 0, 0, 0, 0, N, M, how, P, a⟩
theorem ly_r3 (rF : K158) (hF : H158 rF) (rG : K218) (hG : H218 rG) (k t deep al i o : Int) (X : List (List V)) (ls : List (List V)) (M : Mt) (a : W57) : ∃ b, (J218_r3) rF hF rG hG (.mk k t deep al i o X ls M a) = some (.e0 (.mk k t deep al b i o X ls M a)) := by
  simp only [J218_r3, D218_r3, PT.ev, PT.test, dite_eq_ite, bnd_def]
  repeat' split
  all_goals exact ⟨_, rfl⟩
theorem ly_r6 (rF : K158) (hF : H158 rF) (rG : K218) (hG : H218 rG) (k t deep al i o : Int) (X : List (List V)) (ls : List (List V)) (M : Mt) (a : W57) (own : Mt) : ∃ b, (J218_r6) rF hF rG hG (.mk k t deep al i o X ls M a own) = some (.e0 (.mk k t deep al b i o X ls M a own)) := by
  simp only [J218_r6, D218_r6, PT.ev, PT.test, dite_eq_ite, bnd_def]
  repeat' split
  all_goals exact ⟨_, rfl⟩
theorem layer1 (C : List (List Ly)) (ls : List Ly) (i o t deep : Int) (M : Mt) (d m : Nat) (hm : 2 ≤ m) (hm2 : m ≤ 4000) (rF : K158) (hF : H158 rF) (hL : Lf C i o (w64 (deep + 1)) d m rF)
    (gl : ls.length ≤ 1000000) (gy : ∀ l ∈ ls, Lq l ∧ (l.kind = 1 → 0 ≤ l.comp ∧ l.comp < (C.length : Int))) : ∀ (k n : Nat), k < n → k < ls.length →
    ∃ ns : List Nd, F218 rF hF n i o (Rcs C) (Rl ls) k t M deep = some (.a0 ns.length (Rnd ns)) ∧ Nl (d + 1 + k) m ns
  | k, 0, h, _ => by omega
  | k, n + 1, h, hk => by
    obtain ⟨g, gn⟩ := gy _ (List.getElem_mem hk)
    obtain ⟨b1, r3⟩ := ly_r3 rF hF (F218 rF hF n) (F218_ok rF hF n) k t deep (opacv ls[k] t) i o (Rcs C) (Rl ls) M (Wl ls[k])
    obtain ⟨b2, r6⟩ := ly_r6 rF hF (F218 rF hF n) (F218_ok rF hF n) k t deep (opacv ls[k] t) i o (Rcs C) (Rl ls) M (Wl ls[k]) (aftv M (chainv ls k t))
    have qc := qchain ls (fun l hl => (gy l hl).1.sm) k t
    rw [F218_succ]
    simp only [D218, PT.ev, PT.test, dite_eq_ite, if_pos (show (0 : Int) ≤ (k : Int) by omega), Int.toNat_natCast, rl_get, List.getElem?_eq_getElem hk, Option.map_some, Option.bind_some, qopac ls[k] g.sm]
    rw [r3]
    simp only [Option.bind_some, PT.ev, PT.test, dite_eq_ite, qc, qafter]
    cases b1 with
    | true => exact ⟨[], rfl, Nl.nil _ _⟩
    | false =>
      simp only [Bool.false_eq_true, if_false]
      rw [r6]
      simp only [Option.bind_some, PT.ev, PT.test, dite_eq_ite]
      cases b2 with
      | true =>
        obtain ⟨ns, e1, e2⟩ := inner1 C i o deep d m rF hF hL hm ls[k] g gn t (aftv M (chainv ls k t)) (opacv ls[k] t)
        simp only [if_true]
        exact ⟨ns, (congrArg (fun o => Option.bind o _) e1).trans rfl, e2.inc (by omega) (Nat.le_refl _)⟩
      | false =>
        obtain ⟨ns, e1, e2⟩ := inner1 C i o deep d m rF hF hL hm ls[k] g gn t (aftv M (chainv ls k t)) 255
        obtain ⟨Q, q1, q2, q3⟩ := mask1 ls[k] g.mp (aftv M (chainv ls k t))
        have e3 := e2.gn hm2
        have tn := rnd_all ns
        have tq := ro_all Q
        have ln : (Rnd ns).length = ns.length := rnd_len ns
        have lq := ro_len Q
        have one : ∀ (P : List (List V)), Gnd (d + 1 + k) P → ∀ (how a : Int), Nl (d + 1 + k) m [ndg P (Rnd ns) (Ro Q) how a] := fun P hP how a => ⟨by show 1 ≤ m; omega, fun x hx => by
          rw [List.mem_singleton.1 hx]
          exact ⟨Pq.nil, ⟨Q, rfl, fun q hq => (q2 q hq).1, by omega⟩, e3.mono (by omega), hP⟩⟩
        simp only [Bool.false_eq_true, if_false]
        by_cases hmt : ((Wl ls[k]).c3 != 0) = true
        · by_cases hk0 : (k : Int) > 0
          · have hw : w64 ((k : Int) - 1) = ((k - 1 : Nat) : Int) := by rw [w64_in (by omega) (by omega)]; omega
            obtain ⟨ps, p1, p2⟩ := layer1 C ls i o t deep M d m hm hm2 rF hF hL gl gy (k - 1) n (by omega) (by omega)
            have p3 := p2.gn hm2
            refine ⟨[ndg (Rnd ps) (Rnd ns) (Ro Q) ls[k].mat (opacv ls[k] t)], (congrArg (fun o => Option.bind o _) e1).trans ?_, one (Rnd ps) (p3.mono (by omega)) _ _⟩
            simp only [Option.bind_some, PT.ev, PT.test, dite_eq_ite]
            refine (congrArg (fun o => Option.bind o _) q1).trans ?_
            simp only [Option.bind_some, PT.ev, PT.test, dite_eq_ite, if_pos hmt, if_pos hk0, hw, p1, Nat.zero_add, ln, lq, rnd_len, Nat.le_refl, if_true, tn, tq, rnd_all]
            rfl
          · refine ⟨[ndg [] (Rnd ns) (Ro Q) ls[k].mat (opacv ls[k] t)], (congrArg (fun o => Option.bind o _) e1).trans ?_, one [] (Gnd.nil _) _ _⟩
            simp only [Option.bind_some, PT.ev, PT.test, dite_eq_ite]
            refine (congrArg (fun o => Option.bind o _) q1).trans ?_
            simp only [Option.bind_some, PT.ev, PT.test, dite_eq_ite, if_pos hmt, if_neg hk0, Nat.zero_add, ln, lq, Nat.le_refl, if_true, tn, tq]
            rfl
        · refine ⟨[ndg [] (Rnd ns) (Ro Q) ls[k].mat (opacv ls[k] t)], (congrArg (fun o => Option.bind o _) e1).trans ?_, one [] (Gnd.nil _) _ _⟩
          simp only [Option.bind_some, PT.ev, PT.test, dite_eq_ite]
          refine (congrArg (fun o => Option.bind o _) q1).trans ?_
          simp only [Option.bind_some, PT.ev, PT.test, dite_eq_ite, if_neg hmt, Nat.zero_add, ln, lq, Nat.le_refl, if_true, tn, tq]
          rfl
end Go.Proofs.YtifalphladcdcaaGreat.H

/- Lists of comps, of documents, by the program. Conditions: those stated. -/
namespace Go.Proofs.YtifalphladcdcaaGreat.H
open Go Go.VM
set_option maxRecDepth 100000
theorem Nl.app {d m k : Nat} {a b : List Nd} (h1 : Nl d m a) (h2 : Nl d k b) : Nl d (m + k) (a ++ b) := ⟨by rw [List.length_append]; exact Nat.add_le_add h1.len h2.len, fun n hn => (List.mem_append.1 hn).elim (h1.nd n) (h2.nd n)⟩
theorem list_in (C : List (List Ly)) (ls : List Ly) (i o t deep : Int) (M : Mt) (d m : Nat) (hm : 2 ≤ m) (hm2 : m ≤ 1000) (rF : K158) (hF : H158 rF) (hL : Lf C i o (w64 (deep + 1)) d m rF)
    (gl : ls.length ≤ 4) (gy : ∀ l ∈ ls, Lq l ∧ (l.kind = 1 → 0 ≤ l.comp ∧ l.comp < (C.length : Int))) : ∀ (n k : Nat) (acc : List Nd), k ≤ ls.length → ls.length < n + k → Nl (d + 4) (k * m) acc →
    ∃ ns : List Nd, L158_0 rF hF n (.s0 (.mk t deep acc.length ls.length k i o (Rcs C) M (Rnd acc) (Rl ls))) = some (.e0 (.mk ns.length (Rnd ns))) ∧ Nl (d + 4) (4 * m) ns
  | 0, k, acc, h1, h2, _ => by omega
  | n + 1, k, acc, h1, h2, h3 => by
    rw [L158_0_s0]
    by_cases h : k < ls.length
    · have hw : w64 ((k : Int) + 1) = ((k + 1 : Nat) : Int) := by rw [w64_in (by omega) (by omega)]; omega
      have hkm : k * m ≤ 3 * m := Nat.mul_le_mul_right m (by omega)
      have hk1 : (k + 1) * m = k * m + m := Nat.succ_mul k m
      have skip := list_in C ls i o t deep M d m hm hm2 rF hF hL gl gy n (k + 1) acc h (by omega) (h3.inc (Nat.le_refl _) (by omega))
      obtain ⟨ns, e1, e2⟩ := layer1 C ls i o t deep M d m hm (by omega) rF hF hL (by omega) gy k 100000 (by omega) h
      have e3 : Nl (d + 4) m ns := e2.inc (by omega) (Nat.le_refl _)
      have hn := e3.len
      have ha := h3.len
      have go := list_in C ls i o t deep M d m hm hm2 rF hF hL gl gy n (k + 1) (acc ++ ns) h (by omega) (by rw [hk1]; exact h3.app e3)
      have hp : Rnd acc ++ Rnd ns = Rnd (acc ++ ns) := by rw [Rnd, Rnd, Rnd, List.map_append]
      have hq : (acc.length + ns.length) * 192 ≤ 140737488355328 ∧ acc.length + ns.length ≤ 140737488355328 := by omega
      rw [List.length_append] at go
      simp only [D158_0, PT.ev, PT.test, dite_eq_ite, rl_len, if_pos (show (k : Int) < (ls.length : Int) by omega), hw]
      by_cases h4 : ((k + 1 : Nat) : Int) < (ls.length : Int)
      · have hk2 : k + 1 < ls.length := by omega
        simp only [if_pos h4, if_pos (show (0 : Int) ≤ ((k + 1 : Nat) : Int) by omega), Int.toNat_natCast, rl_get, List.getElem?_eq_getElem hk2, Option.map_some, Option.bind_some, e1, Nat.zero_add, rnd_len, Nat.le_refl, true_and, if_true, rnd_all, hp, if_pos hq, hw, N158_0.nx]
        split
        · exact skip
        · exact go
      · simp only [if_neg h4, e1, Option.bind_some, PT.ev, PT.test, dite_eq_ite, Nat.zero_add, rnd_len, Nat.le_refl, true_and, if_true, rnd_all, hp, if_pos hq, hw, N158_0.nx]
        exact go
    · have hkm : k * m ≤ 4 * m := Nat.mul_le_mul_right m (by omega)
      simp only [D158_0, PT.ev, PT.test, dite_eq_ite, if_neg (show ¬ (k : Int) < (ls.length : Int) by omega), N158_0.nx]
      exact ⟨acc, rfl, h3.inc (Nat.le_refl _) hkm⟩
/-- Comps of a tape: few layers, nested ones that are. -/
structure Ct (C : List (List Ly)) : Prop where
  q : Cq C
  four : ∀ c ∈ C, c.length ≤ 4
  nest : ∀ c ∈ C, ∀ l ∈ c, l.kind = 1 → 0 ≤ l.comp ∧ l.comp < (C.length : Int)
def bn : Nat → Nat
  | 0 => 2
  | d + 1 => 4 * bn d
theorem bn_le : ∀ d : Nat, d ≤ 4 → 2 ≤ bn d ∧ bn d ≤ 512 := by decide
theorem list1 (C : List (List Ly)) (g : Ct C) (i o : Int) : ∀ (d n : Nat) (deep : Int), deep + d = 4 → d ≤ 4 → d < n → Lf C i o deep (4 * d) (bn d) (F158 n)
  | d, 0, deep, _, _, h => by omega
  | 0, n + 1, deep, hd, _, _ => fun c t M h1 h2 => by
    have e : deep = 4 := by omega
    subst e
    rw [F158_succ]
    exact ⟨[], rfl, Nl.nil _ _⟩
  | d + 1, n + 1, deep, hd, h4, hn => fun c t M h1 h2 => by
    have hb := bn_le d (by omega)
    have hw : w64 (deep + 1) = deep + 1 := w64_in (by omega) (by omega)
    have ih : Lf C i o (w64 (deep + 1)) (4 * d) (bn d) (F158 n) := by rw [hw]; exact list1 C g i o d n (deep + 1) (by omega) (by omega) (by omega)
    have hc : c.toNat < C.length := by omega
    have hm := List.getElem_mem hc
    obtain ⟨_, gy⟩ := g.q.ly _ hm
    obtain ⟨ns, e1, e2⟩ := list_in C C[c.toNat] i o t deep M (4 * d) (bn d) hb.1 (by omega) (F158 n) (F158_ok n) ih (g.four _ hm) (fun l hl => ⟨gy l hl, g.nest _ hm l hl⟩) 18446744073709551616 0 [] (by omega) (by have := g.four _ hm; omega) (Nl.nil _ _)
    rw [show ((0 : Nat) : Int) = 0 from rfl, show Rnd [] = [] from rfl, show ([] : List Nd).length = 0 from rfl] at e1
    rw [F158_succ]
    simp only [D158, J158_r1, D158_r1, PT.ev, PT.test, dite_eq_ite, if_neg (show ¬ deep < 0 by omega), decide_eq_false (show ¬ deep ≥ 4 by omega), Option.bind_some, Bool.false_eq_true, if_false, if_pos h1, rcs_get, List.getElem?_eq_getElem hc, Option.map_some, rl_len]
    rw [e1]
    exact ⟨ns, rfl, e2⟩
/-- A document's list. -/
theorem doclist1 (C : List (List Ly)) (g : Ct C) (i o t : Int) : ∃ ns : List Nd, F33 i o (Rcs C) t = some (.a0 ns.length (Rnd ns)) ∧ Nl 16 512 ns := by
  obtain ⟨z, e⟩ := doc1 C g.q i o
  have L := list1 C g i o 4 100000 0 (by omega) (by omega) (by omega)
  simp only [F33, D33, F91, D91, PT.ev, PT.test, dite_eq_ite, bnd_def, e, Option.bind_some, rcs_len]
  by_cases hz : (z != 0) = true
  · simp only [if_pos hz]; exact ⟨[], rfl, Nl.nil _ _⟩
  · simp only [if_neg hz]
    by_cases h0 : (0 : Int) ≥ (C.length : Int)
    · simp only [if_neg (show ¬ (0 : Int) < 0 by decide), if_pos h0]; exact ⟨[], rfl, Nl.nil _ _⟩
    · obtain ⟨ns, e1, e2⟩ := L 0 t F78 (by omega) (by omega)
      simp only [if_neg (show ¬ (0 : Int) < 0 by decide), if_neg h0]
      exact ⟨ns, (congrArg (fun o => Option.bind o _) (congrArg (fun o => Option.bind o _) e1)).trans rfl, e2.inc (by omega) (by decide)⟩
end Go.Proofs.YtifalphladcdcaaGreat.H

/- Nodes that are the same, and that are not, by the program. Conditions: those stated. -/
namespace Go.Proofs.YtifalphladcdcaaGreat.H
open Go Go.VM
set_option maxRecDepth 100000
theorem spl_ne (X Y : List (List V)) (h : (X.length : Int) ≠ (Y.length : Int)) : F92 X Y = some (.a0 false) := by
  simp only [F92, D92, F159, D159, PT.ev, PT.test, dite_eq_ite, if_pos (show ((X.length : Int) != (Y.length : Int)) = true from bne_iff_ne.2 h), Option.bind_some]
theorem spl_loop (Q : List Po) (hq : ∀ q ∈ Q, q.p.length ≤ 2000) (hl : Q.length ≤ 1000000) : ∀ (n i : Nat), i ≤ Q.length → Q.length < n + i → L159_0 n (.s0 (.mk (Ro Q) (Ro Q) Q.length i)) = some .e1
  | 0, i, h1, h2 => by omega
  | n + 1, i, h1, h2 => by
    rw [L159_0_s0]
    by_cases h : i < Q.length
    · have hw : w64 ((i : Int) + 1) = ((i + 1 : Nat) : Int) := by rw [w64_in (by omega) (by omega)]; omega
      have ih := spl_loop Q hq hl n (i + 1) h (by omega)
      have hb := hq _ (List.getElem_mem h)
      simp only [D159_0, PT.ev, PT.test, dite_eq_ite, if_pos (show (i : Int) < (Q.length : Int) by omega), if_pos (show (0 : Int) ≤ (i : Int) by omega), Int.toNat_natCast, ro_get, List.getElem?_eq_getElem h, Option.map_some, Option.bind_some, F160, D160, beq_self_eq_true, if_true, qequal Q[i].p Q[i].p (by omega), eqs_refl, Bool.not_true, Bool.false_eq_true, if_false, hw, N159_0.nx]
      exact ih
    · simp only [D159_0, PT.ev, PT.test, dite_eq_ite, if_neg (show ¬ (i : Int) < (Q.length : Int) by omega), N159_0.nx]
theorem spl_eq {X : List (List V)} (h : Pq X) : F92 X X = some (.a0 true) := by
  obtain ⟨Q, rfl, h1, h2⟩ := h
  have l := spl_loop Q h1 h2 18446744073709551616 0 (by omega) (by omega)
  rw [show ((0 : Nat) : Int) = 0 from rfl] at l
  simp only [F92, D92, F159, D159, PT.ev, PT.test, dite_eq_ite, bne_self_eq_false, Bool.false_eq_true, if_false, ro_len, l, Option.bind_some]
/-- A node that is no deeper than so much. -/
def Nk (d : Nat) (n : Nd) : Prop := Pq n.c1 ∧ Pq n.c19 ∧ Gnd d n.c18 ∧ Gnd d n.c21
theorem eqn_loop (rF : K34) (hF : H34 rF) (ns : List Nd) (hl : ns.length ≤ 4000) (h : ∀ n ∈ ns, rF n n = some (.a0 true)) : ∀ (n i : Nat), i ≤ ns.length → ns.length < n + i → L93_0 rF hF n (.s0 (.mk (Rnd ns) (Rnd ns) ns.length i)) = some .e1
  | 0, i, h1, h2 => by omega
  | n + 1, i, h1, h2 => by
    rw [L93_0_s0]
    by_cases c : i < ns.length
    · have hw : w64 ((i : Int) + 1) = ((i + 1 : Nat) : Int) := by rw [w64_in (by omega) (by omega)]; omega
      have ih := eqn_loop rF hF ns hl h n (i + 1) c (by omega)
      simp only [D93_0, PT.ev, PT.test, dite_eq_ite, if_pos (show (i : Int) < (ns.length : Int) by omega), if_pos (show (0 : Int) ≤ (i : Int) by omega), Int.toNat_natCast, rnd_get, List.getElem?_eq_getElem c, Option.bind_some, h _ (List.getElem_mem c), Bool.not_true, Bool.false_eq_true, if_false, hw, N93_0.nx]
      exact ih
    · simp only [D93_0, PT.ev, PT.test, dite_eq_ite, if_neg (show ¬ (i : Int) < (ns.length : Int) by omega), N93_0.nx]
theorem eqn_eq (rF : K34) (hF : H34 rF) (ns : List Nd) (hl : ns.length ≤ 4000) (h : ∀ n ∈ ns, rF n n = some (.a0 true)) : F93 rF hF (Rnd ns) (Rnd ns) = some (.a0 true) := by
  have l := eqn_loop rF hF ns hl h 18446744073709551616 0 (by omega) (by omega)
  rw [show ((0 : Nat) : Int) = 0 from rfl] at l
  simp only [F93, D93, PT.ev, PT.test, dite_eq_ite, bne_self_eq_false, Bool.false_eq_true, if_false, rnd_len, l, Option.bind_some]
theorem eqn_ne (rF : K34) (hF : H34 rF) (X Y : List (List V)) (h : (X.length : Int) ≠ (Y.length : Int)) : F93 rF hF X Y = some (.a0 false) := by
  simp only [F93, D93, PT.ev, PT.test, dite_eq_ite, if_pos (show ((X.length : Int) != (Y.length : Int)) = true from bne_iff_ne.2 h)]
theorem same_r1 (rF : K34) (hF : H34 rF) (a : Nd) (h : Pq a.c1) : (J34_r1) rF hF (.mk a a) = some (.e0 (.mk true a a)) := by
  simp only [J34_r1, D34_r1, PT.ev, PT.test, dite_eq_ite, beq_self_eq_true, Bool.and_self, Bool.and_true, if_true, spl_eq h, Option.bind_some]
theorem same_r2 (rF : K34) (hF : H34 rF) (f : Bool) (a : Nd) (h : Pq a.c19) : (J34_r2) rF hF (.mk f a a) = some (.e0 (.mk f true a a)) := by
  simp only [J34_r2, D34_r2, PT.ev, PT.test, dite_eq_ite, beq_self_eq_true, if_true, spl_eq h, Option.bind_some]
theorem same_refl : ∀ (d n : Nat) (a : Nd), d < n → Nk d a → F34 n a a = some (.a0 true)
  | d, 0, a, h, _ => by omega
  | d, n + 1, a, h, ⟨p1, p2, g1, g2⟩ => by
    have sub : ∀ X, Gnd d X → F93 (F34 n) (F34_ok n) X X = some (.a0 true) := fun X hX => by
      cases d with
      | zero =>
        rw [show X = Rnd [] from hX]
        exact eqn_eq _ _ [] (by decide) (by simp)
      | succ d =>
        obtain ⟨ns, rfl, h1, h2⟩ := hX
        exact eqn_eq _ _ ns h1 (fun x hx => same_refl d n x (by omega) (h2 x hx))
    rw [F34_succ]
    simp only [D34, PT.ev, PT.test, dite_eq_ite]
    rw [same_r1 _ _ a p1]
    simp only [Option.bind_some, PT.ev]
    rw [same_r2 _ _ true a p2]
    simp only [Option.bind_some, PT.ev, PT.test, dite_eq_ite, if_true, sub _ g1, sub _ g2]
/-- Two that differ in what is told first. -/
theorem same_no (n : Nat) (a b : Nd) (x y : Bool) (h1 : (J34_r1) (F34 n) (F34_ok n) (.mk a b) = some (.e0 (.mk x a b))) (h2 : (J34_r2) (F34 n) (F34_ok n) (.mk x a b) = some (.e0 (.mk x y a b))) (h : (x && y) = false) : F34 (n + 1) a b = some (.a0 false) := by
  rw [F34_succ]
  simp only [D34, PT.ev, PT.test, dite_eq_ite]
  rw [h1]
  simp only [Option.bind_some, PT.ev]
  rw [h2]
  simp only [Option.bind_some, PT.ev, PT.test, dite_eq_ite]
  cases x with
  | false => simp only [Bool.false_eq_true, if_false]
  | true =>
    cases y with
    | false => simp only [Bool.false_eq_true, if_false, if_true]
    | true => cases h
theorem succ_ne (z : Int) : (z == w64 (z + 1)) = false ∧ (w64 (z + 1) == z) = false := by
  rw [beq_eq_false_iff_ne, beq_eq_false_iff_ne, w64_eq]; omega
theorem no22 (n : Nat) (a : Nd) (p1 : Pq a.c1) (p2 : Pq a.c19) : F34 (n + 1) a { a with c22 := w64 (a.c22 + 1) } = some (.a0 false) ∧ F34 (n + 1) { a with c22 := w64 (a.c22 + 1) } a = some (.a0 false) := by
  obtain ⟨e1, e2⟩ := succ_ne a.c22
  refine ⟨same_no n a _ true false ?_ ?_ rfl, same_no n _ a true false ?_ ?_ rfl⟩
  · simp only [J34_r1, D34_r1, PT.ev, PT.test, dite_eq_ite, beq_self_eq_true, Bool.and_self, Bool.and_true, if_true, spl_eq p1, Option.bind_some]
  · simp only [J34_r2, D34_r2, PT.ev, PT.test, dite_eq_ite, beq_self_eq_true, if_true, e1, Bool.false_eq_true, if_false]
  · simp only [J34_r1, D34_r1, PT.ev, PT.test, dite_eq_ite, beq_self_eq_true, Bool.and_self, Bool.and_true, if_true, spl_eq p1, Option.bind_some]
  · simp only [J34_r2, D34_r2, PT.ev, PT.test, dite_eq_ite, beq_self_eq_true, if_true, e2, Bool.false_eq_true, if_false]
theorem no20 (n : Nat) (a : Nd) (p1 : Pq a.c1) (p2 : Pq a.c19) : F34 (n + 1) a { a with c20 := w64 (a.c20 + 1) } = some (.a0 false) ∧ F34 (n + 1) { a with c20 := w64 (a.c20 + 1) } a = some (.a0 false) := by
  obtain ⟨e1, e2⟩ := succ_ne a.c20
  refine ⟨same_no n a _ true false ?_ ?_ rfl, same_no n _ a true false ?_ ?_ rfl⟩
  · simp only [J34_r1, D34_r1, PT.ev, PT.test, dite_eq_ite, beq_self_eq_true, Bool.and_self, Bool.and_true, if_true, spl_eq p1, Option.bind_some]
  · simp only [J34_r2, D34_r2, PT.ev, PT.test, dite_eq_ite, beq_self_eq_true, if_true, e1, Bool.false_eq_true, if_false]
  · simp only [J34_r1, D34_r1, PT.ev, PT.test, dite_eq_ite, beq_self_eq_true, Bool.and_self, Bool.and_true, if_true, spl_eq p1, Option.bind_some]
  · simp only [J34_r2, D34_r2, PT.ev, PT.test, dite_eq_ite, beq_self_eq_true, if_true, e2, Bool.false_eq_true, if_false]
theorem no17 (n : Nat) (a : Nd) (p1 : Pq a.c1) (p2 : Pq a.c19) : F34 (n + 1) a { a with c17 := w64 (a.c17 + 1) } = some (.a0 false) ∧ F34 (n + 1) { a with c17 := w64 (a.c17 + 1) } a = some (.a0 false) := by
  obtain ⟨e1, e2⟩ := succ_ne a.c17
  refine ⟨same_no n a _ false true ?_ ?_ rfl, same_no n _ a false true ?_ ?_ rfl⟩
  · simp only [J34_r1, D34_r1, PT.ev, PT.test, dite_eq_ite, beq_self_eq_true, Bool.and_self, Bool.and_true, if_true, e1, Bool.false_eq_true, if_false]
  · simp only [J34_r2, D34_r2, PT.ev, PT.test, dite_eq_ite, beq_self_eq_true, if_true, spl_eq p2, Option.bind_some]
  · simp only [J34_r1, D34_r1, PT.ev, PT.test, dite_eq_ite, beq_self_eq_true, Bool.and_self, Bool.and_true, if_true, e2, Bool.false_eq_true, if_false]
  · simp only [J34_r2, D34_r2, PT.ev, PT.test, dite_eq_ite, beq_self_eq_true, if_true, spl_eq p2, Option.bind_some]
theorem no16 (n : Nat) (a : Nd) (p1 : Pq a.c1) (p2 : Pq a.c19) : F34 (n + 1) a { a with c16 := w64 (a.c16 + 1) } = some (.a0 false) ∧ F34 (n + 1) { a with c16 := w64 (a.c16 + 1) } a = some (.a0 false) := by
  obtain ⟨e1, e2⟩ := succ_ne a.c16
  refine ⟨same_no n a _ false true ?_ ?_ rfl, same_no n _ a false true ?_ ?_ rfl⟩
  · simp only [J34_r1, D34_r1, PT.ev, PT.test, dite_eq_ite, beq_self_eq_true, Bool.and_self, Bool.and_true, Bool.true_and, if_true, e1, Bool.false_and, Bool.and_false, Bool.false_eq_true, if_false]
  · simp only [J34_r2, D34_r2, PT.ev, PT.test, dite_eq_ite, beq_self_eq_true, if_true, spl_eq p2, Option.bind_some]
  · simp only [J34_r1, D34_r1, PT.ev, PT.test, dite_eq_ite, beq_self_eq_true, Bool.and_self, Bool.and_true, Bool.true_and, if_true, e2, Bool.false_and, Bool.and_false, Bool.false_eq_true, if_false]
  · simp only [J34_r2, D34_r2, PT.ev, PT.test, dite_eq_ite, beq_self_eq_true, if_true, spl_eq p2, Option.bind_some]
theorem no19 (n : Nat) (a : Nd) (Y : List (List V)) (p1 : Pq a.c1) (h : (a.c19.length : Int) ≠ (Y.length : Int)) : F34 (n + 1) a { a with c19 := Y } = some (.a0 false) ∧ F34 (n + 1) { a with c19 := Y } a = some (.a0 false) := by
  refine ⟨same_no n a _ true false ?_ ?_ rfl, same_no n _ a true false ?_ ?_ rfl⟩
  · simp only [J34_r1, D34_r1, PT.ev, PT.test, dite_eq_ite, beq_self_eq_true, Bool.and_self, Bool.and_true, if_true, spl_eq p1, Option.bind_some]
  · simp only [J34_r2, D34_r2, PT.ev, PT.test, dite_eq_ite, beq_self_eq_true, if_true, spl_ne _ _ h, Option.bind_some]
  · simp only [J34_r1, D34_r1, PT.ev, PT.test, dite_eq_ite, beq_self_eq_true, Bool.and_self, Bool.and_true, if_true, spl_eq p1, Option.bind_some]
  · simp only [J34_r2, D34_r2, PT.ev, PT.test, dite_eq_ite, beq_self_eq_true, if_true, spl_ne _ _ (Ne.symm h), Option.bind_some]
theorem no18 (n : Nat) (a : Nd) (Y : List (List V)) (p1 : Pq a.c1) (p2 : Pq a.c19) (h : (a.c18.length : Int) ≠ (Y.length : Int)) : F34 (n + 1) a { a with c18 := Y } = some (.a0 false) ∧ F34 (n + 1) { a with c18 := Y } a = some (.a0 false) := by
  have r1 : (J34_r1) (F34 n) (F34_ok n) (.mk a { a with c18 := Y }) = some (.e0 (.mk true a { a with c18 := Y })) := by
    simp only [J34_r1, D34_r1, PT.ev, PT.test, dite_eq_ite, beq_self_eq_true, Bool.and_self, Bool.and_true, if_true, spl_eq p1, Option.bind_some]
  have r2 : (J34_r2) (F34 n) (F34_ok n) (.mk true a { a with c18 := Y }) = some (.e0 (.mk true true a { a with c18 := Y })) := by
    simp only [J34_r2, D34_r2, PT.ev, PT.test, dite_eq_ite, beq_self_eq_true, if_true, spl_eq p2, Option.bind_some]
  have s1 : (J34_r1) (F34 n) (F34_ok n) (.mk { a with c18 := Y } a) = some (.e0 (.mk true { a with c18 := Y } a)) := by
    simp only [J34_r1, D34_r1, PT.ev, PT.test, dite_eq_ite, beq_self_eq_true, Bool.and_self, Bool.and_true, if_true, spl_eq p1, Option.bind_some]
  have s2 : (J34_r2) (F34 n) (F34_ok n) (.mk true { a with c18 := Y } a) = some (.e0 (.mk true true { a with c18 := Y } a)) := by
    simp only [J34_r2, D34_r2, PT.ev, PT.test, dite_eq_ite, beq_self_eq_true, if_true, spl_eq p2, Option.bind_some]
  refine ⟨?_, ?_⟩
  · rw [F34_succ]
    simp only [D34, PT.ev, PT.test, dite_eq_ite]
    rw [r1]
    simp only [Option.bind_some, PT.ev]
    rw [r2]
    simp only [Option.bind_some, PT.ev, PT.test, dite_eq_ite, if_true, eqn_ne _ _ _ _ h, Bool.false_eq_true, if_false]
  · rw [F34_succ]
    simp only [D34, PT.ev, PT.test, dite_eq_ite]
    rw [s1]
    simp only [Option.bind_some, PT.ev]
    rw [s2]
    simp only [Option.bind_some, PT.ev, PT.test, dite_eq_ite, if_true, eqn_ne _ _ _ _ (Ne.symm h), Bool.false_eq_true, if_false]
end Go.Proofs.YtifalphladcdcaaGreat.H

/- Some of chapter 22's runs, by the program. Conditions: those stated. -/
namespace Go.Proofs.YtifalphladcdcaaGreat.H
open Go Go.VM
set_option maxRecDepth 100000
abbrev kl : Ly := ⟨0, -1, 0, 0, 0, 5, 0, [], [], [], [], [], [], [], [], [], false, [], ⟨0, 0, [⟨0, 65536, 0, 0, 0, 0, 0⟩], [⟨0, 65536, 0, 0, 0, 0, 0⟩], [], true, 0, 0, 0, 0, 0, 0, 0, 0, 0, 0, 0, 0, 0, 0, 0, [], false, [], 0, 0, 0, 0, 0, [], [], []⟩⟩
theorem kl0 : ((Rl [kl])[0]?).bind W57.dec = some (Wl kl) := by rw [rl_get]; rfl
theorem kc0 : ((Rcs [[kl]])[0]?).bind W52.dec = some ⟨Rl [kl]⟩ := rfl
theorem kring : F281 (Rl [kl]) 0 = some (.a0 false) := by
  simp only [F281, D281, PT.ev, PT.test, dite_eq_ite, if_pos (show (0 : Int) ≤ 0 by decide), Int.toNat_zero, kl0, Option.bind_some]
  kernel_rfl
theorem ktree : F254 0 9 (Rcs [[kl]]) 0 0 = some (.a0 true) := by
  have hb : J254_b0 (.mk 0 0 0 9 (Rcs [[kl]]) (Rl [kl]) (Wl kl)) = some (.e1 (.mk 0 0 9 (Rcs [[kl]]) (Wl kl))) := by
    simp only [J254_b0, D254_b0, PT.ev, PT.test, dite_eq_ite]
    rw [show J254_r3 (.mk 0 0 0 9 (Rcs [[kl]]) (Rl [kl]) (Wl kl)) = some (.e0 (.mk 0 0 false 0 9 (Rcs [[kl]]) (Rl [kl]) (Wl kl))) from by kernel_rfl]
    simp only [Option.bind_some, PT.ev, kring, Bool.false_eq_true, if_false]
    kernel_rfl
  simp only [F254, D254, PT.ev, PT.test, dite_eq_ite, if_pos (show (0 : Int) ≤ 0 by decide), Int.toNat_zero, kc0, kl0, Option.bind_some]
  rw [hb]
  rfl
theorem klay : F253 (Wl kl) = some (.a0 true) := by kernel_rfl
theorem klys : F215 0 9 (Rcs [[kl]]) = some (.a0 0) := by
  have h2 : L215_2 18446744073709551616 (.s0 (.mk 0 (Rcs [[kl]]) 1 (Rl [kl]) 1 0 0 9)) = some (.e1 (.mk (Rcs [[kl]]) 1 0 0 9)) := by
    rw [show (18446744073709551616 : Nat) = 18446744073709551614 + 1 + 1 from rfl, L215_2_s0]
    simp only [D215_2, PT.ev, PT.test, dite_eq_ite, if_pos (show (0 : Int) < 1 by decide), if_pos (show (0 : Int) ≤ 0 by decide), Int.toNat_zero, kl0, Option.bind_some, klay, ktree, Bool.not_true, Bool.false_eq_true, if_false]
    kernel_rfl
  have h0 : L215_0 18446744073709551616 (.s0 (.mk (Rcs [[kl]]) 1 0 0 9)) = some .e1 := by
    rw [show L215_0 18446744073709551616 (.s0 (.mk (Rcs [[kl]]) 1 0 0 9)) = L215_0 (18446744073709551614 + 1 + 1) (.s0 (.mk (Rcs [[kl]]) 1 0 0 9)) from rfl, L215_0_s0]
    simp only [D215_0, PT.ev, PT.test, dite_eq_ite, if_pos (show (0 : Int) < 1 by decide), if_pos (show (0 : Int) ≤ 0 by decide), Int.toNat_zero, kc0, Option.bind_some]
    rw [show (((Rl [kl]).length : Nat) : Int) = 1 from rfl, h2]
    kernel_rfl
  simp only [F215, D215, PT.ev]
  rw [show (((Rcs [[kl]]).length : Nat) : Int) = 1 from rfl, h0]
  rfl
theorem kdeep : F216 0 9 (Rcs [[kl]]) 0 = some (.a0 1) := by
  have h2 : L256_2 18446744073709551616 (.s0 (.mk 1 1 0 1 (Rl [kl]) 1 0 0 9 (Rcs [[kl]]) [[i64 0]])) = some (.e0 (.mk 1 1 0 1 0 9 (Rcs [[kl]]) [[i64 0]])) := by
    rw [show (18446744073709551616 : Nat) = 18446744073709551614 + 1 + 1 from rfl, L256_2_s0]
    simp only [D256_2, PT.ev, PT.test, dite_eq_ite, if_pos (show (0 : Int) < 1 by decide), if_pos (show (0 : Int) ≤ 0 by decide), Int.toNat_zero, kl0, Option.bind_some]
    kernel_rfl
  have h0 : L256_0 18446744073709551616 (.s0 (.mk 1 1 0 0 9 (Rcs [[kl]]) [[i64 0]])) = some (.e0 (.mk 1 [[i64 1]])) := by
    rw [show L256_0 18446744073709551616 (.s0 (.mk 1 1 0 0 9 (Rcs [[kl]]) [[i64 0]])) = L256_0 (18446744073709551614 + 1 + 1) (.s0 (.mk 1 1 0 0 9 (Rcs [[kl]]) [[i64 0]])) from rfl, L256_0_s0]
    simp only [D256_0, PT.ev, PT.test, dite_eq_ite, if_pos (show (0 : Int) ≥ 0 by decide), if_pos (show (0 : Int) ≤ 0 by decide), Int.toNat_zero, kc0, Option.bind_some]
    rw [show (((Rl [kl]).length : Nat) : Int) = 1 from rfl, h2]
    kernel_rfl
  have h1 : F256 0 9 (Rcs [[kl]]) 1 = some (.a0 1 [[i64 1]]) := by
    simp only [F256, D256, PT.ev, PT.test, dite_eq_ite]
    rw [show (((Rcs [[kl]]).length : Nat) : Int) = 1 from rfl, if_pos (by decide), show List.replicate (Int.toNat 1) [i64 0] = [[i64 0]] from rfl, show w64 ((1 : Int) - 1) = 0 from rfl, show Int.toNat 1 = 1 from rfl, h0]
    rfl
  simp only [F216, D216, PT.ev, PT.test, dite_eq_ite, h1]
  rfl
theorem knodes : F217 0 9 (Rcs [[kl]]) 0 = some (.a0 2) := by
  have h2 : L256v1_2 18446744073709551616 (.s0 (.mk 0 1 0 0 (Rl [kl]) 1 0 0 9 (Rcs [[kl]]) [[i64 0]])) = some (.e0 (.mk 0 1 0 2 0 9 (Rcs [[kl]]) [[i64 0]])) := by
    rw [show (18446744073709551616 : Nat) = 18446744073709551614 + 1 + 1 from rfl, L256v1_2_s0]
    simp only [D256v1_2, PT.ev, PT.test, dite_eq_ite, if_pos (show (0 : Int) < 1 by decide), if_pos (show (0 : Int) ≤ 0 by decide), Int.toNat_zero, kl0, Option.bind_some]
    kernel_rfl
  have h0 : L256v1_0 18446744073709551616 (.s0 (.mk 0 1 0 0 9 (Rcs [[kl]]) [[i64 0]])) = some (.e0 (.mk 1 [[i64 2]])) := by
    rw [show L256v1_0 18446744073709551616 (.s0 (.mk 0 1 0 0 9 (Rcs [[kl]]) [[i64 0]])) = L256v1_0 (18446744073709551614 + 1 + 1) (.s0 (.mk 0 1 0 0 9 (Rcs [[kl]]) [[i64 0]])) from rfl, L256v1_0_s0]
    simp only [D256v1_0, PT.ev, PT.test, dite_eq_ite, if_pos (show (0 : Int) ≥ 0 by decide), if_pos (show (0 : Int) ≤ 0 by decide), Int.toNat_zero, kc0, Option.bind_some]
    rw [show (((Rl [kl]).length : Nat) : Int) = 1 from rfl, h2]
    kernel_rfl
  have h1 : F256v1 0 9 (Rcs [[kl]]) 0 = some (.a0 1 [[i64 2]]) := by
    simp only [F256v1, D256v1, PT.ev, PT.test, dite_eq_ite]
    rw [show (((Rcs [[kl]]).length : Nat) : Int) = 1 from rfl, if_pos (by decide), show List.replicate (Int.toNat 1) [i64 0] = [[i64 0]] from rfl, show w64 ((1 : Int) - 1) = 0 from rfl, show Int.toNat 1 = 1 from rfl, h0]
    rfl
  simp only [F217, D217, PT.ev, PT.test, dite_eq_ite, h1]
  rfl
theorem kright : F157 0 9 (Rcs [[kl]]) = some (.a0 0) := by
  simp only [F157, D157, PT.ev, PT.test, dite_eq_ite]
  rw [show F212 (Rcs [[kl]]) = some (.a0 false) from by kernel_rfl]
  simp only [Option.bind_some, PT.ev]
  rw [show J157_r2 (.mk false 0 9 (Rcs [[kl]])) = some (.e0 (.mk false 0 9 (Rcs [[kl]]))) from by kernel_rfl]
  simp only [Option.bind_some, PT.ev, Bool.false_eq_true, if_false]
  rw [show J157_r4 (.mk 0 9 (Rcs [[kl]])) = some (.e0 (.mk false 0 9 (Rcs [[kl]]))) from by kernel_rfl]
  simp only [Option.bind_some, PT.ev, Bool.false_eq_true, if_false, klys, kdeep, knodes]
  kernel_rfl
end Go.Proofs.YtifalphladcdcaaGreat.H

/- Chapter 22's own runs hold. Conditions: those stated. -/
namespace Go.Proofs.YtifalphladcdcaaGreat.H
open Go Go.VM
set_option maxRecDepth 100000
noncomputable abbrev kM (t : Int) : Mt := aftv F78 (chainv [kl] 0 t)
noncomputable def krow : List (List V) := match F75 (Ws kl.s) 3 (kM 3) 255 with
  | some (.a0 _ r) => r
  | none => []
noncomputable def kit : It := W85.of (krow.headD [])
theorem kit0 : F75 (Ws kl.s) 3 (kM 3) 255 = some (.a0 1 (Ri [kit])) := by kernel_rfl
noncomputable abbrev kn : Nd := ndi kit
theorem klayer3 (rF : K158) (hF : H158 rF) : F218 rF hF 100000 0 9 (Rcs [[kl]]) (Rl [kl]) 0 3 F78 0 = some (.a0 1 (Rnd [kn])) := by
  have r3 : (J218_r3) rF hF (F218 rF hF 99999) (F218_ok rF hF 99999) (.mk 0 3 0 255 0 9 (Rcs [[kl]]) (Rl [kl]) F78 (Wl kl)) = some (.e0 (.mk 0 3 0 255 false 0 9 (Rcs [[kl]]) (Rl [kl]) F78 (Wl kl))) := by kernel_rfl
  have r6 : (J218_r6) rF hF (F218 rF hF 99999) (F218_ok rF hF 99999) (.mk 0 3 0 255 0 9 (Rcs [[kl]]) (Rl [kl]) F78 (Wl kl) (kM 3)) = some (.e0 (.mk 0 3 0 255 true 0 9 (Rcs [[kl]]) (Rl [kl]) F78 (Wl kl) (kM 3))) := by kernel_rfl
  have op : F22 (Wl kl) 3 = some (.a0 255) := by kernel_rfl
  have qc := qchain [kl] (fun l hl => by rw [List.mem_singleton.1 hl]; exact ⟨by decide, by decide, by decide, by decide, by decide, by decide, by decide, by decide, by decide⟩) 0 3
  have tk : F70 (Wl kl) 3 = 3 := by kernel_rfl
  have inn : F259 rF hF 0 9 (Rcs [[kl]]) (Wl kl) 3 (kM 3) 0 255 = some (.a0 1 (Rnd [kn])) := by
    have lp := in_loop rF hF [kit] (by decide) 18446744073709551616 0 [] (by decide) (by decide) rfl
    rw [show ((0 : Nat) : Int) = 0 from rfl, show Rnd [] = [] from rfl, show ([] : List Nd).length = 0 from rfl, show ([kit] : List It).length = 1 from rfl] at lp
    simp only [F259, D259, PT.ev, PT.test, dite_eq_ite, if_neg (show ¬ ((0 : Int) == 1) = true by decide), bnd_def, tk]
    refine (congrArg (fun o => Option.bind o _) kit0).trans ?_
    simp only [Option.bind_some, PT.ev]
    rw [show (((1 : Nat) : Int)) = 1 from rfl] at *
    rw [lp]
    rfl
  rw [show (100000 : Nat) = 99999 + 1 from rfl, F218_succ]
  simp only [D218, PT.ev, PT.test, dite_eq_ite, if_pos (show (0 : Int) ≤ 0 by decide), Int.toNat_zero, kl0, Option.bind_some, op]
  rw [r3]
  simp only [Option.bind_some, PT.ev, PT.test, dite_eq_ite, qc, qafter, Bool.false_eq_true, if_false]
  rw [r6]
  simp only [Option.bind_some, PT.ev, PT.test, dite_eq_ite, if_true, inn]
theorem klayer6 (rF : K158) (hF : H158 rF) : F218 rF hF 100000 0 9 (Rcs [[kl]]) (Rl [kl]) 0 6 F78 0 = some (.a0 0 []) := by
  have r3 : (J218_r3) rF hF (F218 rF hF 99999) (F218_ok rF hF 99999) (.mk 0 6 0 255 0 9 (Rcs [[kl]]) (Rl [kl]) F78 (Wl kl)) = some (.e0 (.mk 0 6 0 255 true 0 9 (Rcs [[kl]]) (Rl [kl]) F78 (Wl kl))) := by kernel_rfl
  have op : F22 (Wl kl) 6 = some (.a0 255) := by kernel_rfl
  rw [show (100000 : Nat) = 99999 + 1 from rfl, F218_succ]
  simp only [D218, PT.ev, PT.test, dite_eq_ite, if_pos (show (0 : Int) ≤ 0 by decide), Int.toNat_zero, kl0, Option.bind_some, op]
  rw [r3]
  rfl
theorem klist (t : Int) (ns : List Nd) (hn : ns.length ≤ 4) (h : ∀ (rF : K158) (hF : H158 rF), F218 rF hF 100000 0 9 (Rcs [[kl]]) (Rl [kl]) 0 t F78 0 = some (.a0 ns.length (Rnd ns))) : F33 0 9 (Rcs [[kl]]) t = some (.a0 ns.length (Rnd ns)) := by
  have lp : ∀ (rF : K158) (hF : H158 rF), L158_0 rF hF 18446744073709551616 (.s0 (.mk t 0 0 1 0 0 9 (Rcs [[kl]]) F78 [] (Rl [kl]))) = some (.e0 (.mk ns.length (Rnd ns))) := fun rF hF => by
    rw [show (18446744073709551616 : Nat) = 18446744073709551614 + 1 + 1 from rfl, L158_0_s0]
    have q : 0 + 0 ≤ ([] : List (List V)).length ∧ (0 + (Rnd ns).length) * 192 ≤ 140737488355328 ∧ 0 + (Rnd ns).length ≤ 140737488355328 := by rw [rnd_len]; simp; omega
    simp only [D158_0, PT.ev, PT.test, dite_eq_ite, if_pos (show (0 : Int) < 1 by decide), if_neg (show ¬ w64 ((0 : Int) + 1) < (((Rl [kl]).length : Nat) : Int) by decide), h, Option.bind_some, if_pos (show 0 + ns.length ≤ (Rnd ns).length by rw [rnd_len]; omega), rnd_all, if_pos q, N158_0.nx]
    rw [L158_0_s0]
    simp only [D158_0, PT.ev, PT.test, dite_eq_ite, if_neg (show ¬ w64 ((0 : Int) + 1) < 1 by decide), N158_0.nx, List.take_nil, List.nil_append, rnd_len, Nat.zero_add]
  simp only [F33, D33, F91, D91, PT.ev, PT.test, dite_eq_ite, Ws, bnd_def, kright, Option.bind_some]
  rw [if_neg (show ¬ ((0 : Int) != 0) = true by decide), if_neg (show ¬ (0 : Int) < 0 by decide), if_neg (show ¬ (0 : Int) ≥ (((Rcs [[kl]]).length : Nat) : Int) by decide)]
  rw [show (100000 : Nat) = 99999 + 1 from rfl, F158_succ]
  simp only [D158, J158_r1, D158_r1, PT.ev, PT.test, dite_eq_ite, if_neg (show ¬ (0 : Int) < 0 by decide), decide_eq_false (show ¬ (0 : Int) ≥ 4 by decide), Option.bind_some, Bool.false_eq_true, if_false, if_pos (show (0 : Int) ≤ 0 by decide), Int.toNat_zero, kc0]
  rw [show (((Rl [kl]).length : Nat) : Int) = 1 from rfl, lp]
  rfl
theorem known22 : F35 = some (.a0 true) := by
  have l3 := klist 3 [kn] (by decide) klayer3
  have l6 := klist 6 [] (by decide) klayer6
  have l0 : F33 0 0 [] 0 = some (.a0 0 []) := by kernel_rfl
  have g0 : ((Rnd [kn])[0]?).bind W87.dec = some kn := by rw [rnd_get]; rfl
  have bx : F94 100000 kn = some (.a0 (-1) (-1) 1 1) := by kernel_rfl
  have al : (kn.c17 == 255) = true := by kernel_rfl
  have sm : F34 100000 kn kn = some (.a0 true) := by kernel_rfl
  simp only [F35, D35, PT.ev, PT.test, dite_eq_ite]
  refine (congrArg (fun o => Option.bind o _) l3).trans ?_
  simp only [Option.bind_some, PT.ev, PT.test, dite_eq_ite, g0]
  rw [if_pos (by decide), if_pos (by decide), if_pos (by rfl), if_pos al]
  refine (congrArg (fun o => Option.bind o _) l6).trans ?_
  simp only [Option.bind_some, PT.ev, PT.test, dite_eq_ite]
  rw [if_pos (by decide), bx]
  simp only [Option.bind_some, PT.ev, PT.test, dite_eq_ite, sm, l0]
  rfl
end Go.Proofs.YtifalphladcdcaaGreat.H

/- Display lists of documents of tapes: how many nodes, how deep. Conditions: those stated. -/
namespace Go.Proofs.YtifalphladcdcaaGreat.H
open Go Go.VM
set_option maxRecDepth 100000
abbrev Nc := Nd × Nat × Nat
def sm : List Nc → Nat
  | [] => 0
  | x :: r => 1 + x.2.1 + x.2.2 + sm r
theorem sm_app : ∀ a b : List Nc, sm (a ++ b) = sm a + sm b
  | [], b => by simp [sm]
  | x :: a, b => by simp only [List.cons_append, sm, sm_app a b]; omega
theorem sm_len : ∀ a : List Nc, a.length ≤ sm a
  | [] => Nat.zero_le _
  | x :: a => by have := sm_len a; simp only [List.length_cons, sm]; omega
/-- Nodes, no deeper, and no more, than so many. -/
def Gb : Nat → Nat → List (List V) → Prop
  | 0, _, X => X = []
  | d + 1, c, X => ∃ a : List Nc, X = Rnd (a.map Prod.fst) ∧ sm a ≤ c ∧ ∀ x ∈ a, Pf x.1.c1 ∧ Pf x.1.c19 ∧ Gb d x.2.1 x.1.c18 ∧ Gb d x.2.2 x.1.c21
theorem Gb.nil : ∀ d c, Gb d c []
  | 0, _ => rfl
  | d + 1, c => ⟨[], rfl, Nat.zero_le _, by simp⟩
theorem Gb.inc : ∀ {d c : Nat} {X : List (List V)}, Gb d c X → Gb (d + 1) c X
  | 0, c, X, h => by rw [show X = [] from h]; exact Gb.nil 1 c
  | d + 1, c, X, ⟨a, h1, h2, h3⟩ => ⟨a, h1, h2, fun x hx => by
    obtain ⟨p, q, r, s⟩ := h3 x hx
    exact ⟨p, q, r.inc, s.inc⟩⟩
theorem Gb.le {d c : Nat} {X : List (List V)} (h : Gb d c X) : ∀ k, Gb (d + k) c X
  | 0 => h
  | k + 1 => (h.le k).inc
theorem Gb.mono {d e c : Nat} {X : List (List V)} (h : Gb d c X) (k : d ≤ e) : Gb e c X := by
  rw [show e = d + (e - d) by omega]; exact h.le _
theorem Pf.nil : Pf [] := ⟨[], rfl, by simp, by simp⟩
/-- The same of a list of nodes. -/
def Nb (d c : Nat) (ns : List Nd) : Prop := ∃ a : List Nc, ns = a.map Prod.fst ∧ sm a ≤ c ∧ ∀ x ∈ a, Pf x.1.c1 ∧ Pf x.1.c19 ∧ Gb d x.2.1 x.1.c18 ∧ Gb d x.2.2 x.1.c21
theorem Nb.gb {d c : Nat} {ns : List Nd} (h : Nb d c ns) : Gb (d + 1) c (Rnd ns) := by
  obtain ⟨a, rfl, h2, h3⟩ := h
  exact ⟨a, rfl, h2, h3⟩
theorem Nb.len {d c : Nat} {ns : List Nd} (h : Nb d c ns) : ns.length ≤ c := by
  obtain ⟨a, rfl, h2, _⟩ := h
  rw [List.length_map]; exact Nat.le_trans (sm_len a) h2
theorem Nb.nil (d c : Nat) : Nb d c [] := ⟨[], rfl, Nat.zero_le _, by simp⟩
theorem Nb.inc {d e c k : Nat} {ns : List Nd} (h : Nb d c ns) (h1 : d ≤ e) (h2 : c ≤ k) : Nb e k ns := by
  obtain ⟨a, rfl, h3, h4⟩ := h
  exact ⟨a, rfl, Nat.le_trans h3 h2, fun x hx => by
    obtain ⟨p, q, r, s⟩ := h4 x hx
    exact ⟨p, q, r.mono h1, s.mono h1⟩⟩
theorem Nb.app {d c k : Nat} {a b : List Nd} (h1 : Nb d c a) (h2 : Nb d k b) : Nb d (c + k) (a ++ b) := by
  obtain ⟨x, rfl, p1, p2⟩ := h1
  obtain ⟨y, rfl, q1, q2⟩ := h2
  exact ⟨x ++ y, by rw [List.map_append], by rw [sm_app]; omega, fun z hz => (List.mem_append.1 hz).elim (p2 z) (q2 z)⟩
theorem Nb.one {d p m : Nat} (n : Nd) (h1 : Pf n.c1) (h2 : Pf n.c19) (h3 : Gb d p n.c18) (h4 : Gb d m n.c21) : Nb d (1 + p + m) [n] :=
  ⟨[(n, p, m)], rfl, by simp only [sm]; omega, fun x hx => by rw [List.mem_singleton.1 hx]; exact ⟨h1, h2, h3, h4⟩⟩
theorem nb_items (d : Nat) : ∀ xs : List It, (∀ x ∈ xs, Pf x.c0) → Nb d xs.length (xs.map ndi)
  | [], _ => Nb.nil _ _
  | x :: xs, h => by
    have h1 := nb_items d xs (fun y hy => h y (List.mem_cons_of_mem _ hy))
    have h2 : Nb d (1 + 0 + 0) [ndi x] := Nb.one (ndi x) (h x (List.mem_cons_self ..)) Pf.nil (Gb.nil _ _) (Gb.nil _ _)
    have := h2.app h1
    rw [List.length_cons, List.map_cons]
    exact this.inc (Nat.le_refl _) (by omega)
def Tt : Nat → Nat
  | 0 => 2
  | r + 1 => 4 * (1 + Tt r)
theorem tt_le : ∀ r : Nat, r ≤ 3 → 2 ≤ Tt r ∧ Tt r ≤ 212 := by decide
/-- What a list of a comp not too far ahead comes to. -/
def Lb (C : List (List Ly)) (i o : Int) (r : Nat) (rF : K158) : Prop :=
  ∀ (c : Int) (t : Int) (M : Mt) (deep : Int), 0 ≤ c → c < (C.length : Int) → (C.length : Int) - c ≤ r → ∃ ns : List Nd, rF i o (Rcs C) c t M deep = some (.a0 ns.length (Rnd ns)) ∧ Nb (2 * r) (Tt r) ns
theorem inner2 (C : List (List Ly)) (i o deep : Int) (r : Nat) (hr : r ≤ 3) (rF : K158) (hF : H158 rF) (hL : Lb C i o r rF) (l : Ly) (g : Lq l) (hn : l.kind = 1 → 0 ≤ l.comp ∧ l.comp < (C.length : Int) ∧ (C.length : Int) - l.comp ≤ r) (t : Int) (M : Mt) (a : Int) :
    ∃ ns : List Nd, F259 rF hF i o (Rcs C) (Wl l) t M deep a = some (.a0 ns.length (Rnd ns)) ∧ Nb (2 * r) (Tt r) ns := by
  by_cases h : l.kind = 1
  · obtain ⟨h1, h2, h3⟩ := hn h
    obtain ⟨ns, e1, e2⟩ := hL l.comp (innerv l t) M (w64 (deep + 1)) h1 h2 h3
    have hk : (l.kind == 1) = true := by rw [beq_iff_eq]; exact h
    simp only [F259, D259, PT.ev, PT.test, dite_eq_ite, if_pos hk, qinner l g.sm, Option.bind_some, e1]
    exact ⟨ns, rfl, e2⟩
  · have hk : ¬ (l.kind == 1) = true := by rw [beq_iff_eq]; exact h
    obtain ⟨xs, e1, e2, e3⟩ := items1 l.s g.gm g.sr.wd g.sr.ds g.sr.cs g.sr.fr g.sr.to_ (F70 (Wl l) t) M a
    have lp := in_loop rF hF xs e2 18446744073709551616 0 [] (by omega) (by omega) rfl
    rw [show ((0 : Nat) : Int) = 0 from rfl, show Rnd [] = [] from rfl, show ([] : List Nd).length = 0 from rfl] at lp
    have lm : (xs.map ndi).length = xs.length := List.length_map ..
    have ht := tt_le r hr
    simp only [F259, D259, PT.ev, PT.test, dite_eq_ite, if_neg hk, bnd_def]
    refine ⟨xs.map ndi, (congrArg (fun o => Option.bind o _) e1).trans ?_, (nb_items (2 * r) xs e3).inc (Nat.le_refl _) (by omega)⟩
    simp only [Option.bind_some, lp, lm, PT.ev]
theorem layer2 (C : List (List Ly)) (ls : List Ly) (i o t deep : Int) (M : Mt) (r : Nat) (hr : r ≤ 3) (rF : K158) (hF : H158 rF) (hL : Lb C i o r rF)
    (gl : ls.length ≤ 4) (gy : ∀ l ∈ ls, Lq l ∧ (l.kind = 1 → 0 ≤ l.comp ∧ l.comp < (C.length : Int) ∧ (C.length : Int) - l.comp ≤ r)) (gm : ∀ (k : Nat) (h : k < ls.length), ls[k].mat ≠ 0 → 0 < k ∧ ∀ h' : k - 1 < ls.length, ls[k - 1].mat = 0) : ∀ (k n : Nat), k < n → (hk : k < ls.length) →
    ∃ ns : List Nd, F218 rF hF n i o (Rcs C) (Rl ls) k t M deep = some (.a0 ns.length (Rnd ns)) ∧ (ls[k].mat = 0 → Nb (2 * r + 1) (1 + Tt r) ns) ∧ Nb (2 * r + 2) (2 * (1 + Tt r)) ns
  | k, 0, h, _ => by omega
  | k, n + 1, h, hk => by
    have ht := tt_le r hr
    obtain ⟨g, gn⟩ := gy _ (List.getElem_mem hk)
    obtain ⟨b1, r3⟩ := ly_r3 rF hF (F218 rF hF n) (F218_ok rF hF n) k t deep (opacv ls[k] t) i o (Rcs C) (Rl ls) M (Wl ls[k])
    obtain ⟨b2, r6⟩ := ly_r6 rF hF (F218 rF hF n) (F218_ok rF hF n) k t deep (opacv ls[k] t) i o (Rcs C) (Rl ls) M (Wl ls[k]) (aftv M (chainv ls k t))
    have qc := qchain ls (fun l hl => (gy l hl).1.sm) k t
    rw [F218_succ]
    simp only [D218, PT.ev, PT.test, dite_eq_ite, if_pos (show (0 : Int) ≤ (k : Int) by omega), Int.toNat_natCast, rl_get, List.getElem?_eq_getElem hk, Option.map_some, Option.bind_some, qopac ls[k] g.sm]
    rw [r3]
    simp only [Option.bind_some, PT.ev, PT.test, dite_eq_ite, qc, qafter]
    cases b1 with
    | true => exact ⟨[], rfl, fun _ => Nb.nil _ _, Nb.nil _ _⟩
    | false =>
      simp only [Bool.false_eq_true, if_false]
      rw [r6]
      simp only [Option.bind_some, PT.ev, PT.test, dite_eq_ite]
      cases b2 with
      | true =>
        obtain ⟨ns, e1, e2⟩ := inner2 C i o deep r hr rF hF hL ls[k] g gn t (aftv M (chainv ls k t)) (opacv ls[k] t)
        simp only [if_true]
        exact ⟨ns, (congrArg (fun o => Option.bind o _) e1).trans rfl, fun _ => e2.inc (by omega) (by omega), e2.inc (by omega) (by omega)⟩
      | false =>
        obtain ⟨ns, e1, e2⟩ := inner2 C i o deep r hr rF hF hL ls[k] g gn t (aftv M (chainv ls k t)) 255
        obtain ⟨Q, q1, q2, q3⟩ := mask1 ls[k] g.mp (aftv M (chainv ls k t))
        have e3 := e2.gb
        have hn := e2.len
        have tn := rnd_all ns
        have tq := ro_all Q
        have ln : (Rnd ns).length = ns.length := rnd_len ns
        have lq := ro_len Q
        have pq : Pf (Ro Q) := ⟨Q, rfl, q2, by omega⟩
        have one : ∀ (how a : Int), Nb (2 * r + 1) (1 + Tt r) [ndg [] (Rnd ns) (Ro Q) how a] := fun how a => (Nb.one (d := 2 * r + 1) (p := Tt r) (m := 0) (ndg [] (Rnd ns) (Ro Q) how a) Pf.nil pq e3 (Gb.nil _ _)).inc (Nat.le_refl _) (by omega)
        simp only [Bool.false_eq_true, if_false]
        by_cases hmt : ((Wl ls[k]).c3 != 0) = true
        · have hm0 : ls[k].mat ≠ 0 := by rw [bne_iff_ne] at hmt; exact hmt
          obtain ⟨hk0', hpm⟩ := gm k hk hm0
          have hk0 : (k : Int) > 0 := by omega
          have hw : w64 ((k : Int) - 1) = ((k - 1 : Nat) : Int) := by rw [w64_in (by omega) (by omega)]; omega
          obtain ⟨ps, p1, p2, _⟩ := layer2 C ls i o t deep M r hr rF hF hL gl gy gm (k - 1) n (by omega) (by omega)
          have p3 := (p2 (hpm (by omega))).gb
          refine ⟨[ndg (Rnd ps) (Rnd ns) (Ro Q) ls[k].mat (opacv ls[k] t)], (congrArg (fun o => Option.bind o _) e1).trans ?_, fun h => absurd h hm0, (Nb.one (d := 2 * r + 2) (p := Tt r) (m := 1 + Tt r) (ndg (Rnd ps) (Rnd ns) (Ro Q) ls[k].mat (opacv ls[k] t)) Pf.nil pq (e3.mono (by omega)) p3).inc (Nat.le_refl _) (by omega)⟩
          simp only [Option.bind_some, PT.ev, PT.test, dite_eq_ite]
          refine (congrArg (fun o => Option.bind o _) q1).trans ?_
          simp only [Option.bind_some, PT.ev, PT.test, dite_eq_ite, if_pos hmt, if_pos hk0, hw, p1, Nat.zero_add, ln, lq, rnd_len, Nat.le_refl, if_true, tn, tq, rnd_all]
          rfl
        · refine ⟨[ndg [] (Rnd ns) (Ro Q) ls[k].mat (opacv ls[k] t)], (congrArg (fun o => Option.bind o _) e1).trans ?_, fun _ => one _ _, (one _ _).inc (by omega) (by omega)⟩
          simp only [Option.bind_some, PT.ev, PT.test, dite_eq_ite]
          refine (congrArg (fun o => Option.bind o _) q1).trans ?_
          simp only [Option.bind_some, PT.ev, PT.test, dite_eq_ite, if_neg hmt, Nat.zero_add, ln, lq, Nat.le_refl, if_true, tn, tq]
          rfl
theorem list_in2 (C : List (List Ly)) (ls : List Ly) (i o t deep : Int) (M : Mt) (r : Nat) (hr : r ≤ 3) (rF : K158) (hF : H158 rF) (hL : Lb C i o r rF)
    (gl : ls.length ≤ 4) (gy : ∀ l ∈ ls, Lq l ∧ (l.kind = 1 → 0 ≤ l.comp ∧ l.comp < (C.length : Int) ∧ (C.length : Int) - l.comp ≤ r)) (gm : ∀ (k : Nat) (h : k < ls.length), ls[k].mat ≠ 0 → 0 < k ∧ ∀ h' : k - 1 < ls.length, ls[k - 1].mat = 0) : ∀ (n k : Nat) (acc : List Nd) (c : Nat), k ≤ ls.length → ls.length < n + k → Nb (2 * r + 2) c acc → c ≤ k * (1 + Tt r) → (∀ h : k < ls.length, ls[k].mat ≠ 0 → c + (1 + Tt r) ≤ k * (1 + Tt r)) →
    ∃ ns : List Nd, L158_0 rF hF n (.s0 (.mk t deep acc.length ls.length k i o (Rcs C) M (Rnd acc) (Rl ls))) = some (.e0 (.mk ns.length (Rnd ns))) ∧ Nb (2 * r + 2) (Tt (r + 1)) ns
  | 0, k, acc, c, h1, h2, _, _, _ => by omega
  | n + 1, k, acc, c, h1, h2, h3, h4, h5 => by
    rw [L158_0_s0]
    have ht := tt_le r hr
    have hT : Tt (r + 1) = 4 * (1 + Tt r) := rfl
    by_cases h : k < ls.length
    · have hw : w64 ((k : Int) + 1) = ((k + 1 : Nat) : Int) := by rw [w64_in (by omega) (by omega)]; omega
      have hkm : k * (1 + Tt r) ≤ 3 * (1 + Tt r) := Nat.mul_le_mul_right _ (by omega)
      have hk1 : (k + 1) * (1 + Tt r) = k * (1 + Tt r) + (1 + Tt r) := Nat.succ_mul k _
      have h5' := h5 h
      obtain ⟨ns, e1, e2, e3⟩ := layer2 C ls i o t deep M r hr rF hF hL gl gy gm k 100000 (by omega) h
      have hn := e3.len
      have ha := h3.len
      have hp : Rnd acc ++ Rnd ns = Rnd (acc ++ ns) := by rw [Rnd, Rnd, Rnd, List.map_append]
      have hq : (acc.length + ns.length) * 192 ≤ 140737488355328 ∧ acc.length + ns.length ≤ 140737488355328 := by omega
      have go : (∀ h : k + 1 < ls.length, ¬ ls[k + 1].mat ≠ 0) → ∃ ms : List Nd, L158_0 rF hF n (.s0 (.mk t deep (acc.length + ns.length) ls.length (k + 1 : Nat) i o (Rcs C) M (Rnd (acc ++ ns)) (Rl ls))) = some (.e0 (.mk ms.length (Rnd ms))) ∧ Nb (2 * r + 2) (Tt (r + 1)) ms := fun hno => by
        have key : ∃ c', Nb (2 * r + 2) c' (acc ++ ns) ∧ c' ≤ (k + 1) * (1 + Tt r) := by
          by_cases hm : ls[k].mat = 0
          · exact ⟨c + (1 + Tt r), h3.app ((e2 hm).inc (by omega) (Nat.le_refl _)), by omega⟩
          · exact ⟨c + 2 * (1 + Tt r), h3.app e3, by have := h5' hm; omega⟩
        obtain ⟨c', k1, k2⟩ := key
        have := list_in2 C ls i o t deep M r hr rF hF hL gl gy gm n (k + 1) (acc ++ ns) c' h (by omega) k1 k2 (fun h hm => absurd hm (hno h))
        rw [List.length_append] at this
        exact this
      simp only [D158_0, PT.ev, PT.test, dite_eq_ite, rl_len, if_pos (show (k : Int) < (ls.length : Int) by omega), hw]
      by_cases h6 : ((k + 1 : Nat) : Int) < (ls.length : Int)
      · have hk2 : k + 1 < ls.length := by omega
        simp only [if_pos h6, if_pos (show (0 : Int) ≤ ((k + 1 : Nat) : Int) by omega), Int.toNat_natCast, rl_get, List.getElem?_eq_getElem hk2, Option.map_some, Option.bind_some, e1, Nat.zero_add, rnd_len, Nat.le_refl, true_and, if_true, rnd_all, hp, if_pos hq, hw, N158_0.nx]
        split
        · exact list_in2 C ls i o t deep M r hr rF hF hL gl gy gm n (k + 1) acc c h (by omega) h3 (by omega) (fun _ _ => by omega)
        · rename_i hx
          refine go (fun _ hm => hx ?_)
          rw [bne_iff_ne]; exact hm
      · simp only [if_neg h6, e1, Option.bind_some, PT.ev, PT.test, dite_eq_ite, Nat.zero_add, rnd_len, Nat.le_refl, true_and, if_true, rnd_all, hp, if_pos hq, hw, N158_0.nx]
        exact go (fun h => by omega)
    · have hkm : k * (1 + Tt r) ≤ 4 * (1 + Tt r) := Nat.mul_le_mul_right _ (by omega)
      simp only [D158_0, PT.ev, PT.test, dite_eq_ite, if_neg (show ¬ (k : Int) < (ls.length : Int) by omega), N158_0.nx]
      exact ⟨acc, rfl, h3.inc (Nat.le_refl _) (by omega)⟩
/-- Comps of a tape, once more: nested ones are behind, a matte's layer has none itself. -/
structure Cu (C : List (List Ly)) : Prop where
  t : Ct C
  behind : ∀ (c : Nat) (h : c < C.length), ∀ l ∈ C[c], l.kind = 1 → (c : Int) < l.comp
  mat : ∀ (c : Nat) (h : c < C.length) (k : Nat) (h' : k < C[c].length), C[c][k].mat ≠ 0 → 0 < k ∧ ∀ h'' : k - 1 < C[c].length, C[c][k - 1].mat = 0
theorem list2 (C : List (List Ly)) (g : Cu C) (i o : Int) : ∀ (r n : Nat), r ≤ 3 → r < n → Lb C i o r (F158 n)
  | r, 0, _, h => by omega
  | 0, n + 1, _, _ => fun c t M deep h1 h2 h3 => by omega
  | r + 1, n + 1, hr, hn => fun c t M deep h1 h2 h3 => by
    have ih := list2 C g i o r n (by omega) (by omega)
    have hc : c.toNat < C.length := by omega
    have hm := List.getElem_mem hc
    obtain ⟨_, gy⟩ := g.t.q.ly _ hm
    have gl := g.t.four _ hm
    obtain ⟨ns, e1, e2⟩ := list_in2 C C[c.toNat] i o t deep M r (by omega) (F158 n) (F158_ok n) ih gl (fun l hl => ⟨gy l hl, fun h => by
      obtain ⟨a, b⟩ := g.t.nest _ hm l hl h
      have := g.behind c.toNat hc l hl h
      exact ⟨a, b, by omega⟩⟩) (g.mat c.toNat hc) 18446744073709551616 0 [] 0 (by omega) (by omega) (Nb.nil _ _) (by omega) (fun h hm => by have := (g.mat c.toNat hc 0 h hm).1; omega)
    rw [show ((0 : Nat) : Int) = 0 from rfl, show Rnd [] = [] from rfl, show ([] : List Nd).length = 0 from rfl] at e1
    rw [F158_succ]
    by_cases d0 : deep < 0
    · simp only [D158, J158_r1, D158_r1, PT.ev, PT.test, dite_eq_ite, if_pos d0, Option.bind_some, if_true]
      exact ⟨[], rfl, Nb.nil _ _⟩
    · by_cases d1 : deep ≥ 4
      · simp only [D158, J158_r1, D158_r1, PT.ev, PT.test, dite_eq_ite, if_neg d0, decide_eq_true d1, Option.bind_some, if_true]
        exact ⟨[], rfl, Nb.nil _ _⟩
      · simp only [D158, J158_r1, D158_r1, PT.ev, PT.test, dite_eq_ite, if_neg d0, decide_eq_false d1, Option.bind_some, Bool.false_eq_true, if_false, if_pos h1, rcs_get, List.getElem?_eq_getElem hc, Option.map_some, rl_len]
        rw [e1]
        exact ⟨ns, rfl, e2⟩
/-- A document's list: not too deep, not too many. -/
theorem doclist2 (C : List (List Ly)) (g : Cu C) (h3 : C.length ≤ 3) (i o t : Int) : ∃ ns : List Nd, F33 i o (Rcs C) t = some (.a0 ns.length (Rnd ns)) ∧ Nb 6 212 ns := by
  obtain ⟨z, e⟩ := doc1 C g.t.q i o
  have L := list2 C g i o 3 100000 (by omega) (by omega)
  simp only [F33, D33, F91, D91, PT.ev, PT.test, dite_eq_ite, bnd_def, e, Option.bind_some, rcs_len]
  by_cases hz : (z != 0) = true
  · simp only [if_pos hz]; exact ⟨[], rfl, Nb.nil _ _⟩
  · simp only [if_neg hz]
    by_cases h0 : (0 : Int) ≥ (C.length : Int)
    · simp only [if_neg (show ¬ (0 : Int) < 0 by decide), if_pos h0]; exact ⟨[], rfl, Nb.nil _ _⟩
    · obtain ⟨ns, e1, e2⟩ := L 0 t F78 0 (by omega) (by omega) (by omega)
      simp only [if_neg (show ¬ (0 : Int) < 0 by decide), if_neg h0]
      exact ⟨ns, (congrArg (fun o => Option.bind o _) (congrArg (fun o => Option.bind o _) e1)).trans rfl, e2⟩
end Go.Proofs.YtifalphladcdcaaGreat.H

/- Documents judged by the document's own answer: that they are. Conditions: those stated. -/
namespace Go.Proofs.YtifalphladcdcaaGreat.H
open Go Go.VM
set_option maxRecDepth 100000
theorem ql_r1 (a : W57) : ∃ b, J96_r1 (.mk a) = some (.e0 (.mk b a)) := by
  simp only [J96_r1, D96_r1, PT.ev, PT.test, dite_eq_ite, Ws, bnd_def]
  repeat' split
  all_goals exact ⟨_, rfl⟩
theorem ql_r9 (l : Ly) (g : Lq l) : ∃ b, J96_r9 (.mk (Wl l)) = some (.e0 (.mk b (Wl l))) := by
  have e := rright l.mc l.mp g.mp
  simp only [J96_r9, D96_r9, PT.ev, PT.test, dite_eq_ite, Ws, e, Option.bind_some]
  repeat' split
  all_goals exact ⟨_, rfl⟩
theorem ql_loop (K : List (List Ky)) (hk : ∀ k ∈ K, (k.length : Int) < 4611686018427387904) (hl : K.length ≤ 1000) (a : W57) : ∀ (n i : Nat), i ≤ K.length → K.length < n + i →
    L96_0 n (.s0 (.mk K.length K.length i a (RK K))) = some .e0 ∨ L96_0 n (.s0 (.mk K.length K.length i a (RK K))) = some (.e1 (.mk a))
  | 0, i, h1, h2 => by omega
  | n + 1, i, h1, h2 => by
    rw [L96_0_s0]
    by_cases h : i < K.length
    · have hw : w64 ((i : Int) + 1) = ((i + 1 : Nat) : Int) := by rw [w64_in (by omega) (by omega)]; omega
      have ih := ql_loop K hk hl a n (i + 1) h (by omega)
      obtain ⟨b, _, e, _⟩ := kright_ex K[i] (hk _ (List.getElem_mem h))
      simp only [D96_0, PT.ev, PT.test, dite_eq_ite, Ws, if_pos (show (i : Int) < (K.length : Int) by omega), if_pos (show (0 : Int) ≤ (i : Int) ∧ (i : Int) < (K.length : Int) by omega), Nat.zero_add, Int.toNat_natCast, rK_get, List.getElem?_eq_getElem h, Option.map_some, Option.bind_some, e, hw, N96_0.nx]
      cases b with
      | true => exact ih
      | false => exact .inl rfl
    · simp only [D96_0, PT.ev, PT.test, dite_eq_ite, Ws, if_neg (show ¬ (i : Int) < (K.length : Int) by omega), N96_0.nx]
      first
        | exact .inr trivial
        | exact .inr rfl
theorem qsr1 (s : Shp) (g : Gr s) : ∃ b, F16 (Ws s) = some (.a0 b) := by
  obtain ⟨bw, w1, w2, w3⟩ := kright_ex s.w g.w
  obtain ⟨bh, h1, h2, h3⟩ := kright_ex s.h g.h
  obtain ⟨bp, p1, p2⟩ := keys_ex s.ps g.gw g.ps
  obtain ⟨bc, c1, c2, _⟩ := cright_ex s.cs g.cs
  obtain ⟨bd, d1, d2, _⟩ := dright_ex s.ds g.ds
  obtain ⟨b1, x1, x2, _⟩ := kright_ex s.wd g.wd
  obtain ⟨b2, y1, y2, _⟩ := kright_ex s.fr g.fr
  obtain ⟨b3, z1, z2, _⟩ := kright_ex s.to_ g.to_
  have zw : s.w.length = 0 → bw = true := fun h => w3 (fun j hj => by omega) (by omega)
  have zh : s.h.length = 0 → bh = true := fun h => h3 (fun j hj => by omega) (by omega)
  have zp : s.ps.length = 0 → bp = true := fun h => by
    rw [List.eq_nil_of_length_eq_zero h] at p1
    have e : F112 (Rk []) = some (.a0 true) := by kernel_rfl
    rw [e] at p1; cases p1; rfl
  have e1 : (J16_r1) (.mk (Ws s)) = some (.e0 (.mk (!oneB s.form s.n) (Ws s))) := rone s s.form s.n
  have e2 : (J16_r3) (.mk (Ws s)) = some (.e0 (.mk (!twoB s.form s.w.length s.h.length s.ps.length bw bh bp) (Ws s))) := rtwo s s.form s.n bw bh bp w2 h2 p2 g.w g.h zw zh zp
  simp (config := { maxSteps := 4000000 }) only [F16, D16, PT.ev, PT.test, dite_eq_ite]
  rw [e1]
  simp only [Option.bind_some, PT.ev]
  by_cases hb : (!oneB s.form s.n) = true
  · rw [if_pos hb]; exact ⟨_, rfl⟩
  · rw [if_neg hb, e2]
    simp only [Option.bind_some, PT.ev]
    by_cases hc : (!twoB s.form s.w.length s.h.length s.ps.length bw bh bp) = true
    · rw [if_pos hc]; exact ⟨_, rfl⟩
    · rw [if_neg hc]
      simp only [PT.ev, PT.test, dite_eq_ite, Ws, bnd_def, c2, d2, x2, y2, z2, Option.bind_some]
      cases bc <;> cases b1 <;> cases b2 <;> cases b3 <;> simp only [if_true, Bool.false_eq_true, if_false] <;> (repeat' split) <;> exact ⟨_, rfl⟩
theorem ql1 (l : Ly) (g : Lq l) : ∃ b, F96 (Wl l) = some (.a0 b) := by
  have s := g.sm
  obtain ⟨b1, e1⟩ := ql_r1 (Wl l)
  obtain ⟨b2, e2⟩ := ql_r9 l g
  obtain ⟨b3, e3⟩ := qsr1 l.s g.sr
  have lp := ql_loop [l.x, l.y, l.ax, l.ay, l.sx, l.sy, l.tu, l.op, l.re] (fun k hk => by
    simp only [List.mem_cons, List.not_mem_nil, or_false] at hk
    rcases hk with rfl | rfl | rfl | rfl | rfl | rfl | rfl | rfl | rfl
    · exact s.x
    · exact s.y
    · exact s.ax
    · exact s.ay
    · exact s.sx
    · exact s.sy
    · exact s.tu
    · exact s.op
    · exact s.re) (by show 9 ≤ 1000; decide) (Wl l) 18446744073709551616 0 (by show 0 ≤ 9; decide) (by show 9 < 18446744073709551616 + 0; decide)
  replace lp : L96_0 18446744073709551616 (.s0 (.mk 9 ((9 : Nat) : Int) 0 (Wl l) (RK [l.x, l.y, l.ax, l.ay, l.sx, l.sy, l.tu, l.op, l.re]))) = some .e0 ∨ L96_0 18446744073709551616 (.s0 (.mk 9 ((9 : Nat) : Int) 0 (Wl l) (RK [l.x, l.y, l.ax, l.ay, l.sx, l.sy, l.tu, l.op, l.re]))) = some (.e1 (.mk (Wl l))) := lp
  generalize hR : RK [l.x, l.y, l.ax, l.ay, l.sx, l.sy, l.tu, l.op, l.re] = R at lp
  have ek : F163 (Wl l) = some (.a0 9 R) := by rw [← hR]; rfl
  simp only [F96, D96, PT.ev, PT.test, dite_eq_ite]
  rw [e1]
  simp only [Option.bind_some, PT.ev]
  split
  · exact ⟨_, rfl⟩
  · rw [ek]
    simp only [Option.bind_some, PT.ev]
    rcases lp with h | h
    · rw [h]; exact ⟨_, rfl⟩
    · rw [h]
      simp only [Option.bind_some, PT.ev]
      rw [e2]
      simp only [Option.bind_some, PT.ev, PT.test, dite_eq_ite, bnd_def]
      split
      · exact ⟨_, rfl⟩
      · split
        · exact ⟨_, rfl⟩
        · split
          · split
            · exact ⟨b3, (congrArg (fun o => Option.bind o _) e3).trans rfl⟩
            · exact ⟨_, rfl⟩
          · exact ⟨_, rfl⟩
/-! ### Trees -/
theorem qt_r4 (c k n z1 z2 : Int) (X : List (List V)) (ls : List Ly) (a : W57) : ∃ b, J97_r4 (.mk c k (Rl ls) n z1 z2 X a) = some (.e0 (.mk c k (Rl ls) n b z1 z2 X a)) := by
  simp only [J97_r4, D97_r4, PT.ev, PT.test, dite_eq_ite, Ws]
  repeat' split
  all_goals exact ⟨_, rfl⟩
theorem qt_r14 (c z1 z2 : Int) (X : List (List V)) (ls : List Ly) (hl : ls.length ≤ 1000000) (k : Nat) (hk : k < ls.length) (a : W57) : ∃ b, J97_r14 (.mk c k (Rl ls) z1 z2 X a) = some (.e0 (.mk c b z1 z2 X a)) := by
  simp only [J97_r14, D97_r14, PT.ev, PT.test, dite_eq_ite, Ws]
  by_cases h : (a.c3 != 0) = true
  · rw [if_pos h]
    by_cases hz : ((k : Int) == 0) = true
    · rw [if_pos hz]; exact ⟨_, rfl⟩
    · have hk0 : 0 < k := by
        rw [beq_iff_eq] at hz; omega
      have hw : w64 ((k : Int) - 1) = ((k - 1 : Nat) : Int) := by rw [w64_in (by omega) (by omega)]; omega
      rw [if_neg hz, hw, if_pos (by omega), Int.toNat_natCast, rl_get, List.getElem?_eq_getElem (by omega)]
      exact ⟨_, rfl⟩
  · rw [if_neg h]; exact ⟨_, rfl⟩
theorem qt_loop (ls : List Ly) (hl : ls.length ≤ 1000000) (c k z1 z2 : Int) (X : List (List V)) (a : W57) : ∀ (n j : Nat) (q : Int), j ≤ ls.length → ls.length < n + j → 0 ≤ q → q < (ls.length : Int) →
    L97_0 n (.s0 (.mk c k (Rl ls) ls.length q j z1 z2 X a)) = some .e1 ∨ L97_0 n (.s0 (.mk c k (Rl ls) ls.length q j z1 z2 X a)) = some (.e0 (.mk c k (Rl ls) z1 z2 X a))
  | 0, j, q, h1, h2, _, _ => by omega
  | n + 1, j, q, h1, h2, h3, h4 => by
    rw [L97_0_s0]
    by_cases h : j < ls.length
    · have hw : w64 ((j : Int) + 1) = ((j + 1 : Nat) : Int) := by rw [w64_in (by omega) (by omega)]; omega
      have hi : q.toNat < ls.length := by omega
      simp only [D97_0, PT.ev, PT.test, dite_eq_ite, Ws, if_pos (show (j : Int) < (ls.length : Int) by omega), if_pos h3, rl_get, List.getElem?_eq_getElem hi, Option.map_some, Option.bind_some, hw, N97_0.nx]
      by_cases p1 : ls[q.toNat].par < 0
      · rw [if_pos p1]; exact .inr rfl
      · by_cases p2 : ls[q.toNat].par ≥ (ls.length : Int)
        · rw [if_neg p1, if_pos p2]; exact .inr rfl
        · rw [if_neg p1, if_neg p2]
          split
          · exact .inl rfl
          · exact qt_loop ls hl c k z1 z2 X a n (j + 1) _ h (by omega) (by omega) (by omega)
    · simp only [D97_0, PT.ev, PT.test, dite_eq_ite, Ws, if_neg (show ¬ (j : Int) < (ls.length : Int) by omega), N97_0.nx]
      first
        | exact .inr trivial
        | exact .inr rfl
theorem qt1 (C : List (List Ly)) (hC : ∀ c ∈ C, c.length ≤ 1000000) (i o : Int) (c k : Nat) (hc : c < C.length) (hk : k < C[c].length) : ∃ b, F97 i o (Rcs C) c k = some (.a0 b) := by
  have hl := hC _ (List.getElem_mem hc)
  generalize hls : C[c] = ls at *
  obtain ⟨b1, e1⟩ := qt_r4 c k ls.length i o (Rcs C) ls (Wl ls[k])
  obtain ⟨b2, e2⟩ := qt_r14 c i o (Rcs C) ls hl k hk (Wl ls[k])
  have lp := qt_loop ls hl c k i o (Rcs C) (Wl ls[k]) 18446744073709551616 0 k (by omega) (by omega) (by omega) (by omega)
  rw [show ((0 : Nat) : Int) = 0 from rfl] at lp
  simp only [F97, D97, PT.ev, PT.test, dite_eq_ite, if_pos (show (0 : Int) ≤ (c : Int) by omega), if_pos (show (0 : Int) ≤ (k : Int) by omega), Int.toNat_natCast, rcs_get, List.getElem?_eq_getElem hc, hls, Option.map_some, Option.bind_some, rl_get, List.getElem?_eq_getElem hk, rl_len]
  rw [e1]
  simp only [Option.bind_some, PT.ev]
  split
  · exact ⟨_, rfl⟩
  · rcases lp with h | h
    · rw [h]; exact ⟨_, rfl⟩
    · rw [h]
      simp only [Option.bind_some, PT.ev]
      rw [e2]
      simp only [Option.bind_some, PT.ev, PT.test, dite_eq_ite]
      repeat' split
      all_goals exact ⟨_, rfl⟩
/-! ### Sizes -/
theorem qs_r8 (L : Nat) (c n j z1 z2 : Int) (P X y z : List (List V)) (a : W57) : ∃ b, J165_r8 (.mk L c P n j z1 z2 X y z a) = some (.e0 (.mk L c b P n j z1 z2 X y z a)) ∧ (b = true → c < a.c2 ∧ a.c2 < (X.length : Int)) := by
  simp only [J165_r8, D165_r8, PT.ev, PT.test, dite_eq_ite, Ws]
  by_cases h1 : (a.c0 == 1) = true
  · by_cases h2 : a.c2 > c
    · rw [if_pos h1, if_pos h2]; exact ⟨_, rfl, fun h => ⟨h2, of_decide_eq_true h⟩⟩
    · rw [if_pos h1, if_neg h2]; exact ⟨_, rfl, fun h => by cases h⟩
  · rw [if_neg h1]; exact ⟨_, rfl, fun h => by cases h⟩
theorem qs_c56 (L c : Nat) (hc : c < L) (b u : Bool) (n j z1 z2 : Int) (P X z : List (List V)) (xs : List W3) (hx : xs.length = L) (a : W57) : ∃ xs' : List W3, J165_c56 (.mk L c b P n j u z1 z2 X (Rt xs) z a) = some (.e0 (.mk L c b P n j z1 z2 X (Rt xs') z a)) ∧ xs'.length = L := by
  have q1 : (0 : Int) ≤ (c : Int) ∧ (c : Int) < (L : Int) := by omega
  have hi : c < xs.length := by omega
  simp only [J165_c56, D165_c56, J165_c65, D165_c65, PT.ev, PT.test, dite_eq_ite, Ws, if_pos q1, Nat.zero_add, Int.toNat_natCast, rt_get, List.getElem?_eq_getElem hi, Option.bind_some, rt_set]
  cases u with
  | true => exact ⟨_, rfl, by rw [List.length_set]; exact hx⟩
  | false =>
    simp only [Bool.false_eq_true, if_false]
    by_cases h : (a.c0 == 0) = true
    · simp only [if_pos h, Option.bind_some]
      exact ⟨_, rfl, by rw [List.length_set]; exact hx⟩
    · simp only [if_neg h, Option.bind_some]
      exact ⟨xs, rfl, hx⟩
theorem qs_in (C : List (List Ly)) (ls : List Ly) (hl : ls.length ≤ 1000000) (i o : Int) (c : Nat) (hc : c < C.length) : ∀ (n k : Nat) (xs ys : List W3), k ≤ ls.length → ls.length < n + k → xs.length = C.length → ys.length = C.length →
    ∃ xs' ys' : List W3, L165_2 n (.s0 (.mk C.length c (Rl ls) ls.length k i o (Rcs C) (Rt xs) (Rt ys))) = some (.e0 (.mk C.length c i o (Rcs C) (Rt xs') (Rt ys'))) ∧ xs'.length = C.length ∧ ys'.length = C.length
  | 0, k, xs, ys, h1, h2, _, _ => by omega
  | n + 1, k, xs, ys, h1, h2, h3, h4 => by
    rw [L165_2_s0]
    by_cases h : k < ls.length
    · have hw : w64 ((k : Int) + 1) = ((k + 1 : Nat) : Int) := by rw [w64_in (by omega) (by omega)]; omega
      have q1 : (0 : Int) ≤ (c : Int) ∧ (c : Int) < (C.length : Int) := by omega
      obtain ⟨b, e1, hb⟩ := qs_r8 C.length c ls.length k i o (Rl ls) (Rcs C) (Rt xs) (Rt ys) (Wl ls[k])
      obtain ⟨x1, e2, l1⟩ := qs_c56 C.length c hc b ((Wl ls[k]).c0 == 1) ls.length k i o (Rl ls) (Rcs C) (Rt ys) xs h3 (Wl ls[k])
      have ih := fun xs ys h3 h4 => qs_in C ls hl i o c hc n (k + 1) xs ys h (by omega) h3 h4
      have hi : c < x1.length := by omega
      have hj : c < ys.length := by omega
      simp only [D165_2, PT.ev, PT.test, dite_eq_ite, if_pos (show (k : Int) < (ls.length : Int) by omega), if_pos (show (0 : Int) ≤ (k : Int) by omega), Int.toNat_natCast, rl_get, List.getElem?_eq_getElem h, Option.map_some, Option.bind_some]
      rw [e1]
      simp only [Option.bind_some, PT.ev]
      rw [e2]
      simp only [Option.bind_some, PT.ev, PT.test, dite_eq_ite, hw, N165_2.nx]
      cases b with
      | true =>
        obtain ⟨p1, p2⟩ := hb rfl
        rw [rcs_len] at p2
        have hm : (Wl ls[k]).c2.toNat < x1.length := by omega
        have hm' : (Wl ls[k]).c2.toNat < ys.length := by omega
        have hs : ∀ (u : Int), c < (x1.set c ⟨u⟩).length := fun u => by rw [List.length_set]; exact hi
        simp only [if_true, if_pos q1, if_pos (show 0 ≤ (Wl ls[k]).c2 ∧ (Wl ls[k]).c2 < (C.length : Int) by omega), Nat.zero_add, Int.toNat_natCast, rt_get, List.getElem?_eq_getElem hi, List.getElem?_eq_getElem hj, List.getElem?_eq_getElem hm, List.getElem?_eq_getElem hm', Option.bind_some, rt_set, List.getElem?_eq_getElem (hs _)]
        exact ih _ _ (by rw [List.length_set, List.length_set]; exact l1) (by rw [List.length_set]; exact h4)
      | false =>
        simp only [Bool.false_eq_true, if_false, if_pos q1, Nat.zero_add, Int.toNat_natCast, rt_get, List.getElem?_eq_getElem hi, Option.bind_some, rt_set]
        exact ih _ _ (by rw [List.length_set]; exact l1) h4
    · simp only [D165_2, PT.ev, PT.test, dite_eq_ite, Ws, if_neg (show ¬ (k : Int) < (ls.length : Int) by omega), N165_2.nx]
      exact ⟨xs, ys, rfl, h3, h4⟩
theorem qs_out (C : List (List Ly)) (g : Cq C) (i o : Int) : ∀ (m n : Nat) (xs ys : List W3), xs.length = C.length → ys.length = C.length → m ≤ C.length → m < n →
    ∃ xs' ys' : List W3, L165_0 n (.s0 (.mk C.length ((m : Int) - 1) i o (Rcs C) (Rt xs) (Rt ys))) = some (.e0 (.mk C.length (Rt xs') (Rt ys'))) ∧ xs'.length = C.length ∧ ys'.length = C.length
  | _, 0, _, _, _, _, _, h => by omega
  | 0, n + 1, xs, ys, h0, h1, h2, h3 => by
    rw [L165_0_s0]
    simp only [D165_0, PT.ev, PT.test, dite_eq_ite, Ws, if_neg (show ¬ (((0 : Nat) : Int) - 1 ≥ 0) by omega), N165_0.nx]
    exact ⟨xs, ys, rfl, h0, h1⟩
  | m + 1, n + 1, xs, ys, h0, h1, h2, h3 => by
    have hg := g.len
    have hm : m < C.length := by omega
    have e : ((m + 1 : Nat) : Int) - 1 = (m : Int) := by omega
    have hw : w64 ((m : Int) - 1) = (m : Int) - 1 := w64_in (by omega) (by omega)
    obtain ⟨x1, y1, er, l1, l2⟩ := qs_in C C[m] (g.ly _ (List.getElem_mem hm)).1 i o m hm 18446744073709551616 0 xs ys (by omega) (by have := (g.ly _ (List.getElem_mem hm)).1; omega) h0 h1
    rw [show ((0 : Nat) : Int) = 0 from rfl] at er
    have hj : m < y1.length := by omega
    obtain ⟨x2, y2, e1, e2, e3⟩ := qs_out C g i o m n x1 (y1.set m ⟨w64 (y1[m].c0 + 1)⟩) l1 (by rw [List.length_set]; exact l2) (by omega) (by omega)
    rw [L165_0_s0]
    simp only [D165_0, PT.ev, PT.test, dite_eq_ite, Ws, e, if_pos (show (m : Int) ≥ 0 by omega), if_pos (show (0 : Int) ≤ (m : Int) by omega), Int.toNat_natCast, rcs_get, List.getElem?_eq_getElem hm, Option.map_some, Option.bind_some, rl_len]
    rw [er]
    simp only [Option.bind_some, PT.ev, PT.test, dite_eq_ite, Ws, if_pos (show (0 : Int) ≤ (m : Int) ∧ (m : Int) < (C.length : Int) by omega), Nat.zero_add, Int.toNat_natCast, rt_get, List.getElem?_eq_getElem hj, rt_set, hw, N165_0.nx]
    exact ⟨x2, y2, e1, e2, e3⟩
theorem qs1 (C : List (List Ly)) (g : Cq C) (i o : Int) : ∃ xs ys : List W3, F165 i o (Rcs C) = some (.a0 C.length C.length (Rt xs) (Rt ys)) ∧ xs.length = C.length ∧ ys.length = C.length := by
  have hg := g.len
  have hw : w64 ((C.length : Int) - 1) = (C.length : Int) - 1 := w64_in (by omega) (by omega)
  obtain ⟨xs, ys, e1, e2, e3⟩ := qs_out C g i o C.length 18446744073709551616 (List.replicate C.length ⟨0⟩) (List.replicate C.length ⟨0⟩) List.length_replicate List.length_replicate (Nat.le_refl _) (by omega)
  simp only [F165, D165, PT.ev, PT.test, dite_eq_ite, Ws, rcs_len, if_pos (show 0 ≤ (C.length : Int) ∧ (C.length : Int) ≤ (C.length : Int) ∧ (C.length : Int) ≤ 140737488355328 ∧ (C.length : Int) * 8 ≤ 140737488355328 by omega), Int.toNat_natCast, rt_rep, hw, e1, Option.bind_some]
  exact ⟨xs, ys, rfl, e2, e3⟩
theorem qdeep1 (C : List (List Ly)) (g : Cq C) (i o : Int) : ∃ z, F98 i o (Rcs C) 0 = some (.a0 z) := by
  obtain ⟨xs, ys, e1, e2, e3⟩ := qs1 C g i o
  simp only [F98, D98, PT.ev, PT.test, dite_eq_ite, Ws, rcs_len, e1, Option.bind_some, if_neg (show ¬ (0 : Int) < 0 by decide)]
  by_cases h : (0 : Int) ≥ (C.length : Int)
  · rw [if_pos h]; exact ⟨_, rfl⟩
  · have h1 : 0 < xs.length := by omega
    have h2 : 0 < ys.length := by omega
    rw [if_neg h, if_pos (by omega)]
    simp only [Nat.zero_add, Int.toNat_zero, rt_get, List.getElem?_eq_getElem h1, List.getElem?_eq_getElem h2, Option.bind_some]
    exact ⟨_, rfl⟩
theorem qnodes1 (C : List (List Ly)) (g : Cq C) (i o : Int) : ∃ z, F99 i o (Rcs C) 0 = some (.a0 z) := by
  obtain ⟨xs, ys, e1, e2, e3⟩ := qs1 C g i o
  simp only [F99, D99, PT.ev, PT.test, dite_eq_ite, Ws, rcs_len, e1, Option.bind_some, if_neg (show ¬ (0 : Int) < 0 by decide)]
  by_cases h : (0 : Int) ≥ (C.length : Int)
  · rw [if_pos h]; exact ⟨_, rfl⟩
  · have h1 : 0 < xs.length := by omega
    have h2 : 0 < ys.length := by omega
    rw [if_neg h, if_pos (by omega)]
    simp only [Nat.zero_add, Int.toNat_zero, rt_get, List.getElem?_eq_getElem h1, List.getElem?_eq_getElem h2, Option.bind_some]
    exact ⟨_, rfl⟩
/-! ### Documents -/
theorem qr_4 (C : List (List Ly)) (g : Cq C) (i o : Int) (c : Nat) (hc : c < C.length) : ∀ (n k : Nat), k ≤ C[c].length → C[c].length < n + k →
    (∃ z, L36_4 n (.s0 (.mk c (Rcs C) C.length (Rl C[c]) C[c].length k i o)) = some (.e0 (.mk z))) ∨ L36_4 n (.s0 (.mk c (Rcs C) C.length (Rl C[c]) C[c].length k i o)) = some (.e1 (.mk (Rcs C) C.length c i o))
  | 0, k, h1, h2 => by omega
  | n + 1, k, h1, h2 => by
    rw [L36_4_s0]
    obtain ⟨gl, gy⟩ := g.ly _ (List.getElem_mem hc)
    by_cases h : k < C[c].length
    · have hw : w64 ((k : Int) + 1) = ((k + 1 : Nat) : Int) := by rw [w64_in (by omega) (by omega)]; omega
      obtain ⟨b1, e1⟩ := ql1 (C[c][k]) (gy _ (List.getElem_mem h))
      obtain ⟨b2, e2⟩ := qt1 C (fun c hc => (g.ly c hc).1) i o c k hc h
      have ih := qr_4 C g i o c hc n (k + 1) h (by omega)
      simp only [D36_4, PT.ev, PT.test, dite_eq_ite, Ws, if_pos (show (k : Int) < (C[c].length : Int) by omega), if_pos (show (0 : Int) ≤ (k : Int) by omega), Int.toNat_natCast, rl_get, List.getElem?_eq_getElem h, Option.map_some, Option.bind_some, e2, hw, N36_4.nx, N36_4.nx]
      cases b1 with
      | false => exact .inl ⟨14, (congrArg (fun o => Option.bind o _) e1).trans rfl⟩
      | true =>
        cases b2 with
        | false => exact .inl ⟨15, (congrArg (fun o => Option.bind o _) e1).trans rfl⟩
        | true =>
          rcases ih with ⟨z, ih⟩ | ih
          · exact .inl ⟨z, (congrArg (fun o => Option.bind o _) e1).trans ih⟩
          · exact .inr ((congrArg (fun o => Option.bind o _) e1).trans ih)
    · simp only [D36_4, PT.ev, PT.test, dite_eq_ite, Ws, if_neg (show ¬ (k : Int) < (C[c].length : Int) by omega), N36_4.nx]
      first
        | exact .inr trivial
        | exact .inr rfl
theorem qr_2 (C : List (List Ly)) (g : Cq C) (i o : Int) : ∀ (n c : Nat), c ≤ C.length → C.length < n + c →
    (∃ z, L36_2 n (.s0 (.mk (Rcs C) C.length c i o)) = some (.e0 (.mk z))) ∨ L36_2 n (.s0 (.mk (Rcs C) C.length c i o)) = some (.e1 (.mk i o (Rcs C)))
  | 0, c, h1, h2 => by omega
  | n + 1, c, h1, h2 => by
    rw [L36_2_s0]
    have hl := g.len
    by_cases h : c < C.length
    · have hw : w64 ((c : Int) + 1) = ((c + 1 : Nat) : Int) := by rw [w64_in (by omega) (by omega)]; omega
      obtain ⟨gl, gy⟩ := g.ly _ (List.getElem_mem h)
      have inn := qr_4 C g i o c h 18446744073709551616 0 (by omega) (by omega)
      rw [show ((0 : Nat) : Int) = 0 from rfl] at inn
      have ih := qr_2 C g i o n (c + 1) h (by omega)
      simp only [D36_2, PT.ev, PT.test, dite_eq_ite, Ws, if_pos (show (c : Int) < (C.length : Int) by omega), if_pos (show (0 : Int) ≤ (c : Int) by omega), Int.toNat_natCast, rcs_get, List.getElem?_eq_getElem h, Option.map_some, Option.bind_some, rl_len, hw, N36_2.nx, N36_2.nx]
      rcases inn with ⟨z, e⟩ | e <;> rw [e]
      · exact .inl ⟨z, rfl⟩
      · simp only [Option.bind_some, PT.ev, PT.test, dite_eq_ite, Ws, hw, N36_2.nx]
        exact ih
    · simp only [D36_2, PT.ev, PT.test, dite_eq_ite, Ws, if_neg (show ¬ (c : Int) < (C.length : Int) by omega), N36_2.nx]
      first
        | exact .inr trivial
        | exact .inr rfl
theorem qr_0 (C : List (List Ly)) (g : Cq C) (i o : Int) : ∀ (n c : Nat), c ≤ C.length → C.length < n + c →
    L36_0 n (.s0 (.mk (Rcs C) C.length c i o)) = some .e0 ∨ L36_0 n (.s0 (.mk (Rcs C) C.length c i o)) = some (.e1 (.mk i o (Rcs C)))
  | 0, c, h1, h2 => by omega
  | n + 1, c, h1, h2 => by
    rw [L36_0_s0]
    have hl := g.len
    by_cases h : c < C.length
    · have hw : w64 ((c : Int) + 1) = ((c + 1 : Nat) : Int) := by rw [w64_in (by omega) (by omega)]; omega
      have ih := qr_0 C g i o n (c + 1) h (by omega)
      simp only [D36_0, PT.ev, PT.test, dite_eq_ite, Ws, if_pos (show (c : Int) < (C.length : Int) by omega), if_pos (show (0 : Int) ≤ (c : Int) by omega), Int.toNat_natCast, rcs_get, List.getElem?_eq_getElem h, Option.map_some, Option.bind_some, hw, N36_0.nx]
      split
      · exact .inl rfl
      · exact ih
    · simp only [D36_0, PT.ev, PT.test, dite_eq_ite, Ws, if_neg (show ¬ (c : Int) < (C.length : Int) by omega), N36_0.nx]
      first
        | exact .inr trivial
        | exact .inr rfl
theorem qr_r1 (i o : Int) (X : List (List V)) : ∃ b, J36_r1 (.mk i o X) = some (.e0 (.mk b i o X)) := by
  simp only [J36_r1, D36_r1, PT.ev, PT.test, dite_eq_ite, Ws]
  repeat' split
  all_goals exact ⟨_, rfl⟩
theorem qr_r9 (i o : Int) (X : List (List V)) : ∃ b, J36_r9 (.mk i o X) = some (.e0 (.mk b i o X)) := by
  simp only [J36_r9, D36_r9, PT.ev, PT.test, dite_eq_ite, Ws, bnd_def]
  repeat' split
  all_goals exact ⟨_, rfl⟩
/-- The document's own answer, too, is told. -/
theorem qdoc1 (C : List (List Ly)) (g : Cq C) (i o : Int) : ∃ z, F36 i o (Rcs C) = some (.a0 z) := by
  have hl := g.len
  obtain ⟨b1, e1⟩ := qr_r1 i o (Rcs C)
  obtain ⟨b2, e2⟩ := qr_r9 i o (Rcs C)
  have l0 := qr_0 C g i o 18446744073709551616 0 (by omega) (by omega)
  have l2 := qr_2 C g i o 18446744073709551616 0 (by omega) (by omega)
  rw [show ((0 : Nat) : Int) = 0 from rfl] at l0 l2
  obtain ⟨z5, e5⟩ := qdeep1 C g i o
  obtain ⟨z6, e6⟩ := qnodes1 C g i o
  simp only [F36, D36, PT.ev, PT.test, dite_eq_ite]
  rw [e1]
  simp only [Option.bind_some, PT.ev, rcs_len]
  split
  · exact ⟨_, rfl⟩
  · rcases l0 with h | h
    · rw [h]; exact ⟨_, rfl⟩
    · rw [h]
      simp only [Option.bind_some, PT.ev]
      rw [e2]
      simp only [Option.bind_some, PT.ev, rcs_len]
      split
      · exact ⟨_, rfl⟩
      · rcases l2 with ⟨z, h⟩ | h
        · rw [h]; exact ⟨_, rfl⟩
        · rw [h]
          simp only [Option.bind_some, PT.ev, PT.test, dite_eq_ite, e5, e6]
          repeat' split
          all_goals exact ⟨_, rfl⟩
end Go.Proofs.YtifalphladcdcaaGreat.H

/- SceneBounds in plain Lean. Conditions: those stated. -/
namespace Go.Proofs.YtifalphladcdcaaGreat.H
open Go Go.VM
set_option maxRecDepth 100000
theorem sm_mem : ∀ (a : List Nc) (x : Nc), x ∈ a → x.2.1 ≤ sm a ∧ x.2.2 ≤ sm a
  | [], x, h => absurd h List.not_mem_nil
  | y :: a, x, h => by
    simp only [sm]
    rcases List.mem_cons.1 h with rfl | h
    · omega
    · have := sm_mem a x h; omega
theorem w4_loop (rF : K37) (hF : H37 rF) (ps : List Pt) (hl : ps.length ≤ 1000000) (hp : ∀ p ∈ ps, Fr p) (dp m o q s : Int) (p : Nat) (l v : List (List V)) : ∀ (n i : Nat), i ≤ ps.length → ps.length < n + i → L37_4 rF hF n (.s0 (.mk dp l m o p q s (Rp ps) ps.length i v)) = some (.e1 (.mk dp l m o p q s v))
  | 0, i, h1, h2 => by omega
  | n + 1, i, h1, h2 => by
    rw [L37_4_s0]
    by_cases h : i < ps.length
    · have hw : w64 ((i : Int) + 1) = ((i + 1 : Nat) : Int) := by rw [w64_in (by omega) (by omega)]; omega
      have ih := w4_loop rF hF ps hl hp dp m o q s p l v n (i + 1) h (by omega)
      obtain ⟨⟨f1, f2⟩, f3, f4⟩ := hp _ (List.getElem_mem h)
      simp only [D37_4, PT.ev, PT.test, dite_eq_ite, if_pos (show (i : Int) < (ps.length : Int) by omega), if_pos (show (0 : Int) ≤ (i : Int) by omega), Int.toNat_natCast, rp_get, List.getElem?_eq_getElem h, Option.bind_some, if_neg (show ¬ (ps[i]).c0 < -536870912 by omega), if_neg (show ¬ (ps[i]).c0 > 536870912 by omega), if_neg (show ¬ (ps[i]).c1 < -536870912 by omega), if_neg (show ¬ (ps[i]).c1 > 536870912 by omega), hw, N37_4.nx]
      exact ih
    · simp only [D37_4, PT.ev, PT.test, dite_eq_ite, if_neg (show ¬ (i : Int) < (ps.length : Int) by omega), N37_4.nx]
theorem w2_loop (rF : K37) (hF : H37 rF) (Q : List Po) (hl : Q.length ≤ 4000000) (hq : ∀ q ∈ Q, q.p.length ≤ 2000 ∧ ∀ p ∈ q.p, Fr p) (dp m o : Int) (l : List (List V)) : ∀ (n i : Nat), i ≤ Q.length → Q.length < n + i → L37_2 rF hF n (.s0 (.mk dp l m o Q.length Q.length i (Ro Q))) = some (.e1 (.mk dp l m o))
  | 0, i, h1, h2 => by omega
  | n + 1, i, h1, h2 => by
    rw [L37_2_s0]
    by_cases h : i < Q.length
    · have hw : w64 ((i : Int) + 1) = ((i + 1 : Nat) : Int) := by rw [w64_in (by omega) (by omega)]; omega
      have ih := w2_loop rF hF Q hl hq dp m o l n (i + 1) h (by omega)
      obtain ⟨k1, k2⟩ := hq _ (List.getElem_mem h)
      have inn := w4_loop rF hF Q[i].p (by omega) k2 dp m o Q.length i Q.length l (Ro Q) 18446744073709551616 0 (by omega) (by omega)
      rw [show ((0 : Nat) : Int) = 0 from rfl] at inn
      simp only [D37_2, PT.ev, PT.test, dite_eq_ite, if_pos (show (i : Int) < (Q.length : Int) by omega), if_pos (show (0 : Int) ≤ (i : Int) ∧ (i : Int) < (Q.length : Int) by omega), Nat.zero_add, Int.toNat_natCast, ro_get, List.getElem?_eq_getElem h, Option.map_some, Option.bind_some, rp_len, inn, hw, N37_2.nx]
      exact ih
    · simp only [D37_2, PT.ev, PT.test, dite_eq_ite, if_neg (show ¬ (i : Int) < (Q.length : Int) by omega), N37_2.nx]
theorem w_r4 (rF : K37) (hF : H37 rF) (dp m i : Int) (X : List (List V)) (a : Nd) (h0 : 0 ≤ dp) (h8 : dp ≤ 8) (h1 : rF a.c18 (dp + 1) = some (.a0 true)) (h2 : rF a.c21 (dp + 1) = some (.a0 true)) : (J37_r4) rF hF (.mk dp X m i a) = some (.e0 (.mk dp X m i false a)) := by
  have hw : w64 (dp + 1) = dp + 1 := w64_in (by omega) (by omega)
  simp only [J37_r4, D37_r4, PT.ev, PT.test, dite_eq_ite, if_neg (show ¬ dp > 8 by omega), hw, h1, h2, Option.bind_some, Bool.not_true, Bool.false_eq_true, if_false]
  split <;> rfl
theorem w0_loop (rF : K37) (hF : H37 rF) (ns : List Nd) (hl : ns.length ≤ 1000) (dp : Int) (h0 : 0 ≤ dp) (h8 : dp ≤ 8) (h : ∀ a ∈ ns, Pf a.c1 ∧ Pf a.c19 ∧ rF a.c18 (dp + 1) = some (.a0 true) ∧ rF a.c21 (dp + 1) = some (.a0 true)) : ∀ (n i : Nat), i ≤ ns.length → ns.length < n + i → L37_0 rF hF n (.s0 (.mk dp (Rnd ns) ns.length i)) = some .e1
  | 0, i, h1, h2 => by omega
  | n + 1, i, h1, h2 => by
    rw [L37_0_s0]
    by_cases c : i < ns.length
    · have hw : w64 ((i : Int) + 1) = ((i + 1 : Nat) : Int) := by rw [w64_in (by omega) (by omega)]; omega
      have ih := w0_loop rF hF ns hl dp h0 h8 h n (i + 1) c (by omega)
      obtain ⟨⟨Q, q1, q2, q3⟩, ⟨R, r1, r2, r3⟩, a1, a2⟩ := h _ (List.getElem_mem c)
      have e4 := w_r4 rF hF dp ns.length i (Rnd ns) ns[i] h0 h8 a1 a2
      have hg : ns[i]? = some ns[i] := List.getElem?_eq_getElem c
      generalize ns[i] = a at *
      have w2 := w2_loop rF hF (Q ++ R) (by rw [List.length_append]; omega) (fun q hq => (List.mem_append.1 hq).elim (q2 q) (r2 q)) dp ns.length i (Rnd ns) 18446744073709551616 0 (by omega) (by rw [List.length_append]; omega)
      rw [show ((0 : Nat) : Int) = 0 from rfl, List.length_append] at w2
      have la : a.c1.length = Q.length := by rw [q1, ro_len]
      have lb : a.c19.length = R.length := by rw [r1, ro_len]
      have ta : List.take Q.length a.c1 ++ a.c19 = Ro (Q ++ R) := by rw [q1, r1, ro_all, ro_app]
      simp only [D37_0, PT.ev, PT.test, dite_eq_ite, if_pos (show (i : Int) < (ns.length : Int) by omega), if_pos (show (0 : Int) ≤ (i : Int) by omega), Int.toNat_natCast, rnd_get, hg, Option.bind_some]
      rw [e4]
      simp only [Option.bind_some, PT.ev, PT.test, dite_eq_ite, Bool.false_eq_true, if_false, la, lb, Nat.zero_add, List.nil_append, Nat.le_refl, true_and, ta]
      rw [if_pos (by omega), if_pos (by omega), w2]
      simp only [Option.bind_some, PT.ev, hw, N37_0.nx]
      exact ih
    · simp only [D37_0, PT.ev, PT.test, dite_eq_ite, if_neg (show ¬ (i : Int) < (ns.length : Int) by omega), N37_0.nx]
theorem win1 : ∀ (d n c : Nat) (X : List (List V)) (dp : Int), d < n → Gb d c X → c ≤ 1000 → 0 ≤ dp → dp + d ≤ 9 → F37 n X dp = some (.a0 true)
  | d, 0, c, X, dp, h, _, _, _, _ => by omega
  | d, n + 1, c, X, dp, h, g, hc, h0, h9 => by
    have key : ∃ ns : List Nd, X = Rnd ns ∧ ns.length ≤ 1000 ∧ (ns ≠ [] → dp ≤ 8) ∧ ∀ a ∈ ns, Pf a.c1 ∧ Pf a.c19 ∧ F37 n a.c18 (dp + 1) = some (.a0 true) ∧ F37 n a.c21 (dp + 1) = some (.a0 true) := by
      cases d with
      | zero => exact ⟨[], g, by simp, fun h => absurd rfl h, by simp⟩
      | succ d =>
        obtain ⟨a, rfl, s1, s2⟩ := g
        refine ⟨a.map Prod.fst, rfl, by rw [List.length_map]; have := sm_len a; omega, fun _ => by omega, fun y hy => ?_⟩
        obtain ⟨x, hx, rfl⟩ := List.mem_map.1 hy
        obtain ⟨p1, p2, g1, g2⟩ := s2 x hx
        obtain ⟨m1, m2⟩ := sm_mem a x hx
        exact ⟨p1, p2, win1 d n x.2.1 _ (dp + 1) (by omega) g1 (by omega) (by omega) (by omega), win1 d n x.2.2 _ (dp + 1) (by omega) g2 (by omega) (by omega) (by omega)⟩
    obtain ⟨ns, rfl, hl, h8, hs⟩ := key
    have lp : L37_0 (F37 n) (F37_ok n) 18446744073709551616 (.s0 (.mk dp (Rnd ns) ns.length 0)) = some .e1 := by
      cases ns with
      | nil => rfl
      | cons a r =>
        have := w0_loop (F37 n) (F37_ok n) (a :: r) hl dp h0 (h8 (by simp)) hs 18446744073709551616 0 (by omega) (by omega)
        exact this
    rw [F37_succ]
    simp only [D37, PT.ev, rnd_len]
    rw [lp]
    rfl
def s2 : List Nc → Nat
  | [] => 0
  | x :: r => x.2.1 + x.2.2 + s2 r
theorem s2_app : ∀ a b : List Nc, s2 (a ++ b) = s2 a + s2 b
  | [], b => by simp [s2]
  | x :: a, b => by simp only [List.cons_append, s2, s2_app a b]; omega
theorem sm_s2 : ∀ a : List Nc, sm a = a.length + s2 a
  | [] => rfl
  | x :: a => by simp only [sm, s2, List.length_cons, sm_s2 a]; omega
theorem c0_loop (rF : K38) (hF : H38 rF) (a : List Nc) (hl : sm a ≤ 1000) (h : ∀ x ∈ a, (∃ u, rF x.1.c18 = some (.a0 u) ∧ 0 ≤ u ∧ u ≤ (x.2.1 : Int)) ∧ ∃ u, rF x.1.c21 = some (.a0 u) ∧ 0 ≤ u ∧ u ≤ (x.2.2 : Int)) : ∀ (n i : Nat) (acc : Int), i ≤ a.length → a.length < n + i → 0 ≤ acc → acc ≤ (a.length + s2 (a.take i) : Nat) →
    ∃ u, L38_0 rF hF n (.s0 (.mk acc (Rnd (a.map Prod.fst)) a.length i)) = some (.e0 (.mk u)) ∧ 0 ≤ u ∧ u ≤ (sm a : Int)
  | 0, i, acc, h1, h2, _, _ => by omega
  | n + 1, i, acc, h1, h2, h3, h4 => by
    rw [L38_0_s0]
    have hs := sm_s2 a
    by_cases c : i < a.length
    · have hw : w64 ((i : Int) + 1) = ((i + 1 : Nat) : Int) := by rw [w64_in (by omega) (by omega)]; omega
      obtain ⟨⟨u1, e1, p1, p2⟩, u2, e2, p3, p4⟩ := h _ (List.getElem_mem c)
      have ht : s2 (a.take (i + 1)) = s2 (a.take i) + (a[i].2.1 + a[i].2.2) := by
        rw [List.take_add_one, List.getElem?_eq_getElem c, s2_app]; simp [s2]
      have hle : s2 (a.take (i + 1)) ≤ s2 a := by
        have := s2_app (a.take (i + 1)) (a.drop (i + 1))
        rw [List.take_append_drop] at this; omega
      have hq : w64 (w64 (acc + u1) + u2) = acc + u1 + u2 := by rw [w64_in (n := acc + u1) (by omega) (by omega), w64_in (by omega) (by omega)]
      have hg : (a.map Prod.fst)[i]? = some a[i].1 := by rw [List.getElem?_map, List.getElem?_eq_getElem c]; rfl
      simp only [D38_0, PT.ev, PT.test, dite_eq_ite, if_pos (show (i : Int) < (a.length : Int) by omega), if_pos (show (0 : Int) ≤ (i : Int) by omega), Int.toNat_natCast, rnd_get, hg, Option.bind_some, e1, e2, hq, hw, N38_0.nx]
      exact c0_loop rF hF a hl h n (i + 1) (acc + u1 + u2) c (by omega) (by omega) (by omega)
    · have hi : i = a.length := by omega
      subst hi
      rw [List.take_length] at h4
      simp only [D38_0, PT.ev, PT.test, dite_eq_ite, if_neg (show ¬ ((a.length : Nat) : Int) < (a.length : Int) by omega), N38_0.nx]
      exact ⟨acc, rfl, h3, by omega⟩
theorem cnt1 : ∀ (d n c : Nat) (X : List (List V)), d < n → Gb d c X → c ≤ 1000 → ∃ u, F38 n X = some (.a0 u) ∧ 0 ≤ u ∧ u ≤ (c : Int)
  | d, 0, c, X, h, _, _ => by omega
  | d, n + 1, c, X, h, g, hc => by
    have key : ∃ a : List Nc, X = Rnd (a.map Prod.fst) ∧ sm a ≤ c ∧ ∀ x ∈ a, (∃ u, F38 n x.1.c18 = some (.a0 u) ∧ 0 ≤ u ∧ u ≤ (x.2.1 : Int)) ∧ ∃ u, F38 n x.1.c21 = some (.a0 u) ∧ 0 ≤ u ∧ u ≤ (x.2.2 : Int) := by
      cases d with
      | zero => exact ⟨[], g, Nat.zero_le _, by simp⟩
      | succ d =>
        obtain ⟨a, rfl, s1, s2⟩ := g
        refine ⟨a, rfl, s1, fun x hx => ?_⟩
        obtain ⟨_, _, g1, g2⟩ := s2 x hx
        obtain ⟨m1, m2⟩ := sm_mem a x hx
        exact ⟨cnt1 d n x.2.1 _ (by omega) g1 (by omega), cnt1 d n x.2.2 _ (by omega) g2 (by omega)⟩
    obtain ⟨a, rfl, hs, hx⟩ := key
    have hl := sm_len a
    obtain ⟨u, e, p1, p2⟩ := c0_loop (F38 n) (F38_ok n) a (by omega) hx 18446744073709551616 0 a.length (by omega) (by omega) (by omega) (by omega)
    rw [show ((0 : Nat) : Int) = 0 from rfl] at e
    have le : (Rnd (a.map Prod.fst)).length = a.length := by rw [rnd_len, List.length_map]
    rw [F38_succ]
    simp only [D38, PT.ev, le]
    rw [e]
    exact ⟨u, rfl, p1, by omega⟩
theorem Gy.lq {k c m : Int} {ah : Bool} {l : Ly} (g : Gy k c m ah l) : Lq l := by
  refine ⟨g.sm, ?_, ?_⟩
  · rcases g.what.kind with h | h
    · exact (g.what.draw h).2.2.gr
    · rw [(g.what.nest h).2.1]; exact Gr.sh0
  · rcases g.mask with ⟨_, h⟩ | ⟨_, h, _⟩
    · rw [h]; decide
    · omega
theorem Gdoc.cu {C : List (List Ly)} (g : Gdoc C.length C) (hl : C.length ≤ 1000) : Cu C := by
  have f : ∀ c ∈ C, c.length ≤ 4 ∧ ∀ l ∈ c, Lq l ∧ (l.kind = 1 → 0 ≤ l.comp ∧ l.comp < (C.length : Int)) := fun c hc => by
    obtain ⟨j, hj, rfl⟩ := List.mem_iff_getElem.1 hc
    obtain ⟨⟨g1, g2⟩, _⟩ := g j hj
    exact ⟨g1, fun l hl => by
      obtain ⟨y, hy, rfl⟩ := List.mem_iff_getElem.1 hl
      have gy := g2 y hy
      exact ⟨gy.lq, fun h => by
        obtain ⟨a, b⟩ := (gy.what.nest h).1
        omega⟩⟩
  refine ⟨⟨⟨by omega, fun c hc => ⟨by have := (f c hc).1; omega, fun l hl => ((f c hc).2 l hl).1⟩⟩, fun c hc => (f c hc).1, fun c hc l hl => ((f c hc).2 l hl).2⟩, fun c hc l hl h => ?_, fun c hc k hk hm => ?_⟩
  · obtain ⟨⟨_, g2⟩, _⟩ := g c hc
    obtain ⟨y, hy, rfl⟩ := List.mem_iff_getElem.1 hl
    exact ((g2 y hy).what.nest h).1.1
  · obtain ⟨⟨_, g2⟩, _⟩ := g c hc
    have ah := (g2 k hk).mat.2.2 hm
    rw [Bool.or_eq_false_iff, decide_eq_false_iff_not, decide_eq_false_iff_not] at ah
    obtain ⟨a1, a2⟩ := ah
    have hk0 : 0 < k := by omega
    refine ⟨hk0, fun h' => ?_⟩
    by_cases hz : (C[c][k - 1]).mat = 0
    · exact hz
    · exact absurd ⟨h', hk0, hz⟩ a2
theorem sceneBounds_plain (T : List W3) (hT : (T.length : Int) ≤ 9223372036854775807) (t : Int) : F9 (Rt T) t = some (.a0 true) := by
  obtain ⟨i, o, C, e, _, _, _, _, d1, d2, g⟩ := doc_ex T hT
  have tk : List.take C.length (Rcs C) = Rcs C := List.take_of_length_le (by rw [rcs_len]; exact Nat.le_refl _)
  have cu := g.cu (by omega)
  obtain ⟨z, ez⟩ := qdoc1 C cu.t.q i o
  obtain ⟨ns, e1, e2⟩ := doclist2 C cu d2 i o (w64 (w64 (↑(BitVec.toNat (BitVec.ofInt (IntKind.bits IntKind.i64) t &&& BitVec.ofInt (IntKind.bits IntKind.i64) 63))) - 8))
  have w := win1 7 100000 212 (Rnd ns) 0 (by omega) e2.gb (by omega) (by omega) (by omega)
  obtain ⟨u, eu, u1, u2⟩ := cnt1 7 100000 212 (Rnd ns) (by omega) e2.gb (by omega)
  have tn := rnd_all ns
  simp only [F9, D9, PT.ev, PT.test, dite_eq_ite, e, Option.bind_some, rcs_len, Nat.zero_add, Nat.le_refl, if_true, tk, ez]
  by_cases hz : (z != 0) = true
  · rw [if_pos hz]
  · rw [if_neg hz]
    simp only [e1, Option.bind_some, rnd_len, Nat.le_refl, if_true, tn, w, eu, known22]
    rw [if_pos (by omega)]
end Go.Proofs.YtifalphladcdcaaGreat.H
