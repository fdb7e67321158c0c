import Derived.Test.YtifalphladcdcaaGreatOne12O
set_option linter.unusedVariables false
set_option linter.unusedSimpArgs false
/- Shapes, layers of tapes may be, by the program. Conditions: those stated. -/
namespace Go.Proofs.YtifalphladcdcaaGreat.H
open Go Go.VM
set_option maxRecDepth 100000
theorem nr_of {z : Int} (h : -67108864 ≤ z ∧ z ≤ 67108864) : nr z = true := by rw [nr, decide_eq_true h.1, decide_eq_true h.2]; rfl
theorem rightv_of {c : Bool} {qs : List Pt} (h1 : 4 ≤ qs.length) (h2 : qs.length ≤ 97) (h3 : qs.length % 3 = 1) (h4 : ∀ p ∈ qs, nr p.c0 = true ∧ nr p.c1 = true) : rightv c qs = true := by
  rw [rightv, if_neg (by omega), decide_eq_true h1, decide_eq_true h2, decide_eq_true h3]
  simp only [Bool.true_and, List.all_eq_true, nrp, Bool.and_eq_true]
  exact h4
theorem krT_loop (ks : List Ky) (hk : ∀ j (h : j < ks.length), okN ks j h) (hl : ks.length ≤ 32) : ∀ (n i : Nat) (ahead : Int), i ≤ ks.length → (∀ x, 0 < i → ks[i - 1]? = some x → ahead = x.c0) → ks.length < n + i → L56_0 n (.s0 (.mk (Rn ks) ahead ks.length i)) = some (.e1 (.mk (Rn ks)))
  | 0, i, ahead, h1, _, h2 => by omega
  | n + 1, i, ahead, h1, ha, h2 => by
    rw [L56_0_s0]
    by_cases h : i < ks.length
    · have hg := List.getElem?_eq_getElem h
      obtain ⟨hm, ⟨v1, v2⟩, hx⟩ := hk i h
      have hah : 0 < i → ahead < ks[i].c0 := fun hi => by
        have hp : i - 1 < ks.length := by omega
        rw [ha _ hi (List.getElem?_eq_getElem hp)]
        exact hx _ hi (List.getElem?_eq_getElem hp)
      simp only [D56_0, PT.ev, PT.test, dite_eq_ite, Ws, bnd_def, if_pos (show (i : Int) < (ks.length : Int) by omega), if_pos (show (0 : Int) ≤ (i : Int) by omega), Int.toNat_natCast, rn_get, hg, Option.bind_some, qstep, hm, decide_eq_true hah, Bool.and_self, Bool.not_true, Bool.false_eq_true, if_false, if_neg (show ¬ ks[i].c1 < -67108864 by omega), if_neg (show ¬ ks[i].c1 > 67108864 by omega), N56_0.nx, wi (show (i : Int) < 9223372036854775807 by omega)]
      exact krT_loop ks hk hl n (i + 1) ks[i].c0 h (fun x _ hx => by rw [show i + 1 - 1 = i by omega, hg] at hx; cases hx; rfl) (by omega)
    · simp only [D56_0, PT.ev, PT.test, dite_eq_ite, Ws, if_neg (show ¬ (i : Int) < (ks.length : Int) by omega), N56_0.nx]
theorem krT (ks : List Ky) (hk : ∀ j (h : j < ks.length), okN ks j h) (hl : ks.length ≤ 32) : F56 (Rn ks) = some (.a0 true) := by
  have h := krT_loop ks hk hl 18446744073709551616 0 0 (by omega) (fun x h => by omega) (by omega)
  rw [show ((0 : Nat) : Int) = 0 from rfl] at h
  simp only [F56, D56, PT.ev, PT.test, dite_eq_ite, Ws, rn_len, h, Option.bind_some, decide_eq_true (show (ks.length : Int) ≤ 32 by omega)]
theorem crT_loop (ks : List Ck) (hk : ∀ j (h : j < ks.length), okC ks j h) (hl : ks.length ≤ 32) : ∀ (n i : Nat) (ahead : Int), i ≤ ks.length → (∀ x, 0 < i → ks[i - 1]? = some x → ahead = x.c0) → ks.length < n + i → L55_0 n (.s0 (.mk (Rc ks) ahead ks.length i)) = some (.e1 (.mk (Rc ks)))
  | 0, i, ahead, h1, _, h2 => by omega
  | n + 1, i, ahead, h1, ha, h2 => by
    rw [L55_0_s0]
    by_cases h : i < ks.length
    · have hg := List.getElem?_eq_getElem h
      obtain ⟨hm, hx⟩ := hk i h
      have hah : 0 < i → ahead < ks[i].c0 := fun hi => by
        have hp : i - 1 < ks.length := by omega
        rw [ha _ hi (List.getElem?_eq_getElem hp)]
        exact hx _ hi (List.getElem?_eq_getElem hp)
      simp only [D55_0, PT.ev, PT.test, dite_eq_ite, Ws, bnd_def, if_pos (show (i : Int) < (ks.length : Int) by omega), if_pos (show (0 : Int) ≤ (i : Int) by omega), Int.toNat_natCast, rc_get, hg, Option.bind_some, qstep, hm, decide_eq_true hah, Bool.and_self, Bool.not_true, Bool.false_eq_true, if_false, N55_0.nx, wi (show (i : Int) < 9223372036854775807 by omega)]
      exact crT_loop ks hk hl n (i + 1) ks[i].c0 h (fun x _ hx => by rw [show i + 1 - 1 = i by omega, hg] at hx; cases hx; rfl) (by omega)
    · simp only [D55_0, PT.ev, PT.test, dite_eq_ite, Ws, if_neg (show ¬ (i : Int) < (ks.length : Int) by omega), N55_0.nx]
theorem crT (ks : List Ck) (hk : ∀ j (h : j < ks.length), okC ks j h) (hl : ks.length ≤ 32) : F55 (Rc ks) = some (.a0 true) := by
  have h := crT_loop ks hk hl 18446744073709551616 0 0 (by omega) (fun x h => by omega) (by omega)
  rw [show ((0 : Nat) : Int) = 0 from rfl] at h
  simp only [F55, D55, PT.ev, PT.test, dite_eq_ite, Ws, rc_len, h, Option.bind_some, decide_eq_true (show (ks.length : Int) ≤ 32 by omega)]
theorem drT_loop (ds : List Dn) (hd : ∀ d ∈ ds, okD d) (hl : ds.length ≤ 8) : ∀ (n i : Nat), i ≤ ds.length → ds.length < n + i → L180_0 n (.s0 (.mk (Rd ds) ds.length i)) = some .e1
  | 0, i, h1, h2 => by omega
  | n + 1, i, h1, h2 => by
    rw [L180_0_s0]
    by_cases h : i < ds.length
    · have hg := List.getElem?_eq_getElem h
      have ih := drT_loop ds hd hl n (i + 1) h (by omega)
      obtain ⟨d1, d2⟩ := hd _ (List.getElem_mem h)
      simp only [D180_0, PT.ev, PT.test, dite_eq_ite, Ws, bnd_def, if_pos (show (i : Int) < (ds.length : Int) by omega), if_pos (show (0 : Int) ≤ (i : Int) by omega), Int.toNat_natCast, rd_get, hg, Option.bind_some, qdash1, decide_eq_false (show ¬ ds[i].c0 < 65536 by omega), decide_eq_false (show ¬ ds[i].c0 > 67108864 by omega), Bool.or_self, Bool.false_eq_true, if_false, N180_0.nx, wi (show (i : Int) < 9223372036854775807 by omega)]
      exact ih
    · simp only [D180_0, PT.ev, PT.test, dite_eq_ite, Ws, if_neg (show ¬ (i : Int) < (ds.length : Int) by omega), N180_0.nx]
theorem drT (ds : List Dn) (hd : ∀ d ∈ ds, okD d) (hl : ds.length ≤ 8) : F57 (Rd ds) = some (.a0 true) := by
  have h := drT_loop ds hd hl 18446744073709551616 0 (by omega) (by omega)
  rw [show ((0 : Nat) : Int) = 0 from rfl] at h
  simp only [F57, D57, F115, D115, F180, D180, PT.ev, PT.test, dite_eq_ite, Ws, rd_len, if_pos (show (ds.length : Int) ≤ 8 by omega), h, Option.bind_some]
  rfl
theorem pkT_loop (c : Bool) (N T : Int) (ks : List PK) (g : Gp c N T ks) (hN : 1 ≤ N ∧ N ≤ 3) (hT : T ≤ 1073741824) (hl : ks.length ≤ 32) : ∀ (n i : Nat) (ahead : Int), i ≤ ks.length → (∀ x, 0 < i → ks[i - 1]? = some x → ahead = x.c0) → ks.length < n + i →
    L112_0 n (.s0 (.mk (Rk ks) ahead ks.length i)) = some (.e1 (.mk (Rk ks)))
  | 0, i, ahead, h1, _, h2 => by omega
  | n + 1, i, ahead, h1, ha, h2 => by
    rw [L112_0_s0]
    by_cases h : i < ks.length
    · have hg := List.getElem?_eq_getElem h
      have h0 : 0 < ks.length := by omega
      obtain ⟨t1, t2, w, e0, ps, e1, e2, e3⟩ := g.each ks[i] (List.getElem_mem h)
      obtain ⟨_, _, _, f0, rs, f1, f2, f3⟩ := g.each ks[0] (List.getElem_mem h0)
      have hr : rightv c ps = true := rightv_of (by omega) (by omega) (by omega) (fun p hp => by
        obtain ⟨⟨a, b⟩, ⟨d, e⟩⟩ := e3 p hp
        exact ⟨nr_of (by omega), nr_of (by omega)⟩)
      have hm : movesv ks[i].c0 ks[i].c3 ks[i].c4 ks[i].c5 ks[i].c6 ks[i].c7 = true := by rw [movesv, w, decide_eq_true (by omega), decide_eq_true (by omega)]; rfl
      have hf : fitsv c ps c rs = true := by rw [fitsv, decide_eq_true (show ps.length = rs.length by omega)]; simp
      have hah : 0 < i → ahead < ks[i].c0 := fun hi => by
        have hp : i - 1 < ks.length := by omega
        rw [ha _ hi (List.getElem?_eq_getElem hp)]
        exact List.pairwise_iff_getElem.1 g.inc (i - 1) i hp h (by omega)
      simp only [D112_0, PT.ev, PT.test, dite_eq_ite, Ws, bnd_def, rk_len, if_pos (show (i : Int) < (ks.length : Int) by omega), if_pos (show (0 : Int) ≤ (i : Int) by omega), Int.toNat_natCast, rk_get, hg, Option.bind_some, qstep, hm, decide_eq_true hah, Bool.and_self, Bool.not_true, Bool.false_eq_true, if_false,
        e0, e1, qempty, decide_eq_false (show ¬ ps.length = 0 by omega), qright c ps (by omega), hr, List.getElem?_eq_getElem h0, f0, f1, qfits, hf, N112_0.nx, wi (show (i : Int) < 9223372036854775807 by omega)]
      exact pkT_loop c N T ks g hN hT hl n (i + 1) ks[i].c0 h (fun x _ hx => by rw [show i + 1 - 1 = i by omega, hg] at hx; cases hx; rfl) (by omega)
    · simp only [D112_0, PT.ev, PT.test, dite_eq_ite, Ws, rk_len, if_neg (show ¬ (i : Int) < (ks.length : Int) by omega), N112_0.nx]
theorem pkT (c : Bool) (N T : Int) (ks : List PK) (g : Gp c N T ks) (hN : 1 ≤ N ∧ N ≤ 3) (hT : T ≤ 1073741824) (hl : ks.length ≤ 32) : F112 (Rk ks) = some (.a0 true) := by
  have h := pkT_loop c N T ks g hN hT hl 18446744073709551616 0 0 (by omega) (fun x h => by omega) (by omega)
  rw [show ((0 : Nat) : Int) = 0 from rfl] at h
  simp only [F112, D112, PT.ev, PT.test, dite_eq_ite, Ws, rk_len, h, Option.bind_some, decide_eq_true (show (ks.length : Int) ≤ 32 by omega)]
theorem gnT {lo hi T : Int} {ks : List Ky} (g : Gn lo hi T ks) (h1 : -67108864 ≤ lo) (h2 : hi ≤ 67108864) (h3 : T ≤ 1073741824) (hl : ks.length ≤ 32) : F56 (Rn ks) = some (.a0 true) := krT ks (g.ok h1 h2 h3) hl
/-- A shape of a tape may be. -/
theorem srT (s : Shp) (g : Gs s) : F15 (Ws s) = some (.a0 true) := by
  obtain ⟨bw, w1⟩ := kr1 s.w g.gr.w
  obtain ⟨bh, h1⟩ := kr1 s.h g.gr.h
  obtain ⟨bp, p1⟩ := pk1 s.ps g.gr.gw g.gr.ps
  have c1 := crT s.cs g.cols.2 (by have := g.cols.1; omega)
  have d1 := drT s.ds (fun d hd => by have := g.ds.2 d hd; exact ⟨by omega, by omega⟩) (by have := g.ds.1; omega)
  have x1 := gnT g.wd.2 (by decide) (by decide) (by decide) (by have := g.wd.1; omega)
  have y1 := gnT g.fr.2 (by decide) (by decide) (by decide) (by have := g.fr.1; omega)
  have z1 := gnT g.to_.2 (by decide) (by decide) (by decide) (by have := g.to_.1; omega)
  have zp : paintv s.p0 s.p9 s.p10 s.p11 s.p12 s.p13 = true := by
    obtain ⟨⟨a, b⟩, c, d, e, f, h⟩ := g.paint
    rw [paintv, decide_eq_true (show s.p0 ≥ 0 from a), decide_eq_true b, c, d, e, f, h]; rfl
  have zr : (s.rule == 0 || s.rule == 1) = true := by rcases g.rule with h | h <;> rw [h] <;> rfl
  have zk : (s.cap == 0 || s.cap == 1) = true := by rcases g.cap with h | h <;> rw [h] <;> rfl
  have zo : oneB s.form s.n = true := by
    rw [oneB, decide_eq_true g.form.1, decide_eq_true g.form.2]
    by_cases h : s.form = 2
    · rw [if_pos h, decide_eq_true (g.n.1 h).1, decide_eq_true (g.n.1 h).2]; rfl
    · rw [if_neg h, decide_eq_true (g.n.2 h)]; rfl
  have zt : twoB s.form s.w.length s.h.length s.ps.length bw bh bp = true := by
    unfold twoB
    by_cases h : s.form = 3
    · obtain ⟨h1, h2, h3, h4, c, N, h5, h6, h7⟩ := g.what.drawn h
      rw [pkT c N 31 s.ps h7 ⟨h5, h6⟩ (by decide) (by omega)] at p1
      cases p1
      rw [if_pos h, h1, h2]; rfl
    · obtain ⟨q1, q2, q3, q4, q5⟩ := g.what.made h
      have r1 := gnT q4 (by decide) (by decide) (by decide) (by omega)
      have r2 := gnT q5 (by decide) (by decide) (by decide) (by omega)
      rw [w1] at r1; cases r1
      rw [h1] at r2; cases r2
      rw [if_neg h, q1]; rfl
  simp only [F15, D15, PT.ev, PT.test, dite_eq_ite, Ws, qform s s.form s.n bw bh bp w1 h1 p1, Option.bind_some, qpaint, c1, d1, x1, y1, z1, ifq, ifo]
  rcases g.rule with hr | hr <;> rcases g.cap with hc | hc <;> simp [zo, zt, zp, hr, hc]
end Go.Proofs.YtifalphladcdcaaGreat.H

/- Layers of tapes may be, by the program. Conditions: those stated. -/
namespace Go.Proofs.YtifalphladcdcaaGreat.H
open Go Go.VM
set_option maxRecDepth 100000
/-- Keys that may be. -/
def Kt (ks : List Ky) : Prop := (∀ j (h : j < ks.length), okN ks j h) ∧ ks.length ≤ 32
theorem Gn.kt {lo hi T : Int} {ks : List Ky} (g : Gn lo hi T ks) (h1 : -67108864 ≤ lo) (h2 : hi ≤ 67108864) (h3 : T ≤ 1073741824) (hl : ks.length ≤ 32) : Kt ks := ⟨g.ok h1 h2 h3, hl⟩
theorem Gi.kt {ks : List Ky} (g : Gi ks) : Kt ks := by
  rcases g with rfl | ⟨a, b, rfl, h1, h2, h3, h4⟩
  · exact ⟨fun j h => absurd h (Nat.not_lt_zero j), by decide⟩
  · have g1 : Gn 0 20 1 ([] ++ [(⟨0, a, 1, 0, 0, 0, 0⟩ : Ky)]) := (Gn.nil (lo := 0) (hi := 20) (T := 0)).push (by show (0 : Int) ≤ 0; omega) (by show (0 : Int) ≤ 0; omega) (by show (0 : Int) < 1; omega) (by show 0 ≤ a ∧ a ≤ 20; omega) rfl
    have g2 : Gn 0 20 11 (([] ++ [(⟨0, a, 1, 0, 0, 0, 0⟩ : Ky)]) ++ [⟨10, b, 0, 0, 0, 0, 0⟩]) := g1.push (by show (1 : Int) ≤ 10; omega) (by show (0 : Int) ≤ 10; omega) (by show (10 : Int) < 11; omega) (by show 0 ≤ b ∧ b ≤ 20; omega) rfl
    exact ⟨g2.ok (by decide) (by decide) (by decide), by show 2 ≤ 32; decide⟩
/-- A layer that may be. -/
structure Gz (l : Ly) : Prop where
  what : (l.kind = 1 ∧ l.s = sh0) ∨ (l.kind = 0 ∧ l.comp = 0 ∧ l.re = [] ∧ Gs l.s)
  mat : 0 ≤ l.mat ∧ l.mat ≤ 2
  tick : (-1000 ≤ l.inn ∧ l.inn < l.out ∧ l.out ≤ 1000) ∧ -1000 ≤ l.st ∧ l.st ≤ 1000
  keys : Kt l.x ∧ Kt l.y ∧ Kt l.ax ∧ Kt l.ay ∧ Kt l.sx ∧ Kt l.sy ∧ Kt l.tu ∧ Kt l.op ∧ Kt l.re
  mask : (l.mc = false ∧ l.mp = []) ∨ (l.mc = true ∧ ((l.mp.length : Int) = 7 ∨ (l.mp.length : Int) = 10) ∧ ∀ p ∈ l.mp, Bp p)
theorem Gy.gz {k c m : Int} {ah : Bool} {l : Ly} (g : Gy k c m ah l) : Gz l := by
  refine ⟨?_, ⟨g.mat.1, g.mat.2.1⟩, ?_, ?_, g.mask⟩
  · rcases g.what.kind with h | h
    · exact .inr ⟨h, (g.what.draw h).1, (g.what.draw h).2.1, (g.what.draw h).2.2⟩
    · exact .inl ⟨h, (g.what.nest h).2.1⟩
  · have h1 := g.inn
    have h2 := g.out
    have h3 := g.st
    omega
  · have kg : ∀ (lo hi : Int) (ks : List Ky), -1000 ≤ lo → hi ≤ 1000 → Kg lo hi ks → Kt ks := fun lo hi ks h1 h2 g => g.gn.kt (by omega) (by omega) (by decide) (by have := g.len; omega)
    refine ⟨kg _ _ _ (by decide) (by decide) g.x, kg _ _ _ (by decide) (by decide) g.y, kg _ _ _ (by decide) (by decide) g.ax, kg _ _ _ (by decide) (by decide) g.ay, kg _ _ _ (by decide) (by decide) g.sx, kg _ _ _ (by decide) (by decide) g.sy, kg _ _ _ (by decide) (by decide) g.tu, kg _ _ _ (by decide) (by decide) g.op, ?_⟩
    rcases g.what.kind with h | h
    · rw [(g.what.draw h).2.1]; exact ⟨fun j h => absurd h (Nat.not_lt_zero j), by decide⟩
    · exact (g.what.nest h).2.2.kt
theorem ikT_loop (K : List (List Ky)) (hk : ∀ k ∈ K, Kt k) (hl : K.length ≤ 1000) : ∀ (n i : Nat), i ≤ K.length → K.length < n + i → L289_0 n (.s0 (.mk (RK K) K.length i)) = some .e1
  | 0, i, h1, h2 => by omega
  | n + 1, i, h1, h2 => by
    rw [L289_0_s0]
    by_cases h : i < K.length
    · have hw : w64 ((i : Int) + 1) = ((i + 1 : Nat) : Int) := by rw [w64_in (by omega) (by omega)]; omega
      have ih := ikT_loop K hk hl n (i + 1) h (by omega)
      obtain ⟨k1, k2⟩ := hk _ (List.getElem_mem h)
      simp only [D289_0, PT.ev, PT.test, dite_eq_ite, Ws, if_pos (show (i : Int) < (K.length : Int) by omega), if_pos (show (0 : Int) ≤ (i : Int) by omega), Int.toNat_natCast, rK_get, List.getElem?_eq_getElem h, Option.map_some, Option.bind_some, F278, D278, krT _ k1 k2, hw, Bool.not_true, Bool.false_eq_true, if_false, N289_0.nx]
      exact ih
    · simp only [D289_0, PT.ev, PT.test, dite_eq_ite, Ws, if_neg (show ¬ (i : Int) < (K.length : Int) by omega), N289_0.nx]
theorem ckT (K : List (List Ky)) (hk : ∀ k ∈ K, Kt k) (hl : K.length ≤ 1000) : F276 (RK K) = some (.a0 false) := by
  have h := ikT_loop K hk hl 18446744073709551616 0 (by omega) (by omega)
  rw [show ((0 : Nat) : Int) = 0 from rfl] at h
  have e : (RK K).length = K.length := List.length_map ..
  simp only [F276, D276, F289, D289, PT.ev, PT.test, dite_eq_ite, Ws, e, h, Option.bind_some]
  rfl
theorem tickT {a : Int} (h : -1000 ≤ a ∧ a ≤ 1000) : F214 a = true := by
  simp only [F214, D214, PT.evT, PT.test, dite_eq_ite, if_pos (show a ≥ -1073741824 by omega), decide_eq_true (show a ≤ 1073741824 by omega)]
theorem nearT {z : Int} (h : nr z = true) : F294 z = true := by
  rw [nr, Bool.and_eq_true, decide_eq_true_eq, decide_eq_true_eq] at h
  simp only [F294, D294, PT.evT, PT.test, dite_eq_ite, if_pos (show z ≥ -67108864 from h.1), decide_eq_true h.2]
/-- A layer may be. -/
theorem dlT (l : Ly) (g : Gz l) : F253 (Wl l) = some (.a0 true) := by
  obtain ⟨⟨t1, t2, t3⟩, t4, t5⟩ := g.tick
  have e1 : J253_r1 (.mk (Wl l)) = some (.e0 (.mk true (Wl l))) := by
    simp only [J253_r1, D253_r1, PT.ev, PT.test, dite_eq_ite, Ws, if_pos (show l.mat ≥ 0 from g.mat.1), decide_eq_true g.mat.2]
    rcases g.what with ⟨h, _⟩ | ⟨h, _⟩ <;> rw [h] <;> rfl
  have e2 : J253_r2 (.mk true (Wl l)) = some (.e0 (.mk true true (Wl l))) := by
    simp only [J253_r2, D253_r2, PT.ev, PT.test, dite_eq_ite, Ws, bnd_def, tickT (a := l.inn) (by omega), tickT (a := l.out) (by omega), tickT (a := l.st) (by omega), if_true, decide_eq_true t2]
  have e3 : J253_r3 (.mk true true (Wl l)) = some (.e0 (.mk true true true (Wl l))) := by
    have hmp : (l.mp.length : Int) < 4611686018427387904 := by
      rcases g.mask with ⟨_, h⟩ | ⟨_, h, _⟩
      · rw [h]; decide
      · omega
    have e := qright l.mc l.mp hmp
    have hr : rightv l.mc l.mp = true := by
      rcases g.mask with ⟨h1, h2⟩ | ⟨h1, h2, h3⟩
      · rw [h1, h2]; rfl
      · exact rightv_of (by omega) (by omega) (by omega) (fun p hp => by
          obtain ⟨⟨a, b⟩, c, d⟩ := h3 p hp
          exact ⟨nr_of (by omega), nr_of (by omega)⟩)
    rw [hr] at e
    simp only [J253_r3, D253_r3, PT.ev, PT.test, dite_eq_ite, Ws, bnd_def, e, Option.bind_some, if_true, qempty]
    rcases g.mask with ⟨h1, h2⟩ | ⟨h1, h2, h3⟩
    · rw [decide_eq_true (show l.mp.length = 0 by rw [h2]; rfl)]; rfl
    · rw [h1]; cases decide (l.mp.length = 0) <;> rfl
  have e4 : J253_r4 (.mk true true true (Wl l)) = some (.e0 (.mk false (Wl l))) := by
    obtain ⟨k1, k2, k3, k4, k5, k6, k7, k8, k9⟩ := g.keys
    have e := ckT [l.x, l.y, l.ax, l.ay, l.sx, l.sy, l.tu, l.op, l.re] (fun k hk => by
      simp only [List.mem_cons, List.not_mem_nil, or_false] at hk
      rcases hk with rfl | rfl | rfl | rfl | rfl | rfl | rfl | rfl | rfl <;> assumption) (by show 9 ≤ 1000; decide)
    have e' : F276 (List.take 9 [[V.list 7 (Rn l.x)], [V.list 7 (Rn l.y)], [V.list 7 (Rn l.ax)], [V.list 7 (Rn l.ay)], [V.list 7 (Rn l.sx)], [V.list 7 (Rn l.sy)], [V.list 7 (Rn l.tu)], [V.list 7 (Rn l.op)], [V.list 7 (Rn l.re)]]) = some (.a0 false) := e
    simp only [J253_r4, D253_r4, PT.ev, PT.test, dite_eq_ite, Ws, F277, D277, Option.bind_some, e', List.length_cons, List.length_nil, Nat.zero_add, Nat.reduceAdd, Nat.le_refl, if_true, Bool.not_true, Bool.false_eq_true, if_false]
  simp only [F253, D253, PT.ev, PT.test, dite_eq_ite]
  rw [e1]
  simp only [Option.bind_some]
  rw [e2]
  simp only [Option.bind_some]
  rw [e3]
  simp only [Option.bind_some]
  rw [e4]
  simp only [Option.bind_some, Bool.false_eq_true, if_false]
  rcases g.what with ⟨h, hs⟩ | ⟨h, hc, hre, gs⟩
  · rw [if_pos (by rw [h]; rfl)]
    have e5 : F279 (Ws sh0) (Ws sh0) = some (.a0 true) := by kernel_rfl
    rw [← hs] at e5
    have e6 : F279 (Ws l.s) (Ws sh0) = some (.a0 true) := by rw [hs] at e5 ⊢; exact e5
    exact (congrArg (fun o => Option.bind o _) e6).trans rfl
  · rw [if_neg (by rw [h]; decide), if_pos (by rw [hc]; rfl), if_pos (by rw [hre]; rfl)]
    obtain ⟨⟨a, b⟩, p9, p10, p11, p12, p13⟩ := gs.paint
    have e7 : F280 l.s.p0 l.s.p1 l.s.p2 l.s.p3 l.s.p4 l.s.p5 l.s.p6 l.s.p7 l.s.p8 l.s.p9 l.s.p10 l.s.p11 l.s.p12 l.s.p13 = some (.a0 true) := by
      simp only [F280, D280, J280_r1, D280_r1, PT.ev, PT.test, dite_eq_ite, Ws, bnd_def, nearT p9, nearT p10, nearT p11, nearT p12, nearT p13, if_true, Option.bind_some, if_pos (show l.s.p0 ≥ 0 from a), if_pos b]
    refine (congrArg (fun o => Option.bind o _) (srT l.s gs)).trans ?_
    simp only [Option.bind_some, if_true, e7, PT.ev]
end Go.Proofs.YtifalphladcdcaaGreat.H

/- Documents of tapes may be, by the program. Conditions: those stated. -/
namespace Go.Proofs.YtifalphladcdcaaGreat.H
open Go Go.VM
set_option maxRecDepth 100000
/-- Comps that may be. -/
structure Cz (C : List (List Ly)) : Prop where
  len : 1 ≤ C.length ∧ C.length ≤ 3
  four : ∀ c ∈ C, c.length ≤ 4
  gz : ∀ c ∈ C, ∀ l ∈ c, Gz l
  par : ∀ (c : Nat) (h : c < C.length) (k : Nat) (h' : k < C[c].length), -1 ≤ C[c][k].par ∧ C[c][k].par < (k : Int)
  mat : ∀ (c : Nat) (h : c < C.length) (k : Nat) (h' : k < C[c].length), C[c][k].mat ≠ 0 → 0 < k ∧ ∀ h'' : k - 1 < C[c].length, C[c][k - 1].mat = 0
  nest : ∀ (c : Nat) (h : c < C.length), ∀ l ∈ C[c], l.kind = 1 → (c : Int) < l.comp ∧ l.comp < (C.length : Int)
theorem rgT_loop (ls : List Ly) (hp : ∀ (k : Nat) (h : k < ls.length), -1 ≤ ls[k].par ∧ ls[k].par < (k : Int)) (hl : ls.length ≤ 1000000) (k : Int) : ∀ (n j : Nat) (at_ : Int), j ≤ ls.length → ls.length < n + j → -1 ≤ at_ → at_ < k →
    L281_0 n (.s0 (.mk k at_ ls.length j (Rl ls))) = some .e1 ∨ L281_0 n (.s0 (.mk k at_ ls.length j (Rl ls))) = some (.e0 (.mk false))
  | 0, j, at_, h1, h2, _, _ => by omega
  | n + 1, j, at_, h1, h2, h3, h4 => by
    rw [L281_0_s0]
    by_cases h : j < ls.length
    · have hw : w64 ((j : Int) + 1) = ((j + 1 : Nat) : Int) := by rw [w64_in (by omega) (by omega)]; omega
      simp only [D281_0, PT.ev, PT.test, dite_eq_ite, bnd_def, there1, rl_len, if_pos (show (j : Int) < (ls.length : Int) by omega), N281_0.nx, beq_eq_false_iff_ne.2 (show at_ ≠ k by omega), Bool.false_eq_true, if_false]
      by_cases c1 : at_ ≥ 0
      · by_cases c2 : at_ < (ls.length : Int)
        · have hi : at_.toNat < ls.length := by omega
          obtain ⟨p1, p2⟩ := hp at_.toNat hi
          simp only [decide_eq_true c1, decide_eq_true c2, Bool.and_self, Bool.not_true, Bool.false_eq_true, if_false, if_pos (show 0 ≤ at_ from c1), rl_get, List.getElem?_eq_getElem hi, Option.map_some, Option.bind_some, hw]
          exact rgT_loop ls hp hl k n (j + 1) _ h (by omega) p1 (by omega)
        · simp only [decide_eq_false c2, Bool.and_false, Bool.not_false, if_true]
          first
            | exact .inr trivial
            | exact .inr rfl
      · simp only [decide_eq_false c1, Bool.false_and, Bool.not_false, if_true]
        first
            | exact .inr trivial
            | exact .inr rfl
    · simp only [D281_0, PT.ev, PT.test, dite_eq_ite, if_neg (show ¬ (j : Int) < (ls.length : Int) by omega), N281_0.nx]
      first
        | exact .inl trivial
        | exact .inl rfl
theorem rgT (ls : List Ly) (hp : ∀ (k : Nat) (h : k < ls.length), -1 ≤ ls[k].par ∧ ls[k].par < (k : Int)) (hl : ls.length ≤ 1000000) (k : Nat) (hk : k < ls.length) : F281 (Rl ls) k = some (.a0 false) := by
  obtain ⟨p1, p2⟩ := hp k hk
  have h := rgT_loop ls hp hl k 18446744073709551616 0 ls[k].par (by omega) (by omega) p1 p2
  rw [show ((0 : Nat) : Int) = 0 from rfl] at h
  simp only [F281, D281, PT.ev, PT.test, dite_eq_ite, rl_len, if_pos (show (0 : Int) ≤ (k : Int) by omega), Int.toNat_natCast, rl_get, List.getElem?_eq_getElem hk, Option.map_some, Option.bind_some]
  rcases h with h1 | h1 <;> rw [h1] <;> rfl
theorem treeT (C : List (List Ly)) (g : Cz C) (i o : Int) (c k : Nat) (hc : c < C.length) (hk : k < C[c].length) : F254 i o (Rcs C) c k = some (.a0 true) := by
  have hl := g.four _ (List.getElem_mem hc)
  have hp := g.par c hc
  have hm := g.mat c hc k hk
  have hn := g.nest c hc _ (List.getElem_mem hk)
  have gk := g.gz _ (List.getElem_mem hc) _ (List.getElem_mem hk)
  generalize hls : C[c] = ls at *
  have e1 := rgT ls hp (by omega) k hk
  obtain ⟨p1, p2⟩ := hp k hk
  have e2 : J254_r3 (.mk c k i o (Rcs C) (Rl ls) (Wl ls[k])) = some (.e0 (.mk c k false i o (Rcs C) (Rl ls) (Wl ls[k]))) := by
    simp only [J254_r3, D254_r3, PT.ev, PT.test, dite_eq_ite, bnd_def, there1, rl_len]
    by_cases h : ls[k].par = -1
    · rw [h]; rfl
    · rw [if_pos (bne_iff_ne.2 h), decide_eq_true (show ls[k].par ≥ 0 by omega), decide_eq_true (show ls[k].par < (ls.length : Int) by omega)]; rfl
  have e3 : J254_r6 (.mk c k i o (Rcs C) (Rl ls) (Wl ls[k])) = some (.e0 (.mk c false i o (Rcs C) (Wl ls[k]))) := by
    simp only [J254_r6, D254_r6, PT.ev, PT.test, dite_eq_ite]
    by_cases h : ls[k].mat = 0
    · rw [if_neg (by rw [h]; decide)]
    · obtain ⟨q1, q2⟩ := hm h
      have hw : w64 ((k : Int) - 1) = ((k - 1 : Nat) : Int) := by rw [w64_in (by omega) (by omega)]; omega
      rw [if_pos (bne_iff_ne.2 h), if_neg (by rw [beq_iff_eq]; omega), hw, if_pos (by omega), Int.toNat_natCast, rl_get, List.getElem?_eq_getElem (by omega)]
      simp only [Option.map_some, Option.bind_some, q2 (by omega), bne_self_eq_false]
  have eb : J254_b0 (.mk c k i o (Rcs C) (Rl ls) (Wl ls[k])) = some (.e1 (.mk c i o (Rcs C) (Wl ls[k]))) := by
    simp only [J254_b0, D254_b0, PT.ev, PT.test, dite_eq_ite]
    rw [e2]
    simp only [Option.bind_some, PT.ev, e1, Bool.false_eq_true, if_false]
    rw [e3]
    rfl
  simp only [F254, D254, PT.ev, PT.test, dite_eq_ite, if_pos (show (0 : Int) ≤ (c : Int) by omega), if_pos (show (0 : Int) ≤ (k : Int) by omega), Int.toNat_natCast, rcs_get, List.getElem?_eq_getElem hc, hls, Option.map_some, Option.bind_some, rl_get, List.getElem?_eq_getElem hk]
  rw [eb]
  simp only [Option.bind_some, PT.ev, PT.test, dite_eq_ite, bnd_def, there1, rcs_len]
  by_cases h : ls[k].kind = 1
  · obtain ⟨n1, n2⟩ := hn h
    rw [if_neg (by rw [h]; decide), decide_eq_true (show ls[k].comp ≥ 0 by omega), decide_eq_true n2, Bool.and_self, if_pos rfl, decide_eq_true (show ls[k].comp > (c : Int) from n1)]
  · rw [if_pos (bne_iff_ne.2 h)]
theorem layT_in (C : List (List Ly)) (g : Cz C) (i o : Int) (c : Nat) (hc : c < C.length) : ∀ (n k : Nat), k ≤ C[c].length → C[c].length < n + k →
    L215_2 n (.s0 (.mk c (Rcs C) C.length (Rl C[c]) C[c].length k i o)) = some (.e1 (.mk (Rcs C) C.length c i o))
  | 0, k, h1, h2 => by omega
  | n + 1, k, h1, h2 => by
    rw [L215_2_s0]
    have gl := g.four _ (List.getElem_mem hc)
    by_cases h : k < C[c].length
    · have hw : w64 ((k : Int) + 1) = ((k + 1 : Nat) : Int) := by rw [w64_in (by omega) (by omega)]; omega
      have e1 := dlT (C[c][k]) (g.gz _ (List.getElem_mem hc) _ (List.getElem_mem h))
      have e2 := treeT C g i o c k hc h
      have ih := layT_in C g i o c hc n (k + 1) h (by omega)
      simp only [D215_2, PT.ev, PT.test, dite_eq_ite, if_pos (show (k : Int) < (C[c].length : Int) by omega), if_pos (show (0 : Int) ≤ (k : Int) by omega), Int.toNat_natCast, rl_get, List.getElem?_eq_getElem h, Option.map_some, Option.bind_some, e2, hw, N215_2.nx, N215_2.nx]
      exact (congrArg (fun o => Option.bind o _) e1).trans ih
    · simp only [D215_2, PT.ev, PT.test, dite_eq_ite, if_neg (show ¬ (k : Int) < (C[c].length : Int) by omega), N215_2.nx]
theorem layT_out (C : List (List Ly)) (g : Cz C) (i o : Int) : ∀ (n c : Nat), c ≤ C.length → C.length < n + c → L215_0 n (.s0 (.mk (Rcs C) C.length c i o)) = some .e1
  | 0, c, h1, h2 => by omega
  | n + 1, c, h1, h2 => by
    rw [L215_0_s0]
    have hl := g.len
    by_cases h : c < C.length
    · have hw : w64 ((c : Int) + 1) = ((c + 1 : Nat) : Int) := by rw [w64_in (by omega) (by omega)]; omega
      have gl := g.four _ (List.getElem_mem h)
      have inn := layT_in C g i o c h 18446744073709551616 0 (by omega) (by omega)
      rw [show ((0 : Nat) : Int) = 0 from rfl] at inn
      have ih := layT_out C g i o n (c + 1) h (by omega)
      simp only [D215_0, PT.ev, PT.test, dite_eq_ite, if_pos (show (c : Int) < (C.length : Int) by omega), if_pos (show (0 : Int) ≤ (c : Int) by omega), Int.toNat_natCast, rcs_get, List.getElem?_eq_getElem h, Option.map_some, Option.bind_some, rl_len, hw, N215_0.nx, N215_0.nx]
      rw [inn]
      simp only [Option.bind_some, PT.ev, PT.test, dite_eq_ite, hw, N215_0.nx]
      exact ih
    · simp only [D215_0, PT.ev, PT.test, dite_eq_ite, if_neg (show ¬ (c : Int) < (C.length : Int) by omega), N215_0.nx]
theorem lysT (C : List (List Ly)) (g : Cz C) (i o : Int) : F215 i o (Rcs C) = some (.a0 0) := by
  have hl := g.len
  have h := layT_out C g i o 18446744073709551616 0 (by omega) (by omega)
  rw [show ((0 : Nat) : Int) = 0 from rfl] at h
  simp only [F215, D215, PT.ev, PT.test, dite_eq_ite, rcs_len]
  rw [h]
  rfl
/-! ### How deep -/
def Dq (C : List (List Ly)) (m : Nat) (ns : List W3) : Prop := ns.length = C.length ∧ ∀ j (h : j < ns.length), m ≤ j → 0 ≤ ns[j].c0 ∧ ns[j].c0 ≤ (C.length : Int) - j
theorem dq_in (C : List (List Ly)) (g : Cz C) (i o : Int) (c : Nat) (hc : c < C.length) (ns : List W3) (hq : Dq C (c + 1) ns) : ∀ (n k : Nat) (acc : Int), k ≤ C[c].length → C[c].length < n + k → 1 ≤ acc → acc ≤ (C.length : Int) - c →
    ∃ r, L256_2 n (.s0 (.mk 1 C.length c acc (Rl C[c]) C[c].length k i o (Rcs C) (Rt ns))) = some (.e0 (.mk 1 C.length c r i o (Rcs C) (Rt ns))) ∧ 0 ≤ r ∧ r ≤ (C.length : Int) - c
  | 0, k, acc, h1, h2, _, _ => by omega
  | n + 1, k, acc, h1, h2, h3, h4 => by
    rw [L256_2_s0]
    have gl := g.four _ (List.getElem_mem hc)
    have gn := g.len
    obtain ⟨q1, q2⟩ := hq
    by_cases h : k < C[c].length
    · have hw : w64 ((k : Int) + 1) = ((k + 1 : Nat) : Int) := by rw [w64_in (by omega) (by omega)]; omega
      obtain ⟨b, e, hb⟩ := c_r10 1 acc i o C.length c k C[c].length (Rl C[c]) (Rcs C) (Rt ns) (Wl C[c][k])
      have ih := fun acc h3 h4 => dq_in C g i o c hc ns ⟨q1, q2⟩ n (k + 1) acc h (by omega) h3 h4
      have step : ∀ inn : Int, 0 ≤ inn → inn ≤ (C.length : Int) - c - 1 → 1 ≤ F257 acc (Wl C[c][k]) inn ∧ F257 acc (Wl C[c][k]) inn ≤ (C.length : Int) - c := fun inn i1 i2 => by
        have hw2 : w64 (1 + inn) = 1 + inn := w64_in (by omega) (by omega)
        simp only [F257, D257, PT.evT, PT.test, dite_eq_ite, hw2]
        split <;> omega
      simp only [D256_2, PT.ev, PT.test, dite_eq_ite, if_pos (show (k : Int) < (C[c].length : Int) by omega), if_pos (show (0 : Int) ≤ (k : Int) by omega), Int.toNat_natCast, rl_get, List.getElem?_eq_getElem h, Option.map_some, Option.bind_some]
      rw [e]
      simp only [Option.bind_some, PT.ev, PT.test, dite_eq_ite, bnd_def, hw, N256_2.nx]
      cases b with
      | true =>
        obtain ⟨r1, r2⟩ := hb rfl
        rw [rcs_len] at r2
        have hi : (Wl C[c][k]).c2.toNat < ns.length := by omega
        obtain ⟨v1, v2⟩ := q2 _ hi (by omega)
        simp only [if_true, if_pos (show 0 ≤ (Wl C[c][k]).c2 ∧ (Wl C[c][k]).c2 < (C.length : Int) by omega), Nat.zero_add, rt_get, List.getElem?_eq_getElem hi, Option.bind_some]
        obtain ⟨s1, s2⟩ := step _ v1 (by omega)
        exact ih _ s1 s2
      | false =>
        simp only [Bool.false_eq_true, if_false]
        obtain ⟨s1, s2⟩ := step 0 (by omega) (by omega)
        exact ih _ s1 s2
    · simp only [D256_2, PT.ev, PT.test, dite_eq_ite, if_neg (show ¬ (k : Int) < (C[c].length : Int) by omega), N256_2.nx]
      exact ⟨acc, rfl, by omega, h4⟩
theorem dq_out (C : List (List Ly)) (g : Cz C) (i o : Int) : ∀ (m n : Nat) (ns : List W3), Dq C m ns → m ≤ C.length → m < n →
    ∃ ns' : List W3, L256_0 n (.s0 (.mk 1 C.length ((m : Int) - 1) i o (Rcs C) (Rt ns))) = some (.e0 (.mk C.length (Rt ns'))) ∧ Dq C 0 ns'
  | _, 0, _, _, _, h => by omega
  | 0, n + 1, ns, h0, h1, h2 => by
    rw [L256_0_s0]
    simp only [D256_0, PT.ev, PT.test, dite_eq_ite, if_neg (show ¬ (((0 : Nat) : Int) - 1 ≥ 0) by omega), N256_0.nx]
    exact ⟨ns, rfl, h0⟩
  | m + 1, n + 1, ns, h0, h1, h2 => by
    have gn := g.len
    have hm : m < C.length := by omega
    have gl := g.four _ (List.getElem_mem hm)
    have e : ((m + 1 : Nat) : Int) - 1 = (m : Int) := by omega
    have hw : w64 ((m : Int) - 1) = (m : Int) - 1 := w64_in (by omega) (by omega)
    obtain ⟨r, er, r1, r2⟩ := dq_in C g i o m hm ns h0 18446744073709551616 0 1 (by omega) (by omega) (by omega) (by omega)
    rw [show ((0 : Nat) : Int) = 0 from rfl] at er
    obtain ⟨l1, l2⟩ := h0
    have hmn : m < ns.length := by omega
    obtain ⟨ns', e1, e2⟩ := dq_out C g i o m n (ns.set m ⟨r⟩) ⟨by rw [List.length_set]; exact l1, fun j hj hmj => by
      rw [List.length_set] at hj
      rw [List.getElem_set]
      by_cases hjm : m = j
      · subst hjm; rw [if_pos rfl]; exact ⟨r1, r2⟩
      · rw [if_neg hjm]; exact l2 j hj (by omega)⟩ (by omega) (by omega)
    rw [L256_0_s0]
    simp only [D256_0, PT.ev, PT.test, dite_eq_ite, e, if_pos (show (m : Int) ≥ 0 by omega), if_pos (show (0 : Int) ≤ (m : Int) by omega), Int.toNat_natCast, rcs_get, List.getElem?_eq_getElem hm, Option.map_some, Option.bind_some, rl_len]
    rw [er]
    simp only [Option.bind_some, PT.ev, PT.test, dite_eq_ite, if_pos (show (0 : Int) ≤ (m : Int) ∧ (m : Int) < (C.length : Int) by omega), Nat.zero_add, Int.toNat_natCast, rt_get, List.getElem?_eq_getElem hmn, rt_set, hw, N256_0.nx]
    exact ⟨ns', e1, e2⟩
theorem deepT (C : List (List Ly)) (g : Cz C) (i o : Int) : ∃ z, F216 i o (Rcs C) 0 = some (.a0 z) ∧ z ≤ 4 := by
  have gn := g.len
  have hw : w64 ((C.length : Int) - 1) = (C.length : Int) - 1 := w64_in (by omega) (by omega)
  obtain ⟨ns, e1, l1, l2⟩ := dq_out C g i o C.length 18446744073709551616 (List.replicate C.length ⟨0⟩) ⟨List.length_replicate, fun j hj h => by rw [List.length_replicate] at hj; omega⟩ (Nat.le_refl _) (by omega)
  have ec : F256 i o (Rcs C) 1 = some (.a0 C.length (Rt ns)) := by
    simp only [F256, D256, PT.ev, PT.test, dite_eq_ite, rcs_len, if_pos (show 0 ≤ (C.length : Int) ∧ (C.length : Int) ≤ (C.length : Int) ∧ (C.length : Int) ≤ 140737488355328 ∧ (C.length : Int) * 8 ≤ 140737488355328 by omega), Int.toNat_natCast, rt_rep, hw, e1, Option.bind_some]
  have h : (0 : Int) < (C.length : Int) := by omega
  have hz : 0 < ns.length := by omega
  have hb := (l2 0 hz (Nat.le_refl _)).2
  simp only [F216, D216, PT.ev, PT.test, dite_eq_ite, bnd_def, there1, rcs_len, ec, Option.bind_some, decide_eq_true h, show decide ((0 : Int) ≥ 0) = true from rfl, Bool.and_self, Bool.not_true, Bool.false_eq_true, if_false, if_pos (show (0 : Int) ≤ 0 ∧ (0 : Int) < (C.length : Int) from ⟨by decide, h⟩), Nat.zero_add, Int.toNat_zero, rt_get, List.getElem?_eq_getElem hz]
  exact ⟨_, rfl, by omega⟩
/-! ### How many nodes -/
def nq : Nat → Int
  | 0 => 1
  | r + 1 => 4 * (1 + nq r)
theorem nq_le : ∀ r : Nat, r ≤ 3 → 1 ≤ nq r ∧ nq r ≤ 148 := by decide
theorem nq_mono : ∀ a b : Nat, a ≤ b → b ≤ 3 → nq a ≤ nq b := by
  intro a b h1 h2
  have : ∀ a : Nat, a ≤ 3 → ∀ b : Nat, b ≤ 3 → a ≤ b → nq a ≤ nq b := by decide
  exact this a (by omega) b h2 h1
def Nq (C : List (List Ly)) (m : Nat) (ns : List W3) : Prop := ns.length = C.length ∧ ∀ j (h : j < ns.length), m ≤ j → 0 ≤ ns[j].c0 ∧ ns[j].c0 ≤ nq (C.length - j)
theorem nq_in (C : List (List Ly)) (g : Cz C) (i o : Int) (c r : Nat) (hc : c < C.length) (hr : C.length - c = r + 1) (ns : List W3) (hq : Nq C (c + 1) ns) : ∀ (n k : Nat) (acc : Int), k ≤ C[c].length → C[c].length < n + k → 0 ≤ acc → acc ≤ (k : Int) * (1 + nq r) →
    ∃ z, L256v1_2 n (.s0 (.mk 0 C.length c acc (Rl C[c]) C[c].length k i o (Rcs C) (Rt ns))) = some (.e0 (.mk 0 C.length c z i o (Rcs C) (Rt ns))) ∧ 0 ≤ z ∧ z ≤ nq (r + 1)
  | 0, k, acc, h1, h2, _, _ => by omega
  | n + 1, k, acc, h1, h2, h3, h4 => by
    rw [L256v1_2_s0]
    have gl := g.four _ (List.getElem_mem hc)
    have gn := g.len
    have hle := nq_le r (by omega)
    have hT : nq (r + 1) = 4 * (1 + nq r) := rfl
    obtain ⟨q1, q2⟩ := hq
    by_cases h : k < C[c].length
    · have hw : w64 ((k : Int) + 1) = ((k + 1 : Nat) : Int) := by rw [w64_in (by omega) (by omega)]; omega
      have hk1 : ((k + 1 : Nat) : Int) * (1 + nq r) = (k : Int) * (1 + nq r) + (1 + nq r) := by
        rw [show ((k + 1 : Nat) : Int) = (k : Int) + 1 by omega, Int.add_mul, Int.one_mul]
      have hkb : (k : Int) * (1 + nq r) ≤ 4 * (1 + nq r) := Int.mul_le_mul_of_nonneg_right (by omega) (by omega)
      obtain ⟨b, e, hb⟩ := cv1_r10 0 acc i o C.length c k C[c].length (Rl C[c]) (Rcs C) (Rt ns) (Wl C[c][k])
      have ih := fun acc h3 h4 => nq_in C g i o c r hc hr ns ⟨q1, q2⟩ n (k + 1) acc h (by omega) h3 h4
      have step : ∀ inn : Int, 0 ≤ inn → inn ≤ nq r → 0 ≤ F258 acc (Wl C[c][k]) inn ∧ F258 acc (Wl C[c][k]) inn ≤ ((k + 1 : Nat) : Int) * (1 + nq r) := fun inn i1 i2 => by
        have hw1 : w64 (acc + 2) = acc + 2 := w64_in (by omega) (by omega)
        have hw2 : w64 (acc + w64 (1 + inn)) = acc + (1 + inn) := by rw [w64_in (n := 1 + inn) (by omega) (by omega), w64_in (by omega) (by omega)]
        rw [hk1]
        simp only [F258, D258, PT.evT, PT.test, dite_eq_ite, hw1, hw2]
        split
        · split <;> omega
        · split <;> split <;> omega
      simp only [D256v1_2, PT.ev, PT.test, dite_eq_ite, if_pos (show (k : Int) < (C[c].length : Int) by omega), if_pos (show (0 : Int) ≤ (k : Int) by omega), Int.toNat_natCast, rl_get, List.getElem?_eq_getElem h, Option.map_some, Option.bind_some]
      rw [e]
      simp only [Option.bind_some, PT.ev, PT.test, dite_eq_ite, bnd_def, hw, N256v1_2.nx]
      cases b with
      | true =>
        obtain ⟨r1, r2⟩ := hb rfl
        rw [rcs_len] at r2
        have hi : (Wl C[c][k]).c2.toNat < ns.length := by omega
        obtain ⟨v1, v2⟩ := q2 _ hi (by omega)
        have vm := nq_mono (C.length - (Wl C[c][k]).c2.toNat) r (by omega) (by omega)
        simp only [if_true, if_pos (show 0 ≤ (Wl C[c][k]).c2 ∧ (Wl C[c][k]).c2 < (C.length : Int) by omega), Nat.zero_add, rt_get, List.getElem?_eq_getElem hi, Option.bind_some]
        obtain ⟨s1, s2⟩ := step _ v1 (by omega)
        exact ih _ s1 s2
      | false =>
        simp only [Bool.false_eq_true, if_false]
        obtain ⟨s1, s2⟩ := step 0 (by omega) (by omega)
        exact ih _ s1 s2
    · have hkb : (k : Int) * (1 + nq r) ≤ 4 * (1 + nq r) := Int.mul_le_mul_of_nonneg_right (by omega) (by omega)
      simp only [D256v1_2, PT.ev, PT.test, dite_eq_ite, if_neg (show ¬ (k : Int) < (C[c].length : Int) by omega), N256v1_2.nx]
      exact ⟨acc, rfl, h3, by omega⟩
theorem nq_out (C : List (List Ly)) (g : Cz C) (i o : Int) : ∀ (m n : Nat) (ns : List W3), Nq C m ns → m ≤ C.length → m < n →
    ∃ ns' : List W3, L256v1_0 n (.s0 (.mk 0 C.length ((m : Int) - 1) i o (Rcs C) (Rt ns))) = some (.e0 (.mk C.length (Rt ns'))) ∧ Nq C 0 ns'
  | _, 0, _, _, _, h => by omega
  | 0, n + 1, ns, h0, h1, h2 => by
    rw [L256v1_0_s0]
    simp only [D256v1_0, PT.ev, PT.test, dite_eq_ite, if_neg (show ¬ (((0 : Nat) : Int) - 1 ≥ 0) by omega), N256v1_0.nx]
    exact ⟨ns, rfl, h0⟩
  | m + 1, n + 1, ns, h0, h1, h2 => by
    have gn := g.len
    have hm : m < C.length := by omega
    have gl := g.four _ (List.getElem_mem hm)
    have e : ((m + 1 : Nat) : Int) - 1 = (m : Int) := by omega
    have hw : w64 ((m : Int) - 1) = (m : Int) - 1 := w64_in (by omega) (by omega)
    obtain ⟨r, er, r1, r2⟩ := nq_in C g i o m (C.length - m - 1) hm (by omega) ns h0 18446744073709551616 0 0 (by omega) (by omega) (by omega) (by omega)
    rw [show ((0 : Nat) : Int) = 0 from rfl] at er
    rw [show C.length - m - 1 + 1 = C.length - m by omega] at r2
    obtain ⟨l1, l2⟩ := h0
    have hmn : m < ns.length := by omega
    obtain ⟨ns', e1, e2⟩ := nq_out C g i o m n (ns.set m ⟨r⟩) ⟨by rw [List.length_set]; exact l1, fun j hj hmj => by
      rw [List.length_set] at hj
      rw [List.getElem_set]
      by_cases hjm : m = j
      · subst hjm; rw [if_pos rfl]; exact ⟨r1, r2⟩
      · rw [if_neg hjm]; exact l2 j hj (by omega)⟩ (by omega) (by omega)
    rw [L256v1_0_s0]
    simp only [D256v1_0, PT.ev, PT.test, dite_eq_ite, e, if_pos (show (m : Int) ≥ 0 by omega), if_pos (show (0 : Int) ≤ (m : Int) by omega), Int.toNat_natCast, rcs_get, List.getElem?_eq_getElem hm, Option.map_some, Option.bind_some, rl_len]
    rw [er]
    simp only [Option.bind_some, PT.ev, PT.test, dite_eq_ite, if_pos (show (0 : Int) ≤ (m : Int) ∧ (m : Int) < (C.length : Int) by omega), Nat.zero_add, Int.toNat_natCast, rt_get, List.getElem?_eq_getElem hmn, rt_set, hw, N256v1_0.nx]
    exact ⟨ns', e1, e2⟩
theorem nodesT (C : List (List Ly)) (g : Cz C) (i o : Int) : ∃ z, F217 i o (Rcs C) 0 = some (.a0 z) ∧ z ≤ 256 := by
  have gn := g.len
  have hw : w64 ((C.length : Int) - 1) = (C.length : Int) - 1 := w64_in (by omega) (by omega)
  obtain ⟨ns, e1, l1, l2⟩ := nq_out C g i o C.length 18446744073709551616 (List.replicate C.length ⟨0⟩) ⟨List.length_replicate, fun j hj h => by rw [List.length_replicate] at hj; omega⟩ (Nat.le_refl _) (by omega)
  have ec : F256v1 i o (Rcs C) 0 = some (.a0 C.length (Rt ns)) := by
    simp only [F256v1, D256v1, PT.ev, PT.test, dite_eq_ite, rcs_len, if_pos (show 0 ≤ (C.length : Int) ∧ (C.length : Int) ≤ (C.length : Int) ∧ (C.length : Int) ≤ 140737488355328 ∧ (C.length : Int) * 8 ≤ 140737488355328 by omega), Int.toNat_natCast, rt_rep, hw, e1, Option.bind_some]
  have h : (0 : Int) < (C.length : Int) := by omega
  have hz : 0 < ns.length := by omega
  have hb := (l2 0 hz (Nat.le_refl _)).2
  have hv := nq_le (C.length - 0) (by omega)
  simp only [F217, D217, PT.ev, PT.test, dite_eq_ite, bnd_def, there1, rcs_len, ec, Option.bind_some, decide_eq_true h, show decide ((0 : Int) ≥ 0) = true from rfl, Bool.and_self, Bool.not_true, Bool.false_eq_true, if_false, if_pos (show (0 : Int) ≤ 0 ∧ (0 : Int) < (C.length : Int) from ⟨by decide, h⟩), Nat.zero_add, Int.toNat_zero, rt_get, List.getElem?_eq_getElem hz]
  exact ⟨_, rfl, by omega⟩
/-- A document of a tape may be. -/
theorem docT (C : List (List Ly)) (g : Cz C) (i o : Int) (hi : -1000 ≤ i ∧ i < o ∧ o ≤ 1000) : F157 i o (Rcs C) = some (.a0 0) := by
  have gn := g.len
  have s0 : F212 (Rcs C) = some (.a0 false) := by
    have loop : ∀ (n k : Nat), k ≤ C.length → C.length < n + k → L252_0 n (.s0 (.mk (Rcs C) C.length k)) = some .e1 := by
      intro n
      induction n with
      | zero => intro k h1 h2; omega
      | succ n ih =>
        intro k h1 h2
        rw [L252_0_s0]
        by_cases h : k < C.length
        · have hw : w64 ((k : Int) + 1) = ((k + 1 : Nat) : Int) := by rw [w64_in (by omega) (by omega)]; omega
          have gl := g.four _ (List.getElem_mem h)
          have hs : F213 (Rl C[k]) = false := by
            simp only [F213, D213, PT.evT, PT.test, dite_eq_ite, rl_len, decide_eq_false (show ¬ (C[k].length : Int) > 16 by omega)]
          simp only [D252_0, PT.ev, PT.test, dite_eq_ite, bnd_def, if_pos (show (k : Int) < (C.length : Int) by omega), if_pos (show (0 : Int) ≤ (k : Int) by omega), Int.toNat_natCast, rcs_get, List.getElem?_eq_getElem h, Option.map_some, Option.bind_some, hs, Bool.false_eq_true, if_false, hw, N252_0.nx]
          exact ih (k + 1) h (by omega)
        · simp only [D252_0, PT.ev, PT.test, dite_eq_ite, if_neg (show ¬ (k : Int) < (C.length : Int) by omega), N252_0.nx]
    have h := loop 18446744073709551616 0 (by omega) (by omega)
    rw [show ((0 : Nat) : Int) = 0 from rfl] at h
    simp only [F212, D212, F252, D252, PT.ev, PT.test, dite_eq_ite, rcs_len, h, Option.bind_some]
    rfl
  have e2 : J157_r2 (.mk false i o (Rcs C)) = some (.e0 (.mk false i o (Rcs C))) := by
    simp only [J157_r2, D157_r2, PT.ev, PT.test, dite_eq_ite, rcs_len, if_neg (show ¬ (C.length : Int) < 1 by omega), if_neg (show ¬ (C.length : Int) > 8 by omega)]
  have e3 : J157_r4 (.mk i o (Rcs C)) = some (.e0 (.mk false i o (Rcs C))) := by
    simp only [J157_r4, D157_r4, PT.ev, PT.test, dite_eq_ite, bnd_def, tickT (a := i) (by omega), tickT (a := o) (by omega), Bool.not_true, Bool.false_eq_true, if_false, decide_eq_false (show ¬ i ≥ o by omega)]
  obtain ⟨z5, e5, h5⟩ := deepT C g i o
  obtain ⟨z6, e6, h6⟩ := nodesT C g i o
  simp only [F157, D157, PT.ev, PT.test, dite_eq_ite, s0, Option.bind_some]
  rw [e2]
  simp only [Option.bind_some, PT.ev, Bool.false_eq_true, if_false]
  rw [e3]
  simp only [Option.bind_some, PT.ev, PT.test, dite_eq_ite, Bool.false_eq_true, if_false, lysT C g i o, e5, e6]
  rw [if_neg (by decide), if_neg (by omega), if_neg (by omega)]
end Go.Proofs.YtifalphladcdcaaGreat.H
