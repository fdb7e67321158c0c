/- ShapeMade in plain Lean. Conditions: those stated. -/
import Derived.Test.YtifalphladcdcaaGood5
set_option linter.unusedVariables false
set_option linter.unusedSimpArgs false
namespace Go.Proofs.Ytifalphladcdcaa.H
open Go Go.VM
set_option maxRecDepth 100000
theorem known13 : F19 = some (.a0 true) := by kernel_rfl
theorem and6 (a : Int) : w64 (↑(BitVec.toNat (BitVec.ofInt (IntKind.bits IntKind.i64) a &&& BitVec.ofInt (IntKind.bits IntKind.i64) 63)) : Int) = a % 64 := by
  have h : Go.bits .and .i64 a 63 = a % 64 := and_low .i64 6 (by decide) (fun n h h' => by rw [IntKind.wrap_i64]; omega) a
  exact h
theorem keysT_loop (c : Bool) (N T : Int) (ks : List PK) (g : Gp c N T ks) (hN : 1 ≤ N ∧ N ≤ 3) (hT : T ≤ 1073741824) (hl : ks.length ≤ 32) : ∀ (n i : Nat) (ahead : Int), i ≤ ks.length → (∀ x, 0 < i → ks[i - 1]? = some x → ahead = x.c0) → ks.length < n + i →
    L33_0 n (.s0 (Rk ks) ahead ks.length i) = some (.e1 (Rk ks))
  | 0, i, ahead, h1, _, h2 => by omega
  | n + 1, i, ahead, h1, ha, h2 => by
    rw [L33_0_s0]
    by_cases h : i < ks.length
    · have hg := List.getElem?_eq_getElem h
      have h0 : 0 < ks.length := by omega
      obtain ⟨t1, t2, w, e0, ps, e1, e2, e3⟩ := g.each ks[i] (List.getElem_mem h)
      obtain ⟨_, _, _, f0, rs, f1, f2, f3⟩ := g.each ks[0] (List.getElem_mem h0)
      have hr : rightv c ps = true := rightv_of (by omega) (by omega) (by omega) (fun p hp => by
        obtain ⟨⟨a, b⟩, ⟨d, e⟩⟩ := e3 p hp
        exact ⟨nr_of (by omega), nr_of (by omega)⟩)
      have hm : movesv ks[i].c0 ks[i].c3 ks[i].c4 ks[i].c5 ks[i].c6 ks[i].c7 = true := by rw [movesv, w, decide_eq_true (by omega), decide_eq_true (by omega)]; rfl
      have hf : fitsv c ps c rs = true := by rw [fitsv, decide_eq_true (show ps.length = rs.length by omega)]; simp
      have hah : 0 < i → ahead < ks[i].c0 := fun hi => by
        have hp : i - 1 < ks.length := by omega
        rw [ha _ hi (List.getElem?_eq_getElem hp)]
        exact List.pairwise_iff_getElem.1 g.inc (i - 1) i hp h (by omega)
      simp only [D33_0, PT.ev, PT.test, dite_eq_ite, bnd_def, rk_len, if_pos (show (i : Int) < (ks.length : Int) by omega), if_pos (show (0 : Int) ≤ (i : Int) by omega), Int.toNat_natCast, rk_get, hg, Option.bind_some, qstep, hm, decide_eq_true hah, Bool.and_self, Bool.not_true, Bool.false_eq_true, if_false,
        e0, e1, qempty, decide_eq_false (show ¬ ps.length = 0 by omega), qright c ps (by omega), hr, List.getElem?_eq_getElem h0, f0, f1, qfits, hf, N33_0.nx_s0, wi (show (i : Int) < 9223372036854775807 by omega)]
      exact keysT_loop c N T ks g hN hT hl n (i + 1) ks[i].c0 h (fun x _ hx => by rw [show i + 1 - 1 = i by omega, hg] at hx; cases hx; rfl) (by omega)
    · simp only [D33_0, PT.ev, PT.test, dite_eq_ite, rk_len, if_neg (show ¬ (i : Int) < (ks.length : Int) by omega), N33_0.nx_e1]
theorem keysT (c : Bool) (N T : Int) (ks : List PK) (g : Gp c N T ks) (hN : 1 ≤ N ∧ N ≤ 3) (hT : T ≤ 1073741824) (hl : ks.length ≤ 32) : F33 (Rk ks) = some (.a0 true) := by
  have h := keysT_loop c N T ks g hN hT hl 18446744073709551616 0 0 (by omega) (fun x h => by omega) (by omega)
  rw [show ((0 : Nat) : Int) = 0 from rfl] at h
  simp only [F33, D33, PT.ev, PT.test, dite_eq_ite, rk_len, h, Option.bind_some, decide_eq_true (show (ks.length : Int) ≤ 32 by omega)]
theorem right_true (s : Shp) (g : Gs s) : F17 s.form s.n (Rn s.w) (Rn s.h) (Rk s.ps) s.f s.rule s.p0 s.p1 s.p2 s.p3 s.p4 s.p5 s.p6 s.p7 s.p8 s.p9 s.p10 s.p11 s.p12 s.p13 (Rc s.cs) s.st (Rn s.wd) s.s0 s.s1 s.s2 s.s3 s.cap (Rd s.ds) (Rn s.fr) (Rn s.to_) = some (.a0 true) := by
  obtain ⟨bw, bh, bp, bc, bd, b1, b2, b3, e1, e2, e3, e4, e5, e6, e7, e8, e9, _⟩ := right_both s g.gr
  rw [e9]
  have kr : ∀ (ks : List Ky) (lo hi T : Int) (b : Bool), Gn lo hi T ks → -67108864 ≤ lo → hi ≤ 67108864 → T ≤ 1073741824 → ks.length ≤ 32 → F51 (Rn ks) = some (.a0 b) → b = true := fun ks lo hi T b g h1 h2 h3 h4 h5 => by
    obtain ⟨b', x1, _, x3⟩ := kright_ex ks (by omega)
    rw [x1] at h5; cases h5
    exact x3 (g.ok h1 h2 h3) h4
  have z1 : b1 = true := kr s.wd 0 327679 61 b1 g.wd.2 (by decide) (by decide) (by decide) (by have := g.wd.1; omega) e6
  have z2 : b2 = true := kr s.fr 0 131071 31 b2 g.fr.2 (by decide) (by decide) (by decide) (by have := g.fr.1; omega) e7
  have z3 : b3 = true := kr s.to_ 0 131071 31 b3 g.to_.2 (by decide) (by decide) (by decide) (by have := g.to_.1; omega) e8
  have zc : bc = true := by
    obtain ⟨b', x1, _, x3⟩ := cright_ex s.cs (by have := g.cols.1; omega)
    rw [x1] at e4; cases e4
    exact x3 g.cols.2 (by have := g.cols.1; omega)
  have zd : bd = true := by
    obtain ⟨b', x1, _, x3⟩ := dright_ex s.ds (by have := g.ds.1; omega)
    rw [x1] at e5; cases e5
    exact x3 (fun d hd => by have := g.ds.2 d hd; exact ⟨by omega, by omega⟩) (by have := g.ds.1; omega)
  have zp : paintv s.p0 s.p9 s.p10 s.p11 s.p12 s.p13 = true := by
    obtain ⟨⟨a, b⟩, c, d, e, f, h⟩ := g.paint
    rw [paintv, decide_eq_true (show s.p0 ≥ 0 from a), decide_eq_true b, c, d, e, f, h]; rfl
  have zr : (s.rule == 0 || s.rule == 1) = true := by rcases g.rule with h | h <;> rw [h] <;> rfl
  have zk : (s.cap == 0 || s.cap == 1) = true := by rcases g.cap with h | h <;> rw [h] <;> rfl
  have zo : oneB s.form s.n = true := by
    rw [oneB, decide_eq_true g.form.1, decide_eq_true g.form.2]
    by_cases h : s.form = 2
    · rw [if_pos h, decide_eq_true (g.n.1 h).1, decide_eq_true (g.n.1 h).2]; rfl
    · rw [if_neg h, decide_eq_true (g.n.2 h)]; rfl
  have zt : twoB s.form s.w.length s.h.length s.ps.length bw bh bp = true := by
    unfold twoB
    by_cases h : s.form = 3
    · obtain ⟨h1, h2, h3, h4, c, N, h5, h6, h7⟩ := g.what.drawn h
      rw [keysT c N 31 s.ps h7 ⟨h5, h6⟩ (by decide) (by omega)] at e3
      cases e3
      rw [if_pos h, h1, h2]; rfl
    · obtain ⟨h1, h2, h3, h4, h5⟩ := g.what.made h
      have q1 : bw = true := kr s.w _ _ _ bw h4 (by decide) (by decide) (by decide) (by omega) e1
      have q2 : bh = true := kr s.h _ _ _ bh h5 (by decide) (by decide) (by decide) (by omega) e2
      rw [if_neg h, h1, q1, q2]; rfl
  rw [z1, z2, z3, zc, zd, zp, zr, zk, zo, zt]; rfl
theorem at_good (s : Shp) (g : Gs s) (t : Int) : ∃ (c : Bool) (qs : List Pt), F16 s.form s.n (Rn s.w) (Rn s.h) (Rk s.ps) s.f s.rule s.p0 s.p1 s.p2 s.p3 s.p4 s.p5 s.p6 s.p7 s.p8 s.p9 s.p10 s.p11 s.p12 s.p13 (Rc s.cs) s.st (Rn s.wd) s.s0 s.s1 s.s2 s.s3 s.cap (Rd s.ds) (Rn s.fr) (Rn s.to_) t = some (.a0 c qs.length (Rp qs)) ∧ rightv c qs = true ∧ 4 ≤ qs.length ∧ qs.length ≤ 97 ∧ (s.form ≠ 3 → c = true) := by
  have gl := g.gl
  simp only [F16, D16, PT.ev, PT.test, dite_eq_ite, qat s.w gl.w, qat s.h gl.h, Option.bind_some, beq_iff_eq]
  by_cases h3 : s.form = 3
  · obtain ⟨_, _, h4, h5, c, N, h6, h7, h8⟩ := g.what.drawn h3
    obtain ⟨qs, e1, e2, e3⟩ := pat_good c N 31 s.ps h8 ⟨h6, h7⟩ (by omega) (by omega) t
    simp only [if_neg (show ¬ s.form = 0 by omega), if_neg (show ¬ s.form = 1 by omega), if_neg (show ¬ s.form = 2 by omega), if_pos h3, e1, Option.bind_some, PT.ev, PT.test, dite_eq_ite]
    exact ⟨c, qs, rfl, rightv_of (by omega) (by omega) (by omega) e3, by omega, by omega, fun h => absurd h3 h⟩
  · obtain ⟨_, _, _, gw, gh⟩ := g.what.made h3
    have hw := atN_bd s.w t (fun k hk => by have := gw.each k hk; exact ⟨this.2.2.1, this.2.2.2.1, this.2.2.2.2⟩)
    have hh := atN_bd s.h t (fun k hk => by have := gh.each k hk; exact ⟨this.2.2.1, this.2.2.2.1, this.2.2.2.2⟩)
    generalize atN s.w t 0 = w at *
    generalize atN s.h t 0 = h at *
    by_cases h0 : s.form = 0
    · obtain ⟨qs, e1, _, e3, e4⟩ := rect_ex w h
      simp only [if_pos h0, e1, Option.bind_some, PT.ev, PT.test, dite_eq_ite]
      refine ⟨true, qs, rfl, rightv_of (by omega) (by omega) (by omega) (fun p hp => ?_), by omega, by omega, fun _ => rfl⟩
      have := e4 p hp
      rw [w64_in (n := 0 - w / 2) (by omega) (by omega), w64_in (n := w - w / 2) (by omega) (by omega), w64_in (n := 0 - h / 2) (by omega) (by omega), w64_in (n := h - h / 2) (by omega) (by omega)] at this
      exact ⟨nr_of (by omega), nr_of (by omega)⟩
    · by_cases h1 : s.form = 1
      · obtain ⟨qs, e1, _, e3, e4⟩ := oval_ex w h
        simp only [if_neg h0, if_pos h1, e1, Option.bind_some, PT.ev, PT.test, dite_eq_ite]
        refine ⟨true, qs, rfl, rightv_of (by omega) (by omega) (by omega) (fun p hp => ?_), by omega, by omega, fun _ => rfl⟩
        have := e4 p hp
        have m1 := mul_abs (A := 41000002) (B := 65536) (C := 41000003) (by decide) (by decide) (a := w / 2) (b := 36195) (by omega) (by decide) (by decide)
        have m2 := mul_abs (A := 41000002) (B := 65536) (C := 41000003) (by decide) (by decide) (a := h / 2) (b := 36195) (by omega) (by decide) (by decide)
        rw [w64_in (n := 0 - mul (w / 2) 36195) (by omega) (by omega), w64_in (n := 0 - w / 2) (by omega) (by omega), w64_in (n := 0 - mul (h / 2) 36195) (by omega) (by omega), w64_in (n := 0 - h / 2) (by omega) (by omega)] at this
        exact ⟨nr_of (by omega), nr_of (by omega)⟩
      · have h2 : s.form = 2 := by have := g.form; omega
        obtain ⟨qs, e1, _, e3, e5, e6, e4⟩ := star_ex s.n w h
        simp only [if_neg h0, if_neg h1, if_pos h2, e1, Option.bind_some, PT.ev, PT.test, dite_eq_ite]
        refine ⟨true, qs, rfl, rightv_of (by omega) (by omega) (by omega) (fun p hp => ?_), by omega, by omega, fun _ => rfl⟩
        obtain ⟨d, a, hd, rfl⟩ := e4 p hp
        have hdb : -41000002 ≤ d ∧ d ≤ 41000002 := by rcases hd with rfl | rfl <;> omega
        have s1 := sn_bd a
        have s2 := sn_bd (w64 (tn a + 5898240))
        have m1 := mul_abs (A := 41000002) (B := 65536) (C := 41000003) (by decide) (by decide) (a := d) (b := cs a) hdb s2 (by decide)
        have m2 := mul_abs (A := 41000002) (B := 65536) (C := 41000003) (by decide) (by decide) (a := d) (b := sn a) hdb s1 (by decide)
        exact ⟨nr_of ⟨Int.le_trans (by decide) m1.1, Int.le_trans m1.2 (by decide)⟩, nr_of ⟨Int.le_trans (by decide) m2.1, Int.le_trans m2.2 (by decide)⟩⟩
theorem shapeMade_plain (tape : List W3) (hl : (tape.length : Int) ≤ 9223372036854775807) (t : Int) : F5 (Rt tape) t = some (.a0 true) := by
  obtain ⟨s, at', e, _, g⟩ := shape_ex tape hl 0 (Int.le_refl 0)
  obtain ⟨c, qs, a1, a2, a3, a4, a5⟩ := at_good s g (t % 64)
  have r1 := right_true s g
  have tk : ∀ xs : List PK, List.take xs.length (Rk xs) = Rk xs := fun xs => List.take_of_length_le (by rw [rk_len]; exact Nat.le_refl _)
  have tc : ∀ xs : List Ck, List.take xs.length (Rc xs) = Rc xs := fun xs => List.take_of_length_le (by rw [rc_len]; exact Nat.le_refl _)
  have td : ∀ xs : List Dn, List.take xs.length (Rd xs) = Rd xs := fun xs => List.take_of_length_le (by rw [rd_len]; exact Nat.le_refl _)
  have z : ∀ n : Nat, 0 + n ≤ n := fun n => by omega
  have rr : F18 c (Rp qs) = some (.a0 true) := by rw [rright c qs (by omega), a2]
  simp only [F5, D5, PT.ev, PT.test, dite_eq_ite, e, Option.bind_some, rn_len, rk_len, rc_len, rd_len, rp_len, if_pos (z _), take_rn, tk, tc, td, take_rp, and6, a1, r1, rr, if_true, if_pos (show (qs.length : Int) > 0 by omega), known13, beq_iff_eq]
  by_cases h : s.form = 3
  · rw [if_pos h]
  · rw [if_neg h, a5 h, if_pos rfl]
end Go.Proofs.Ytifalphladcdcaa.H
