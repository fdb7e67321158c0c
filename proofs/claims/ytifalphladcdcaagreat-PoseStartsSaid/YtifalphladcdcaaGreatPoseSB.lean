import Derived.Test.YtifalphladcdcaaGreatPoseLB
set_option linter.unusedVariables false
set_option linter.unusedSimpArgs false
/- Numbers brought into bounds. Conditions: those stated. -/
namespace Go.Proofs.YtifalphladcdcaaGreat.H
open Go Go.VM
set_option maxRecDepth 100000
theorem within_in (x lo hi : Int) (h1 : -2147483648 ≤ lo) (h2 : lo ≤ hi) (h3 : hi ≤ 2147483648) : ∃ v : Int, F19 x lo hi = some (.a0 v) ∧ lo ≤ v ∧ v ≤ hi ∧ (lo ≤ x → x ≤ hi → v = x) := by
  have hq : w64 (w64 (hi - lo) + 1) = hi - lo + 1 := by rw [w64_in (n := hi - lo) (by omega) (by omega), w64_in (by omega) (by omega)]
  have hq0 : ¬ hi - lo + 1 = 0 := by omega
  have t1 : Int.tmod x (hi - lo + 1) < hi - lo + 1 := Int.tmod_lt_of_pos x (by omega)
  have t2 : -(hi - lo + 1) < Int.tmod x (hi - lo + 1) := by have := Int.tmod_lt_of_pos (-x) (show (0 : Int) < hi - lo + 1 by omega); rw [Int.neg_tmod] at this; omega
  simp only [F19, D19, PT.ev, PT.test, dite_eq_ite, hq, if_neg hq0]
  generalize Int.tmod x (hi - lo + 1) = t at *
  have go : ∃ v : Int, (if t < 0 then some (A19.a0 (w64 (lo + w64 (w64 (w64 (t + hi) - lo) + 1)))) else some (A19.a0 (w64 (lo + t)))) = some (.a0 v) ∧ lo ≤ v ∧ v ≤ hi := by
    by_cases h : t < 0
    · rw [if_pos h]
      exact ⟨_, rfl, by rw [w64_in (n := t + hi) (by omega) (by omega), w64_in (n := t + hi - lo) (by omega) (by omega), w64_in (n := t + hi - lo + 1) (by omega) (by omega), w64_in (by omega) (by omega)]; omega⟩
    · rw [if_neg h]
      exact ⟨_, rfl, by rw [w64_in (by omega) (by omega)]; omega⟩
  obtain ⟨v, e, g1, g2⟩ := go
  by_cases a : x ≥ lo
  · by_cases b : x ≤ hi
    · exact ⟨x, by rw [if_pos a, if_pos b], a, b, fun _ _ => rfl⟩
    · exact ⟨v, by rw [if_pos a, if_neg b, e], g1, g2, fun _ h => absurd h b⟩
  · exact ⟨v, by rw [if_neg a, e], g1, g2, fun h => absurd h a⟩
end Go.Proofs.YtifalphladcdcaaGreat.H

/- PoseStarts in plain Lean. Conditions: those stated. -/
namespace Go.Proofs.YtifalphladcdcaaGreat.H
open Go Go.VM
set_option maxRecDepth 100000
/-- A layer that is later by some ticks. -/
def later (l : Ly) (n : Int) : Ly := { l with inn := l.inn + n, out := l.out + n, st := l.st + n }
theorem Sm.later {l : Ly} (s : Sm l) (n : Int) : Sm (later l n) := ⟨s.x, s.y, s.ax, s.ay, s.sx, s.sy, s.tu, s.op, s.re⟩
theorem tick_later (l : Ly) (n t : Int) (hs : -2 ≤ l.st ∧ l.st ≤ 2) (hn : -50 ≤ n ∧ n ≤ 50) (ht : 0 ≤ t ∧ t < 64) : tickv (later l n) (t + n) = tickv l t := by
  have e1 : tickv l t = t - l.st := by
    unfold tickv add
    rw [hd_of (a := l.st) (by omega) (by omega), w64_in (by omega) (by omega), hd_of (a := t) (by omega) (by omega), hd_of (a := 0 - l.st) (by omega) (by omega), hd_of (by omega) (by omega)]; omega
  have e2 : tickv (later l n) (t + n) = t + n - (l.st + n) := by
    unfold tickv add
    have : (later l n).st = l.st + n := rfl
    rw [this, hd_of (a := l.st + n) (by omega) (by omega), w64_in (by omega) (by omega), hd_of (a := t + n) (by omega) (by omega), hd_of (a := 0 - (l.st + n)) (by omega) (by omega), hd_of (by omega) (by omega)]; omega
  rw [e1, e2]; omega
theorem starts_in (ls : List Ly) (hl : ls.length ≤ 16) (c m : Int) (g : ∀ k (h : k < ls.length), ∃ ah, Gy k c m ah ls[k]) (n t : Int) (hn : -50 ≤ n ∧ n ≤ 50) (ht : 0 ≤ t ∧ t < 64) (ck : Nat) (z2 z3 : Int) (C : List (List V)) :
    ∀ (f k : Nat), k ≤ ls.length → ls.length < f + k → L4_2 f (.s0 (.mk n t ck z2 z3 (Rl ls) ls.length k C)) = some (.e1 (.mk n t ck z2 z3 C))
  | 0, k, h1, h2 => by omega
  | f + 1, k, h1, h2 => by
    rw [L4_2_s0]
    by_cases hk : k < ls.length
    · obtain ⟨ah, gy⟩ := g k hk
      have ih := starts_in ls hl c m g n t hn ht ck z2 z3 C f (k + 1) hk (by omega)
      have hw : w64 ((k : Int) + 1) = ((k + 1 : Nat) : Int) := by rw [w64_in (by omega) (by omega)]; omega
      have g1 := gy.inn
      have g2 := gy.out
      have g3 := gy.st
      have w1 : w64 (ls[k].inn + n) = ls[k].inn + n := w64_in (by omega) (by omega)
      have w2 : w64 (ls[k].out + n) = ls[k].out + n := w64_in (by omega) (by omega)
      have w3 : w64 (ls[k].st + n) = ls[k].st + n := w64_in (by omega) (by omega)
      have w4 : w64 (t + n) = t + n := w64_in (by omega) (by omega)
      have e : W57.mk (Wl ls[k]).c0 (Wl ls[k]).c1 (Wl ls[k]).c2 (Wl ls[k]).c3 (w64 ((Wl ls[k]).c4 + n)) (w64 ((Wl ls[k]).c5 + n)) (w64 ((Wl ls[k]).c6 + n)) (Wl ls[k]).c7 (Wl ls[k]).c8 (Wl ls[k]).c9 (Wl ls[k]).c10 (Wl ls[k]).c11 (Wl ls[k]).c12 (Wl ls[k]).c13 (Wl ls[k]).c14 (Wl ls[k]).c15 (Wl ls[k]).c16 (Wl ls[k]).c17 (Wl ls[k]).c18 (Wl ls[k]).c19 (Wl ls[k]).c20 (Wl ls[k]).c21 (Wl ls[k]).c22 (Wl ls[k]).c23 (Wl ls[k]).c24 (Wl ls[k]).c25 (Wl ls[k]).c26 (Wl ls[k]).c27 (Wl ls[k]).c28 (Wl ls[k]).c29 (Wl ls[k]).c30 (Wl ls[k]).c31 (Wl ls[k]).c32 (Wl ls[k]).c33 (Wl ls[k]).c34 (Wl ls[k]).c35 (Wl ls[k]).c36 (Wl ls[k]).c37 (Wl ls[k]).c38 (Wl ls[k]).c39 (Wl ls[k]).c40 (Wl ls[k]).c41 (Wl ls[k]).c42 (Wl ls[k]).c43 (Wl ls[k]).c44 (Wl ls[k]).c45 (Wl ls[k]).c46 (Wl ls[k]).c47 (Wl ls[k]).c48 (Wl ls[k]).c49 = Wl (later ls[k] n) := by
        simp only [w1, w2, w3]; rfl
      have tk := tick_later ls[k] n t g3 hn ht
      have o1 : ownv (later ls[k] n) (t + n) = ownv ls[k] t := by unfold ownv; rw [tk]; rfl
      have o2 : opacv (later ls[k] n) (t + n) = opacv ls[k] t := by unfold opacv; rw [tk]; rfl
      have o3 : innerv (later ls[k] n) (t + n) = innerv ls[k] t := by unfold innerv; rw [tk]; rfl
      have o4 : seenv (later ls[k] n) (t + n) = seenv ls[k] t := by
        unfold seenv
        have h1 : (later ls[k] n).inn = ls[k].inn + n := rfl
        have h2 : (later ls[k] n).out = ls[k].out + n := rfl
        rw [h1, h2, decide_eq_decide.2 (show ls[k].inn + n ≤ t + n ↔ ls[k].inn ≤ t by omega), decide_eq_decide.2 (show t + n < ls[k].out + n ↔ t < ls[k].out by omega)]
      have s1 := gy.sm
      have s2 := gy.sm.later n
      simp only [D4_2, PT.ev, PT.test, dite_eq_ite, bnd_def, if_pos (show (k : Int) < (ls.length : Int) by omega), if_pos (show (0 : Int) ≤ (k : Int) by omega), Int.toNat_natCast, rl_get, List.getElem?_eq_getElem hk, Option.map_some, Option.bind_some]
      rw [e]
      simp only [w4, qown _ s1, qown _ s2, qopac _ s1, qopac _ s2, qseen, qinner _ s1, qinner _ s2, o1, o2, o3, o4, Option.bind_some, PT.ev, beq_ii, Bool.and_self, Bool.not_true, Bool.false_eq_true, if_false, bne_self_eq_false, beq_self_eq_true, N4_2.nx_s0, hw, ih]
      cases hq : seenv ls[k] t <;> simp
    · simp only [D4_2, PT.ev, PT.test, dite_eq_ite, if_neg (show ¬ (k : Int) < (ls.length : Int) by omega), N4_2.nx_e1]
theorem starts_all (cs : List (List Ly)) (hl : cs.length ≤ 8) (m : Int) (g : Gdoc m cs) (n t : Int) (hn : -50 ≤ n ∧ n ≤ 50) (ht : 0 ≤ t ∧ t < 64) :
    ∀ (f k : Nat), k ≤ cs.length → cs.length < f + k → L4_0 f (.s0 (.mk n t cs.length cs.length k (Rcs cs))) = some .e1
  | 0, k, h1, h2 => by omega
  | f + 1, k, h1, h2 => by
    rw [L4_0_s0]
    by_cases hk : k < cs.length
    · obtain ⟨⟨g1, g2⟩, _⟩ := g k hk
      have hin := starts_in cs[k] (by omega) k m (fun j hj => ⟨_, g2 j hj⟩) n t hn ht cs.length cs.length k (Rcs cs) 18446744073709551616 0 (Nat.zero_le _) (by omega)
      rw [show ((0 : Nat) : Int) = 0 from rfl] at hin
      have hw : w64 ((k : Int) + 1) = ((k + 1 : Nat) : Int) := by rw [w64_in (by omega) (by omega)]; omega
      simp only [D4_0, PT.ev, PT.test, dite_eq_ite, if_pos (show (k : Int) < (cs.length : Int) by omega), if_pos (show (0 : Int) ≤ (k : Int) ∧ (k : Int) < (cs.length : Int) by omega), Int.toNat_natCast, Nat.zero_add, rcs_get, List.getElem?_eq_getElem hk, Option.map_some, Option.bind_some, rl_len, hin, N4_0.nx_s0, hw]
      exact starts_all cs hl m g n t hn ht f (k + 1) hk (by omega)
    · simp only [D4_0, PT.ev, PT.test, dite_eq_ite, if_neg (show ¬ (k : Int) < (cs.length : Int) by omega), N4_0.nx_e1]
theorem poseStarts_plain (tape : List W3) (hl : (tape.length : Int) ≤ 9223372036854775807) (by_ t : Int) : F4 (Rt tape) by_ t = some (.a0 true) := by
  obtain ⟨i, o, C, e, _, _, _, _, h1, h2, g⟩ := doc_ex tape hl
  obtain ⟨n, en, n1, n2, _⟩ := within_in by_ (-50) 50 (by decide) (by decide) (by decide)
  have h := starts_all C (by omega) _ g n (t % 64) ⟨n1, n2⟩ (by omega) 18446744073709551616 0 (Nat.zero_le _) (by omega)
  rw [show ((0 : Nat) : Int) = 0 from rfl] at h
  simp only [F4, D4, PT.ev, PT.test, dite_eq_ite, e, en, Option.bind_some, and63, h, known21]
end Go.Proofs.YtifalphladcdcaaGreat.H
