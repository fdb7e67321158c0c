import Derived.Test.YtifalphladcdcaaGreatTapeTO
set_option linter.unusedVariables false
set_option linter.unusedSimpArgs false
/- The path of a shape at a tick: the program's is the document's; ahead of the first keys and behind the last it stays. Conditions: those stated. -/
namespace Go.Proofs.YtifalphladcdcaaGreat.H
open Go Go.VM
set_option maxRecDepth 100000
/-- What is asked of a shape so that both tell the same. -/
structure Gl (s : Shp) : Prop where
  w : (s.w.length : Int) < 4611686018427387904
  h : (s.h.length : Int) < 4611686018427387904
  ps : (s.ps.length : Int) < 4611686018427387904
  gk : ∀ k ∈ s.ps, Gk k
theorem Gf.gk {fo : Int} {W H : List Ky} {P : List PK} (g : Gf fo W H P) : ∀ k ∈ P, Gk k := by
  by_cases h : fo = 3
  · obtain ⟨_, _, _, _, c, N, h1, h2, h3⟩ := g.drawn h
    exact h3.gk (by omega)
  · rw [(g.made h).1]; exact fun k hk => absurd hk List.not_mem_nil
theorem Gf.lens {fo : Int} {W H : List Ky} {P : List PK} (g : Gf fo W H P) : W.length ≤ 4 ∧ H.length ≤ 4 ∧ P.length ≤ 4 := by
  by_cases h : fo = 3
  · obtain ⟨h1, h2, _, h4, _⟩ := g.drawn h
    rw [h1, h2]; exact ⟨by decide, by decide, h4⟩
  · obtain ⟨h1, h2, h3, _⟩ := g.made h
    rw [h1]; exact ⟨h2.2, h3.2, by decide⟩
theorem Gs.gl {s : Shp} (g : Gs s) : Gl s := by
  have := g.what.lens
  exact ⟨by omega, by omega, by omega, g.what.gk⟩
/-! ### Ahead of all keys, behind all -/
theorem lsN_none (ks : List Ky) (t : Int) (h : ∀ k ∈ ks, t < k.c0) : ∀ m, m ≤ ks.length → lsN ks t m = -1
  | 0, _ => rfl
  | m + 1, hm => by
    have := h ks[m] (List.getElem_mem _)
    rw [lsN, List.getElem?_eq_getElem hm]
    simp only [if_neg (show ¬ ks[m].c0 ≤ t by omega)]
    exact lsN_none ks t h m (by omega)
theorem lsN_all (ks : List Ky) (t : Int) (h : ∀ k ∈ ks, k.c0 ≤ t) (h0 : 0 < ks.length) : lsN ks t ks.length = (ks.length : Int) - 1 := by
  obtain ⟨m, hm⟩ : ∃ m, ks.length = m + 1 := ⟨ks.length - 1, by omega⟩
  have hlt : m < ks.length := by omega
  rw [hm, lsN, List.getElem?_eq_getElem hlt]
  simp only [if_pos (h ks[m] (List.getElem_mem _))]
  omega
theorem lst_none (ks : List PK) (t : Int) (h : ∀ k ∈ ks, t < k.c0) : ∀ m, m ≤ ks.length → lst ks t m = -1
  | 0, _ => rfl
  | m + 1, hm => by
    have := h ks[m] (List.getElem_mem _)
    rw [lst, List.getElem?_eq_getElem hm]
    simp only [if_neg (show ¬ ks[m].c0 ≤ t by omega)]
    exact lst_none ks t h m (by omega)
theorem lst_all (ks : List PK) (t : Int) (h : ∀ k ∈ ks, k.c0 ≤ t) (h0 : 0 < ks.length) : lst ks t ks.length = (ks.length : Int) - 1 := by
  obtain ⟨m, hm⟩ : ∃ m, ks.length = m + 1 := ⟨ks.length - 1, by omega⟩
  have hlt : m < ks.length := by omega
  rw [hm, lst, List.getElem?_eq_getElem hlt]
  simp only [if_pos (h ks[m] (List.getElem_mem _))]
  omega
theorem atN_cong (ks : List Ky) (t t' d : Int) (h : (∀ k ∈ ks, t < k.c0 ∧ t' < k.c0) ∨ (∀ k ∈ ks, k.c0 ≤ t ∧ k.c0 ≤ t')) : atN ks t d = atN ks t' d := by
  by_cases h0 : ks.length = 0
  · rw [atN, atN, if_pos h0, if_pos h0]
  · rcases h with h | h
    · rw [atN, atN, lsN_none ks t (fun k hk => (h k hk).1) _ (Nat.le_refl _), lsN_none ks t' (fun k hk => (h k hk).2) _ (Nat.le_refl _), if_neg h0, if_neg h0, if_pos rfl, if_pos rfl]
    · rw [atN, atN, lsN_all ks t (fun k hk => (h k hk).1) (by omega), lsN_all ks t' (fun k hk => (h k hk).2) (by omega), if_neg h0, if_neg h0, if_neg (show ¬ (ks.length : Int) - 1 = -1 by omega), if_neg (show ¬ (ks.length : Int) - 1 = -1 by omega), if_pos rfl, if_pos rfl]
theorem pat_cong (ks : List PK) (hl : (ks.length : Int) < 4611686018427387904) (t t' : Int) (h : (∀ k ∈ ks, t < k.c0 ∧ t' < k.c0) ∨ (∀ k ∈ ks, k.c0 ≤ t ∧ k.c0 ≤ t')) : F109 (Rk ks) t = F109 (Rk ks) t' := by
  have hw : w64 ((ks.length : Int) - 1) = (ks.length : Int) - 1 := by rw [w64_in (by omega) (by omega)]
  simp only [F109, D109, PT.ev, PT.test, dite_eq_ite, Ws, rk_len, beq_iff_eq, hw, down ks hl t 18446744073709551616 ks.length (by omega) (by omega), down ks hl t' 18446744073709551616 ks.length (by omega) (by omega), Option.bind_some]
  by_cases h0 : (ks.length : Int) = 0
  · rw [if_pos h0, if_pos h0]
  · rcases h with h | h
    · rw [lst_none ks t (fun k hk => (h k hk).1) _ (Nat.le_refl _), lst_none ks t' (fun k hk => (h k hk).2) _ (Nat.le_refl _)]; rfl
    · rw [lst_all ks t (fun k hk => (h k hk).1) (by omega), lst_all ks t' (fun k hk => (h k hk).2) (by omega), if_neg (show ¬ (ks.length : Int) - 1 = -1 by omega), if_neg (show ¬ (ks.length : Int) - 1 = -1 by omega), if_pos rfl, if_pos rfl]
theorem at_cong (s : Shp) (g : Gl s) (t t' : Int) (hw : (∀ k ∈ s.w, t < k.c0 ∧ t' < k.c0) ∨ (∀ k ∈ s.w, k.c0 ≤ t ∧ k.c0 ≤ t')) (hh : (∀ k ∈ s.h, t < k.c0 ∧ t' < k.c0) ∨ (∀ k ∈ s.h, k.c0 ≤ t ∧ k.c0 ≤ t')) (hp : (∀ k ∈ s.ps, t < k.c0 ∧ t' < k.c0) ∨ (∀ k ∈ s.ps, k.c0 ≤ t ∧ k.c0 ≤ t')) :
    F51 (Ws s) t = F51 (Ws s) t' := by
  simp only [F51, D51, PT.ev, PT.test, dite_eq_ite, Ws, qat s.w g.w, qat s.h g.h, Option.bind_some, atN_cong s.w t t' 0 hw, atN_cong s.h t t' 0 hh, pat_cong s.ps g.ps t t' hp]
theorem Gf.ticks {fo : Int} {W H : List Ky} {P : List PK} (g : Gf fo W H P) : (∀ k ∈ W, 0 ≤ k.c0 ∧ k.c0 ≤ 60) ∧ (∀ k ∈ H, 0 ≤ k.c0 ∧ k.c0 ≤ 60) ∧ ∀ k ∈ P, 0 ≤ k.c0 ∧ k.c0 ≤ 60 := by
  by_cases h : fo = 3
  · obtain ⟨h1, h2, _, _, c, N, _, _, h3⟩ := g.drawn h
    rw [h1, h2]
    exact ⟨fun k hk => absurd hk List.not_mem_nil, fun k hk => absurd hk List.not_mem_nil, fun k hk => by have := h3.each k hk; omega⟩
  · obtain ⟨h1, _, _, h2, h3⟩ := g.made h
    rw [h1]
    exact ⟨fun k hk => by have := h2.each k hk; omega, fun k hk => by have := h3.each k hk; omega, fun k hk => absurd hk List.not_mem_nil⟩
theorem Gs.ahead {s : Shp} (g : Gs s) (t t' : Int) (h : t < 0) (h' : t' < 0) : F51 (Ws s) t = F51 (Ws s) t' := by
  obtain ⟨h1, h2, h3⟩ := g.what.ticks
  exact at_cong s g.gl t t' (.inl fun k hk => by have := h1 k hk; omega) (.inl fun k hk => by have := h2 k hk; omega) (.inl fun k hk => by have := h3 k hk; omega)
theorem Gs.behind {s : Shp} (g : Gs s) (t t' : Int) (h : 60 ≤ t) (h' : 60 ≤ t') : F51 (Ws s) t = F51 (Ws s) t' := by
  obtain ⟨h1, h2, h3⟩ := g.what.ticks
  exact at_cong s g.gl t t' (.inr fun k hk => by have := h1 k hk; omega) (.inr fun k hk => by have := h2 k hk; omega) (.inr fun k hk => by have := h3 k hk; omega)
end Go.Proofs.YtifalphladcdcaaGreat.H

/- Whether colours' keys, dashes, paints, shapes may be: the program's and the document's tell the same. Conditions: those stated. -/
namespace Go.Proofs.YtifalphladcdcaaGreat.H
open Go Go.VM
set_option maxRecDepth 100000
theorem rc_get (ks : List Ck) (i : Nat) : ((Rc ks)[i]?).bind W108.dec = ks[i]? := by
  simp only [Rc, List.getElem?_map]
  cases ks[i]? <;> rfl
theorem rd_get (ks : List Dn) (i : Nat) : ((Rd ks)[i]?).bind W2.dec = ks[i]? := by
  simp only [Rd, List.getElem?_map]
  cases ks[i]? <;> rfl
/-! ### Dashes -/
def okD (d : Dn) : Prop := 65536 ≤ d.c0 ∧ d.c0 ≤ 67108864
theorem qdash1 (z : Int) : F116 z = (decide (z < 65536) || decide (z > 67108864)) := by
  simp only [F116, D116, PT.evT, PT.test, dite_eq_ite]
  by_cases h : z < 65536
  · rw [if_pos h, decide_eq_true h]; rfl
  · rw [if_neg h, decide_eq_false h]; rfl
/-! ### Paints -/
theorem qnear13 (z : Int) : F113 z = nr z := by
  simp only [F113, D113, PT.evT, PT.test, dite_eq_ite, nr]
  by_cases h : z ≥ -67108864
  · rw [if_pos h, decide_eq_true (show -67108864 ≤ z from h)]; rfl
  · rw [if_neg h, decide_eq_false (show ¬ -67108864 ≤ z from h)]; rfl
def paintv (p0 p9 p10 p11 p12 p13 : Int) : Bool := decide (p0 ≥ 0) && (decide (p0 ≤ 2) && (nr p9 && (nr p10 && (nr p11 && (nr p12 && nr p13)))))
theorem qpaint (p0 p1 p2 p3 p4 p5 p6 p7 p8 p9 p10 p11 p12 p13 : Int) : F54 p0 p1 p2 p3 p4 p5 p6 p7 p8 p9 p10 p11 p12 p13 = some (.a0 (paintv p0 p9 p10 p11 p12 p13)) := by
  simp only [F54, D54, J54_r1, D54_r1, PT.ev, PT.test, dite_eq_ite, bnd_def, qnear13, paintv]
  by_cases h : p0 ≥ 0 <;> by_cases h' : p0 ≤ 2 <;> cases nr p9 <;> cases nr p10 <;> cases nr p11 <;> cases nr p12 <;> simp [h, h']
end Go.Proofs.YtifalphladcdcaaGreat.H

/- Layers of a tape: what is known of them. Conditions: those stated. -/
namespace Go.Proofs.YtifalphladcdcaaGreat.H
open Go Go.VM
set_option maxRecDepth 100000
/-- A layer, its lists as records. -/
structure Ly where
  kind : Int
  par : Int
  comp : Int
  mat : Int
  inn : Int
  out : Int
  st : Int
  x : List Ky
  y : List Ky
  ax : List Ky
  ay : List Ky
  sx : List Ky
  sy : List Ky
  tu : List Ky
  op : List Ky
  re : List Ky
  mc : Bool
  mp : List Pt
  s : Shp
abbrev Wl (l : Ly) : W57 := ⟨l.kind, l.par, l.comp, l.mat, l.inn, l.out, l.st, (Rn l.x), (Rn l.y), (Rn l.ax), (Rn l.ay), (Rn l.sx), (Rn l.sy), (Rn l.tu), (Rn l.op), (Rn l.re), l.mc, (Rp l.mp), l.s.form, l.s.n, (Rn l.s.w), (Rn l.s.h), (Rk l.s.ps), l.s.f, l.s.rule, l.s.p0, l.s.p1, l.s.p2, l.s.p3, l.s.p4, l.s.p5, l.s.p6, l.s.p7, l.s.p8, l.s.p9, l.s.p10, l.s.p11, l.s.p12, l.s.p13, (Rc l.s.cs), l.s.st, (Rn l.s.wd), l.s.s0, l.s.s1, l.s.s2, l.s.s3, l.s.cap, (Rd l.s.ds), (Rn l.s.fr), (Rn l.s.to_)⟩
abbrev Rl (ls : List Ly) : List (List V) := ls.map fun l => (Wl l).cells
theorem rl_len (ls : List Ly) : (Rl ls).length = ls.length := List.length_map ..
theorem rl_get (ls : List Ly) (i : Nat) : ((Rl ls)[i]?).bind W57.dec = (ls[i]?).map Wl := by
  simp only [Rl, List.getElem?_map]
  cases ls[i]? with
  | none => rfl
  | some l => exact W57.dec_cells (Wl l)
def sh0 : Shp := ⟨0, 0, [], [], [], false, 0, 0, 0, 0, 0, 0, 0, 0, 0, 0, 0, 0, 0, 0, 0, [], false, [], 0, 0, 0, 0, 0, [], [], []⟩
/-- Keys of a tape. -/
structure Kg (lo hi : Int) (ks : List Ky) : Prop where
  len : ks.length ≤ 3
  gn : Gn (lo * 65536) (hi * 65536 + 65535) 31 ks
theorem Kg.nil {lo hi : Int} : Kg lo hi [] := ⟨Nat.zero_le _, Gn.nil⟩
theorem kg_ex (tape : List W3) (hl : (tape.length : Int) ≤ 9223372036854775807) (lo hi : Int) (h1 : -1000 ≤ lo) (h2 : lo ≤ hi) (h3 : hi ≤ 1000) (s : Int) (hs : 0 ≤ s) :
    ∃ ks s', F46 lo hi (Rt tape) s = some (.a0 ks.length (Rt tape) s' (Rn ks)) ∧ Kg lo hi ks ∧ 0 ≤ s' := by
  obtain ⟨ks, s', e, l, g, h⟩ := tkeys_ex tape hl lo hi h1 h2 h3 s hs
  exact ⟨ks, s', e, ⟨l, g⟩, h⟩
/-- Keys of ticks inside. -/
def Gi (ks : List Ky) : Prop := ks = [] ∨ ∃ a b : Int, ks = [⟨0, a, 1, 0, 0, 0, 0⟩, ⟨10, b, 0, 0, 0, 0, 0⟩] ∧ 0 ≤ a ∧ a < 6 ∧ 0 ≤ b ∧ b < 20
theorem y3_ex (tape : List W3) (hl : (tape.length : Int) ≤ 9223372036854775807) (s : Int) (hs : 0 ≤ s) (z0 z1 z2 : Int) (b3 : Bool) (z6 z7 z8 : Int) :
    ∃ (b : Bool) (s' : Int), J69_r3 (.mk z0 z1 z2 b3 (Rt tape) s z6 z7 z8) = some (.e0 (.mk z0 z1 z2 b3 b (Rt tape) s' z6 z7 z8)) ∧ 0 ≤ s' ∧ (b = true → 0 < z0) := by
  obtain ⟨v, s1, e1, l1, u1, p1⟩ := next_ex tape s 3 hs hl (by decide)
  simp only [J69_r3, D69_r3, PT.ev, PT.test, dite_eq_ite, e1, Option.bind_some]
  by_cases h : (v == 0) = true
  · rw [if_pos h]; exact ⟨_, _, rfl, p1, fun h => of_decide_eq_true h⟩
  · rw [if_neg h]; exact ⟨_, _, rfl, p1, fun h => by cases h⟩
theorem y34_ex (tape : List W3) (hl : (tape.length : Int) ≤ 9223372036854775807) (s : Int) (hs : 0 ≤ s) (z0 z1 z2 : Int) (b3 b4 : Bool) (z7 z8 z9 : Int) (h0 : b4 = true → 0 < z0) (hz : 0 ≤ z0) :
    ∃ (p s' : Int), J69_c34 (.mk z0 z1 z2 b3 b4 (Rt tape) s z7 z8 z9) = some (.e0 (.mk z1 z2 b3 (Rt tape) s' p z7 z8 z9)) ∧ 0 ≤ s' ∧ -1 ≤ p ∧ p < max z0 0 := by
  simp only [J69_c34, D69_c34, PT.ev, PT.test, dite_eq_ite]
  by_cases h : b4 = true
  · obtain ⟨v, s1, e1, l1, u1, p1⟩ := next_ex tape s z0 hs hl (h0 h)
    simp only [if_pos h, e1, Option.bind_some]
    exact ⟨_, _, rfl, p1, by omega, by omega⟩
  · simp only [if_neg h]
    exact ⟨_, _, rfl, hs, by omega, by omega⟩
theorem y5_ex (tape : List W3) (hl : (tape.length : Int) ≤ 9223372036854775807) (s : Int) (hs : 0 ≤ s) (z0 z1 : Int) (b2 : Bool) (z5 z6 z7 z8 : Int) :
    ∃ (b : Bool) (s' : Int), J69_r5 (.mk z0 z1 b2 (Rt tape) s z5 z6 z7 z8) = some (.e0 (.mk z0 z1 b2 b (Rt tape) s' z5 z6 z7 z8)) ∧ 0 ≤ s' ∧ (b = true → w64 (z0 + 1) < z1) := by
  simp only [J69_r5, D69_r5, PT.ev, PT.test, dite_eq_ite]
  by_cases h0 : w64 (z0 + 1) < z1
  · obtain ⟨v, s1, e1, l1, u1, p1⟩ := next_ex tape s 3 hs hl (by decide)
    simp only [if_pos h0, e1, Option.bind_some]
    exact ⟨_, _, rfl, p1, fun _ => h0⟩
  · simp only [if_neg h0]
    exact ⟨_, _, rfl, hs, fun h => by cases h⟩
theorem y61_ex (tape : List W3) (hl : (tape.length : Int) ≤ 9223372036854775807) (s : Int) (hs : 0 ≤ s) (b0 b1 : Bool) (z4 z5 z6 z7 z8 : Int) :
    ∃ (R : List Ky) (s' : Int), J69_c61 (.mk b0 b1 (Rt tape) s z4 z5 z6 z7 z8) = some (.e0 (.mk b0 (Rt tape) s' z4 z5 z6 z7 z8 R.length (Rn R))) ∧ 0 ≤ s' ∧ Gi R := by
  simp only [J69_c61, D69_c61, PT.ev, PT.test, dite_eq_ite]
  by_cases h : b1 = true
  · obtain ⟨v, s1, e1, l1, u1, p1⟩ := next_ex tape s 6 hs hl (by decide)
    obtain ⟨w, s2, e2, l2, u2, p2⟩ := next_ex tape s1 20 p1 hl (by decide)
    simp only [if_pos h, e1, e2, Option.bind_some]
    exact ⟨[⟨0, v, 1, 0, 0, 0, 0⟩, ⟨10, w, 0, 0, 0, 0, 0⟩], s2, rfl, p2, .inr ⟨v, w, rfl, l1, u1, l2, u2⟩⟩
  · simp only [if_neg h]
    exact ⟨[], s, rfl, hs, .inl rfl⟩
/-- What a layer shows: a comp, or a shape. -/
structure Gw47 (b3 : Bool) (c m kind comp : Int) (R : List Ky) (s : Shp) : Prop where
  nest : kind = 1 → (c < comp ∧ comp < m) ∧ s = sh0 ∧ Gi R
  draw : kind = 0 → comp = 0 ∧ R = [] ∧ Gs s
  kind : kind = 0 ∨ kind = 1
theorem y47_ex (tape : List W3) (hl : (tape.length : Int) ≤ 9223372036854775807) (s : Int) (hs : 0 ≤ s) (z0 z1 : Int) (b2 b3 : Bool) (z6 z7 z8 z9 : Int) (h0 : b3 = true → w64 (z0 + 1) < z1) (hz : 0 ≤ z0 ∧ z0 ≤ 1000 ∧ z1 ≤ 1000) :
    ∃ (kind comp : Int) (R : List Ky) (t : Shp) (s' : Int), J69_c47 (.mk z0 z1 b2 b3 (Rt tape) s z6 z7 z8 z9) = some (.e0 (.mk b2 (Rt tape) s' kind z6 comp z7 z8 z9 R.length t.form t.n t.w.length t.h.length t.ps.length t.f t.rule t.p0 t.p1 t.p2 t.p3 t.p4 t.p5 t.p6 t.p7 t.p8 t.p9 t.p10 t.p11 t.p12 t.p13 t.cs.length t.st t.wd.length t.s0 t.s1 t.s2 t.s3 t.cap t.ds.length t.fr.length t.to_.length (Rn R) (Rn t.w) (Rn t.h) (Rk t.ps) (Rc t.cs) (Rn t.wd) (Rd t.ds) (Rn t.fr) (Rn t.to_))) ∧ 0 ≤ s' ∧ Gw47 b3 z0 z1 kind comp R t := by
  simp only [J69_c47, D69_c47, PT.ev, PT.test, dite_eq_ite]
  by_cases h : b3 = true
  · have h1 := h0 h
    have hw : w64 (z0 + 1) = z0 + 1 := w64_in (by omega) (by omega)
    rw [hw] at h1
    have hm : w64 (w64 (z1 - z0) - 1) = z1 - z0 - 1 := by rw [w64_in (n := z1 - z0) (by omega) (by omega), w64_in (by omega) (by omega)]
    obtain ⟨v, s1, e1, l1, u1, p1⟩ := next_ex tape s (z1 - z0 - 1) hs hl (by omega)
    obtain ⟨w, s2, e2, l2, u2, p2⟩ := next_ex tape s1 3 p1 hl (by decide)
    have hc : w64 (w64 (z0 + 1) + v) = z0 + 1 + v := by rw [hw, w64_in (by omega) (by omega)]
    obtain ⟨R, s3, e3, p3, g3⟩ := y61_ex tape hl s2 p2 b2 (w == 0) z6 (z0 + 1 + v) z7 z8 z9
    simp only [if_pos h, hm, e1, e2, hc, e3, Option.bind_some]
    exact ⟨1, z0 + 1 + v, R, sh0, s3, rfl, p3, ⟨fun _ => ⟨⟨by omega, by omega⟩, rfl, g3⟩, fun h => (by cases h), .inr rfl⟩⟩
  · obtain ⟨t, s1, e1, p1, g1⟩ := shape_ex tape hl s hs
    simp only [if_neg h, e1, Option.bind_some]
    exact ⟨0, 0, [], t, s1, rfl, p1, ⟨fun h => by (cases h), fun _ => ⟨rfl, rfl, g1⟩, .inl rfl⟩⟩
theorem y75_ex (tape : List W3) (hl : (tape.length : Int) ≤ 9223372036854775807) (b0 b1 : Bool) (s : Int) (hs : 0 ≤ s) (z4 z5 z6 z7 z8 z9 : Int) (k10 : Nat) (z11 z12 : Int) (k13 k14 k15 : Nat) (b16 : Bool) (z17 z18 z19 z20 z21 z22 z23 z24 z25 z26 z27 z28 z29 z30 z31 : Int) (k32 : Nat) (b33 : Bool) (k34 : Nat) (z35 z36 z37 z38 z39 : Int) (k40 k41 k42 : Nat) (l43 l44 l45 l46 l47 l48 l49 l50 l51 : List (List V)) :
    ∃ (X Y : List Ky) (s' : Int), J69_c75 (.mk b0 b1 (Rt tape) s z4 z5 z6 z7 z8 z9 k10 z11 z12 k13 k14 k15 b16 z17 z18 z19 z20 z21 z22 z23 z24 z25 z26 z27 z28 z29 z30 z31 k32 b33 k34 z35 z36 z37 z38 z39 k40 k41 k42 l43 l44 l45 l46 l47 l48 l49 l50 l51) = some (.e0 (.mk b0 (Rt tape) s' z4 z5 z6 z7 z8 z9  X.length Y.length k10 z11 z12 k13 k14 k15 b16 z17 z18 z19 z20 z21 z22 z23 z24 z25 z26 z27 z28 z29 z30 z31 k32 b33 k34 z35 z36 z37 z38 z39 k40 k41 k42  (Rn X) (Rn Y) l43 l44 l45 l46 l47 l48 l49 l50 l51)) ∧ 0 ≤ s' ∧ Kg (0) 14 X ∧ Kg (0) 14 Y := by
  simp only [J69_c75, D69_c75, PT.ev, PT.test, dite_eq_ite]
  by_cases h : b1 = true
  · obtain ⟨X, t0, e0, g0, p0⟩ := kg_ex tape hl (0) 14 (by decide) (by decide) (by decide) s hs
    obtain ⟨Y, t1, e1, g1, p1⟩ := kg_ex tape hl (0) 14 (by decide) (by decide) (by decide) t0 p0
    simp only [if_pos h, e0, e1, Option.bind_some]
    exact ⟨X, Y, t1, rfl, p1, g0, g1⟩
  · simp only [if_neg h]
    exact ⟨[], [], s, rfl, hs, Kg.nil, Kg.nil⟩
theorem y84_ex (tape : List W3) (hl : (tape.length : Int) ≤ 9223372036854775807) (b0 b1 : Bool) (s : Int) (hs : 0 ≤ s) (z4 z5 z6 z7 z8 z9 : Int) (k10 k11 k12 : Nat) (z13 z14 : Int) (k15 k16 k17 : Nat) (b18 : Bool) (z19 z20 z21 z22 z23 z24 z25 z26 z27 z28 z29 z30 z31 z32 z33 : Int) (k34 : Nat) (b35 : Bool) (k36 : Nat) (z37 z38 z39 z40 z41 : Int) (k42 k43 k44 : Nat) (l45 l46 l47 l48 l49 l50 l51 l52 l53 l54 l55 : List (List V)) :
    ∃ (AX AY SX SY : List Ky) (s' : Int), J69_c84 (.mk b0 b1 (Rt tape) s z4 z5 z6 z7 z8 z9 k10 k11 k12 z13 z14 k15 k16 k17 b18 z19 z20 z21 z22 z23 z24 z25 z26 z27 z28 z29 z30 z31 z32 z33 k34 b35 k36 z37 z38 z39 z40 z41 k42 k43 k44 l45 l46 l47 l48 l49 l50 l51 l52 l53 l54 l55) = some (.e0 (.mk b0 (Rt tape) s' z4 z5 z6 z7 z8 z9 k10 k11 AX.length AY.length SX.length SY.length k12 z13 z14 k15 k16 k17 b18 z19 z20 z21 z22 z23 z24 z25 z26 z27 z28 z29 z30 z31 z32 z33 k34 b35 k36 z37 z38 z39 z40 z41 k42 k43 k44 l45 l46 (Rn AX) (Rn AY) (Rn SX) (Rn SY) l47 l48 l49 l50 l51 l52 l53 l54 l55)) ∧ 0 ≤ s' ∧ Kg (-3) 3 AX ∧ Kg (-3) 3 AY ∧ Kg (0) 2 SX ∧ Kg (-1) 2 SY := by
  simp only [J69_c84, D69_c84, PT.ev, PT.test, dite_eq_ite]
  by_cases h : b1 = true
  · obtain ⟨AX, t0, e0, g0, p0⟩ := kg_ex tape hl (-3) 3 (by decide) (by decide) (by decide) s hs
    obtain ⟨AY, t1, e1, g1, p1⟩ := kg_ex tape hl (-3) 3 (by decide) (by decide) (by decide) t0 p0
    obtain ⟨SX, t2, e2, g2, p2⟩ := kg_ex tape hl (0) 2 (by decide) (by decide) (by decide) t1 p1
    obtain ⟨SY, t3, e3, g3, p3⟩ := kg_ex tape hl (-1) 2 (by decide) (by decide) (by decide) t2 p2
    simp only [if_pos h, e0, e1, e2, e3, Option.bind_some]
    exact ⟨AX, AY, SX, SY, t3, rfl, p3, g0, g1, g2, g3⟩
  · simp only [if_neg h]
    exact ⟨[], [], [], [], s, rfl, hs, Kg.nil, Kg.nil, Kg.nil, Kg.nil⟩
theorem y99_ex (tape : List W3) (hl : (tape.length : Int) ≤ 9223372036854775807) (b0 b1 : Bool) (s : Int) (hs : 0 ≤ s) (z4 z5 z6 z7 z8 z9 : Int) (k10 k11 k12 k13 k14 k15 k16 : Nat) (z17 z18 : Int) (k19 k20 k21 : Nat) (b22 : Bool) (z23 z24 z25 z26 z27 z28 z29 z30 z31 z32 z33 z34 z35 z36 z37 : Int) (k38 : Nat) (b39 : Bool) (k40 : Nat) (z41 z42 z43 z44 z45 : Int) (k46 k47 k48 : Nat) (l49 l50 l51 l52 l53 l54 l55 l56 l57 l58 l59 l60 l61 l62 l63 : List (List V)) :
    ∃ (TU : List Ky) (s' : Int), J69_c99 (.mk b0 b1 (Rt tape) s z4 z5 z6 z7 z8 z9 k10 k11 k12 k13 k14 k15 k16 z17 z18 k19 k20 k21 b22 z23 z24 z25 z26 z27 z28 z29 z30 z31 z32 z33 z34 z35 z36 z37 k38 b39 k40 z41 z42 z43 z44 z45 k46 k47 k48 l49 l50 l51 l52 l53 l54 l55 l56 l57 l58 l59 l60 l61 l62 l63) = some (.e0 (.mk b0 (Rt tape) s' z4 z5 z6 z7 z8 z9 k10 k11 k12 k13 k14 k15 TU.length k16 z17 z18 k19 k20 k21 b22 z23 z24 z25 z26 z27 z28 z29 z30 z31 z32 z33 z34 z35 z36 z37 k38 b39 k40 z41 z42 z43 z44 z45 k46 k47 k48 l49 l50 l51 l52 l53 l54 (Rn TU) l55 l56 l57 l58 l59 l60 l61 l62 l63)) ∧ 0 ≤ s' ∧ Kg (-200) 400 TU := by
  simp only [J69_c99, D69_c99, PT.ev, PT.test, dite_eq_ite]
  by_cases h : b1 = true
  · obtain ⟨TU, t0, e0, g0, p0⟩ := kg_ex tape hl (-200) 400 (by decide) (by decide) (by decide) s hs
    simp only [if_pos h, e0, Option.bind_some]
    exact ⟨TU, t0, rfl, p0, g0⟩
  · simp only [if_neg h]
    exact ⟨[], s, rfl, hs, Kg.nil⟩
theorem y105_ex (tape : List W3) (hl : (tape.length : Int) ≤ 9223372036854775807) (b0 b1 : Bool) (s : Int) (hs : 0 ≤ s) (z4 z5 z6 z7 z8 z9 : Int) (k10 k11 k12 k13 k14 k15 k16 k17 : Nat) (z18 z19 : Int) (k20 k21 k22 : Nat) (b23 : Bool) (z24 z25 z26 z27 z28 z29 z30 z31 z32 z33 z34 z35 z36 z37 z38 : Int) (k39 : Nat) (b40 : Bool) (k41 : Nat) (z42 z43 z44 z45 z46 : Int) (k47 k48 k49 : Nat) (l50 l51 l52 l53 l54 l55 l56 l57 l58 l59 l60 l61 l62 l63 l64 l65 : List (List V)) :
    ∃ (OP : List Ky) (s' : Int), J69_c105 (.mk b0 b1 (Rt tape) s z4 z5 z6 z7 z8 z9 k10 k11 k12 k13 k14 k15 k16 k17 z18 z19 k20 k21 k22 b23 z24 z25 z26 z27 z28 z29 z30 z31 z32 z33 z34 z35 z36 z37 z38 k39 b40 k41 z42 z43 z44 z45 z46 k47 k48 k49 l50 l51 l52 l53 l54 l55 l56 l57 l58 l59 l60 l61 l62 l63 l64 l65) = some (.e0 (.mk b0 (Rt tape) s' z4 z5 z6 z7 z8 z9 k10 k11 k12 k13 k14 k15 k16 OP.length k17 z18 z19 k20 k21 k22 b23 z24 z25 z26 z27 z28 z29 z30 z31 z32 z33 z34 z35 z36 z37 z38 k39 b40 k41 z42 z43 z44 z45 z46 k47 k48 k49 l50 l51 l52 l53 l54 l55 l56 (Rn OP) l57 l58 l59 l60 l61 l62 l63 l64 l65)) ∧ 0 ≤ s' ∧ Kg (0) 1 OP := by
  simp only [J69_c105, D69_c105, PT.ev, PT.test, dite_eq_ite]
  by_cases h : b1 = true
  · obtain ⟨OP, t0, e0, g0, p0⟩ := kg_ex tape hl (0) 1 (by decide) (by decide) (by decide) s hs
    simp only [if_pos h, e0, Option.bind_some]
    exact ⟨OP, t0, rfl, p0, g0⟩
  · simp only [if_neg h]
    exact ⟨[], s, rfl, hs, Kg.nil⟩
theorem y18_ex (tape : List W3) (hl : (tape.length : Int) ≤ 9223372036854775807) (b0 : Bool) (s : Int) (hs : 0 ≤ s) (z3 z4 z5 z6 z7 z8 : Int) (k9 k10 k11 k12 k13 k14 k15 k16 k17 : Nat) (z18 z19 : Int) (k20 k21 k22 : Nat) (b23 : Bool) (z24 z25 z26 z27 z28 z29 z30 z31 z32 z33 z34 z35 z36 z37 z38 : Int) (k39 : Nat) (b40 : Bool) (k41 : Nat) (z42 z43 z44 z45 z46 : Int) (k47 k48 k49 : Nat) (l50 l51 l52 l53 l54 l55 l56 l57 l58 l59 l60 l61 l62 l63 l64 l65 l66 : List (List V)) :
    ∃ (b : Bool) (s' : Int), J69_r18 (.mk b0 (Rt tape) s z3 z4 z5 z6 z7 z8 k9 k10 k11 k12 k13 k14 k15 k16 k17 z18 z19 k20 k21 k22 b23 z24 z25 z26 z27 z28 z29 z30 z31 z32 z33 z34 z35 z36 z37 z38 k39 b40 k41 z42 z43 z44 z45 z46 k47 k48 k49 l50 l51 l52 l53 l54 l55 l56 l57 l58 l59 l60 l61 l62 l63 l64 l65 l66) = some (.e0 (.mk b (Rt tape) s' z3 z4 z5 z6 z7 z8 k9 k10 k11 k12 k13 k14 k15 k16 k17 z18 z19 k20 k21 k22 b23 z24 z25 z26 z27 z28 z29 z30 z31 z32 z33 z34 z35 z36 z37 z38 k39 b40 k41 z42 z43 z44 z45 z46 k47 k48 k49 l50 l51 l52 l53 l54 l55 l56 l57 l58 l59 l60 l61 l62 l63 l64 l65 l66)) ∧ 0 ≤ s' ∧ (b = true → b0 = false) := by
  simp only [J69_r18, D69_r18, PT.ev, PT.test, dite_eq_ite]
  by_cases h : (!b0) = true
  · obtain ⟨v, t0, e0, _, _, p0⟩ := next_ex tape s 4 hs hl (by decide)
    simp only [if_pos h, e0, Option.bind_some]
    exact ⟨_, _, rfl, p0, fun _ => by simpa using h⟩
  · simp only [if_neg h]
    exact ⟨_, _, rfl, hs, fun h => by cases h⟩
theorem y115_ex (tape : List W3) (hl : (tape.length : Int) ≤ 9223372036854775807) (b0 : Bool) (s : Int) (hs : 0 ≤ s) (z3 z4 z5 : Int) (z6 z7 z8 : Int) (k9 k10 k11 k12 k13 k14 k15 k16 k17 : Nat) (z18 z19 : Int) (k20 k21 k22 : Nat) (b23 : Bool) (z24 z25 z26 z27 z28 z29 z30 z31 z32 z33 z34 z35 z36 z37 z38 : Int) (k39 : Nat) (b40 : Bool) (k41 : Nat) (z42 z43 z44 z45 z46 : Int) (k47 k48 k49 : Nat) (l50 l51 l52 l53 l54 l55 l56 l57 l58 l59 l60 l61 l62 l63 l64 l65 l66 : List (List V)) :
    ∃ (m s' : Int), J69_c115 (.mk b0 (Rt tape) s z3 z4 z5 z6 z7 z8 k9 k10 k11 k12 k13 k14 k15 k16 k17 z18 z19 k20 k21 k22 b23 z24 z25 z26 z27 z28 z29 z30 z31 z32 z33 z34 z35 z36 z37 z38 k39 b40 k41 z42 z43 z44 z45 z46 k47 k48 k49 l50 l51 l52 l53 l54 l55 l56 l57 l58 l59 l60 l61 l62 l63 l64 l65 l66) = some (.e0 (.mk (Rt tape) s' z3 z4 z5 m z6 z7 z8 k9 k10 k11 k12 k13 k14 k15 k16 k17 z18 z19 k20 k21 k22 b23 z24 z25 z26 z27 z28 z29 z30 z31 z32 z33 z34 z35 z36 z37 z38 k39 b40 k41 z42 z43 z44 z45 z46 k47 k48 k49 l50 l51 l52 l53 l54 l55 l56 l57 l58 l59 l60 l61 l62 l63 l64 l65 l66)) ∧ 0 ≤ s' ∧ 0 ≤ m ∧ m ≤ 2 ∧ (m ≠ 0 → b0 = true) := by
  simp only [J69_c115, D69_c115, PT.ev, PT.test, dite_eq_ite]
  by_cases h : b0 = true
  · obtain ⟨v, t0, e0, l0, u0, p0⟩ := next_ex tape s 2 hs hl (by decide)
    have hw : w64 (1 + v) = 1 + v := w64_in (by omega) (by omega)
    simp only [if_pos h, e0, hw, Option.bind_some]
    exact ⟨_, _, rfl, p0, by omega, by omega, fun _ => h⟩
  · simp only [if_neg h]
    exact ⟨_, _, rfl, hs, by decide, by decide, fun h => absurd rfl h⟩
/-- A layer that a tape makes: the k-th, of comp c of m; ah: whether the one ahead has a matte, or there is none. -/
structure Gy (k c m : Int) (ah : Bool) (l : Ly) : Prop where
  par : -1 ≤ l.par ∧ l.par < max k 0
  mat : 0 ≤ l.mat ∧ l.mat ≤ 2 ∧ (l.mat ≠ 0 → ah = false)
  inn : -2 ≤ l.inn ∧ l.inn ≤ 3
  out : l.inn < l.out ∧ l.out ≤ l.inn + 24
  st : -2 ≤ l.st ∧ l.st ≤ 2
  x : Kg 0 14 l.x
  y : Kg 0 14 l.y
  ax : Kg (-3) 3 l.ax
  ay : Kg (-3) 3 l.ay
  sx : Kg 0 2 l.sx
  sy : Kg (-1) 2 l.sy
  tu : Kg (-200) 400 l.tu
  op : Kg 0 1 l.op
  what : Gw47 true c m l.kind l.comp l.re l.s
  mask : (l.mc = false ∧ l.mp = []) ∨ (l.mc = true ∧ ((l.mp.length : Int) = 7 ∨ (l.mp.length : Int) = 10) ∧ ∀ p ∈ l.mp, Bp p)
theorem layer_ex (tape : List W3) (hl : (tape.length : Int) ≤ 9223372036854775807) (a : Int) (ha : 0 ≤ a) (k n c m : Int) (ah : Bool) (hk : 0 ≤ k) (hc : 0 ≤ c ∧ c ≤ 1000 ∧ m ≤ 1000) :
    ∃ (l : Ly) (at' : Int), F69 k n c m ah (Rt tape) a = some (.a0 l.kind l.par l.comp l.mat l.inn l.out l.st l.x.length l.y.length l.ax.length l.ay.length l.sx.length l.sy.length l.tu.length l.op.length l.re.length l.mc l.mp.length l.s.form l.s.n l.s.w.length l.s.h.length l.s.ps.length l.s.f l.s.rule l.s.p0 l.s.p1 l.s.p2 l.s.p3 l.s.p4 l.s.p5 l.s.p6 l.s.p7 l.s.p8 l.s.p9 l.s.p10 l.s.p11 l.s.p12 l.s.p13 l.s.cs.length l.s.st l.s.wd.length l.s.s0 l.s.s1 l.s.s2 l.s.s3 l.s.cap l.s.ds.length l.s.fr.length l.s.to_.length (Rt tape) at' (Rn l.x) (Rn l.y) (Rn l.ax) (Rn l.ay) (Rn l.sx) (Rn l.sy) (Rn l.tu) (Rn l.op) (Rn l.re) (Rp l.mp) (Rn l.s.w) (Rn l.s.h) (Rk l.s.ps) (Rc l.s.cs) (Rn l.s.wd) (Rd l.s.ds) (Rn l.s.fr) (Rn l.s.to_)) ∧ 0 ≤ at' ∧ Gy k c m ah l := by
  obtain ⟨v0, s0, e0, l0, u0, p0⟩ := next_ex tape a 6 ha hl (by decide)
  obtain ⟨v1, s1, e1, l1, u1, p1⟩ := next_ex tape s0 5 p0 hl (by decide)
  obtain ⟨v2, s2, e2, l2, u2, p2⟩ := next_ex tape s1 24 p1 hl (by decide)
  have w0 : w64 (v0 - 2) = v0 - 2 := w64_in (by omega) (by omega)
  have w1 : w64 (v1 - 2) = v1 - 2 := w64_in (by omega) (by omega)
  have w2 : w64 (w64 (v0 - 2 + 1) + v2) = v0 - 2 + 1 + v2 := by rw [w64_in (n := v0 - 2 + 1) (by omega) (by omega), w64_in (by omega) (by omega)]
  obtain ⟨b3, s3, e3, p3, g3⟩ := y3_ex tape hl s2 p2 k c m ah (v0 - 2) (v0 - 2 + 1 + v2) (v1 - 2)
  obtain ⟨q, s4, e4, p4, g4, g4'⟩ := y34_ex tape hl s3 p3 k c m ah b3 (v0 - 2) (v0 - 2 + 1 + v2) (v1 - 2) g3 hk
  obtain ⟨b5, s5, e5, p5, g5⟩ := y5_ex tape hl s4 p4 c m ah q (v0 - 2) (v0 - 2 + 1 + v2) (v1 - 2)
  obtain ⟨kind, comp, R, t, s6, e6, p6, g6⟩ := y47_ex tape hl s5 p5 c m ah b5 q (v0 - 2) (v0 - 2 + 1 + v2) (v1 - 2) g5 hc
  obtain ⟨v7, s7, e7, l7, u7, p7⟩ := next_ex tape s6 4 p6 hl (by decide)
  simp only [F69, D69, PT.ev, PT.test, dite_eq_ite, e0, e1, e2, w0, w1, w2, e3, e4, e5, e6, e7, Option.bind_some]
  obtain ⟨X, Y, s8, e8, p8, gX, gY⟩ := y75_ex tape hl ah (decide (v7 > 0)) s7 p7 kind q comp (v0 - 2) (v0 - 2 + 1 + v2) (v1 - 2) R.length t.form t.n t.w.length t.h.length t.ps.length t.f t.rule t.p0 t.p1 t.p2 t.p3 t.p4 t.p5 t.p6 t.p7 t.p8 t.p9 t.p10 t.p11 t.p12 t.p13 t.cs.length t.st t.wd.length t.s0 t.s1 t.s2 t.s3 t.cap t.ds.length t.fr.length t.to_.length (Rn R) (Rn t.w) (Rn t.h) (Rk t.ps) (Rc t.cs) (Rn t.wd) (Rd t.ds) (Rn t.fr) (Rn t.to_)
  obtain ⟨v9, s9, e9, l9, u9, p9⟩ := next_ex tape s8 3 p8 hl (by decide)
  simp only [e8, e9, Option.bind_some]
  obtain ⟨AX, AY, SX, SY, s10, e10, p10, gAX, gAY, gSX, gSY⟩ := y84_ex tape hl ah (v9 == 0) s9 p9 kind q comp (v0 - 2) (v0 - 2 + 1 + v2) (v1 - 2) X.length Y.length R.length t.form t.n t.w.length t.h.length t.ps.length t.f t.rule t.p0 t.p1 t.p2 t.p3 t.p4 t.p5 t.p6 t.p7 t.p8 t.p9 t.p10 t.p11 t.p12 t.p13 t.cs.length t.st t.wd.length t.s0 t.s1 t.s2 t.s3 t.cap t.ds.length t.fr.length t.to_.length (Rn X) (Rn Y) (Rn R) (Rn t.w) (Rn t.h) (Rk t.ps) (Rc t.cs) (Rn t.wd) (Rd t.ds) (Rn t.fr) (Rn t.to_)
  obtain ⟨v11, s11, e11, l11, u11, p11⟩ := next_ex tape s10 3 p10 hl (by decide)
  simp only [e10, e11, Option.bind_some]
  obtain ⟨TU, s12, e12, p12, gTU⟩ := y99_ex tape hl ah (v11 == 0) s11 p11 kind q comp (v0 - 2) (v0 - 2 + 1 + v2) (v1 - 2) X.length Y.length AX.length AY.length SX.length SY.length R.length t.form t.n t.w.length t.h.length t.ps.length t.f t.rule t.p0 t.p1 t.p2 t.p3 t.p4 t.p5 t.p6 t.p7 t.p8 t.p9 t.p10 t.p11 t.p12 t.p13 t.cs.length t.st t.wd.length t.s0 t.s1 t.s2 t.s3 t.cap t.ds.length t.fr.length t.to_.length (Rn X) (Rn Y) (Rn AX) (Rn AY) (Rn SX) (Rn SY) (Rn R) (Rn t.w) (Rn t.h) (Rk t.ps) (Rc t.cs) (Rn t.wd) (Rd t.ds) (Rn t.fr) (Rn t.to_)
  obtain ⟨v13, s13, e13, l13, u13, p13⟩ := next_ex tape s12 3 p12 hl (by decide)
  simp only [e12, e13, Option.bind_some]
  obtain ⟨OP, s14, e14, p14, gOP⟩ := y105_ex tape hl ah (v13 == 0) s13 p13 kind q comp (v0 - 2) (v0 - 2 + 1 + v2) (v1 - 2) X.length Y.length AX.length AY.length SX.length SY.length TU.length R.length t.form t.n t.w.length t.h.length t.ps.length t.f t.rule t.p0 t.p1 t.p2 t.p3 t.p4 t.p5 t.p6 t.p7 t.p8 t.p9 t.p10 t.p11 t.p12 t.p13 t.cs.length t.st t.wd.length t.s0 t.s1 t.s2 t.s3 t.cap t.ds.length t.fr.length t.to_.length (Rn X) (Rn Y) (Rn AX) (Rn AY) (Rn SX) (Rn SY) (Rn TU) (Rn R) (Rn t.w) (Rn t.h) (Rk t.ps) (Rc t.cs) (Rn t.wd) (Rd t.ds) (Rn t.fr) (Rn t.to_)
  simp only [e14, Option.bind_some]
  obtain ⟨b15, s15, e15, p15, g15⟩ := y18_ex tape hl ah s14 p14 kind q comp (v0 - 2) (v0 - 2 + 1 + v2) (v1 - 2) X.length Y.length AX.length AY.length SX.length SY.length TU.length OP.length R.length t.form t.n t.w.length t.h.length t.ps.length t.f t.rule t.p0 t.p1 t.p2 t.p3 t.p4 t.p5 t.p6 t.p7 t.p8 t.p9 t.p10 t.p11 t.p12 t.p13 t.cs.length t.st t.wd.length t.s0 t.s1 t.s2 t.s3 t.cap t.ds.length t.fr.length t.to_.length (Rn X) (Rn Y) (Rn AX) (Rn AY) (Rn SX) (Rn SY) (Rn TU) (Rn OP) (Rn R) (Rn t.w) (Rn t.h) (Rk t.ps) (Rc t.cs) (Rn t.wd) (Rd t.ds) (Rn t.fr) (Rn t.to_)
  simp only [e15, Option.bind_some]
  obtain ⟨mt, s16, e16, p16, m1, m2, m3⟩ := y115_ex tape hl b15 s15 p15 kind q comp (v0 - 2) (v0 - 2 + 1 + v2) (v1 - 2) X.length Y.length AX.length AY.length SX.length SY.length TU.length OP.length R.length t.form t.n t.w.length t.h.length t.ps.length t.f t.rule t.p0 t.p1 t.p2 t.p3 t.p4 t.p5 t.p6 t.p7 t.p8 t.p9 t.p10 t.p11 t.p12 t.p13 t.cs.length t.st t.wd.length t.s0 t.s1 t.s2 t.s3 t.cap t.ds.length t.fr.length t.to_.length (Rn X) (Rn Y) (Rn AX) (Rn AY) (Rn SX) (Rn SY) (Rn TU) (Rn OP) (Rn R) (Rn t.w) (Rn t.h) (Rk t.ps) (Rc t.cs) (Rn t.wd) (Rd t.ds) (Rn t.fr) (Rn t.to_)
  obtain ⟨v17, s17, e17, l17, u17, p17⟩ := next_ex tape s16 5 p16 hl (by decide)
  simp only [e16, e17, Option.bind_some]
  have gw : Gw47 true c m kind comp R t := ⟨g6.nest, g6.draw, g6.kind⟩
  by_cases h : (v17 == 0) = true
  · obtain ⟨v18, s18, e18, l18, u18, p18⟩ := next_ex tape s17 2 p17 hl (by decide)
    have hw : w64 (2 + v18) = 2 + v18 := w64_in (by omega) (by omega)
    obtain ⟨ps, s19, e19, l19, b19, p19⟩ := path_ex tape s18 p18 hl (2 + v18) (by omega) (by omega) true
    simp only [if_pos h, e18, hw, e19, Option.bind_some]
    exact ⟨⟨kind, q, comp, mt, v0 - 2, v0 - 2 + 1 + v2, v1 - 2, X, Y, AX, AY, SX, SY, TU, OP, R, true, ps, t⟩, s19, rfl, p19,
      ⟨⟨g4, g4'⟩, ⟨m1, m2, fun h => g15 (m3 h)⟩, ⟨by show -2 ≤ v0 - 2; omega, by show v0 - 2 ≤ 3; omega⟩, ⟨by show v0 - 2 < v0 - 2 + 1 + v2; omega, by show v0 - 2 + 1 + v2 ≤ v0 - 2 + 24; omega⟩, ⟨by show -2 ≤ v1 - 2; omega, by show v1 - 2 ≤ 2; omega⟩, gX, gY, gAX, gAY, gSX, gSY, gTU, gOP, gw, .inr ⟨rfl, by show (ps.length : Int) = 7 ∨ (ps.length : Int) = 10; omega, b19⟩⟩⟩
  · simp only [if_neg h]
    exact ⟨⟨kind, q, comp, mt, v0 - 2, v0 - 2 + 1 + v2, v1 - 2, X, Y, AX, AY, SX, SY, TU, OP, R, false, [], t⟩, s17, rfl, p17,
      ⟨⟨g4, g4'⟩, ⟨m1, m2, fun h => g15 (m3 h)⟩, ⟨by show -2 ≤ v0 - 2; omega, by show v0 - 2 ≤ 3; omega⟩, ⟨by show v0 - 2 < v0 - 2 + 1 + v2; omega, by show v0 - 2 + 1 + v2 ≤ v0 - 2 + 24; omega⟩, ⟨by show -2 ≤ v1 - 2; omega, by show v1 - 2 ≤ 2; omega⟩, gX, gY, gAX, gAY, gSX, gSY, gTU, gOP, gw, .inl ⟨rfl, rfl⟩⟩⟩
end Go.Proofs.YtifalphladcdcaaGreat.H

/- Documents of a tape: what is known of them. Conditions: those stated. -/
namespace Go.Proofs.YtifalphladcdcaaGreat.H
open Go Go.VM
set_option maxRecDepth 100000
/-- Comps, as lists of layers. -/
abbrev Rcs (cs : List (List Ly)) : List (List V) := cs.map fun c => [V.list 50 (Rl c)]
theorem rcs_len (cs : List (List Ly)) : (Rcs cs).length = cs.length := List.length_map ..
theorem rcs_get (cs : List (List Ly)) (i : Nat) : ((Rcs cs)[i]?).bind W52.dec = (cs[i]?).map fun c => ⟨Rl c⟩ := by
  simp only [Rcs, List.getElem?_map]
  cases cs[i]? <;> rfl
theorem pushL (ls : List Ly) (x : Ly) : List.take ls.length (Rl ls) ++ [(Wl x).cells] = Rl (ls ++ [x]) := by
  rw [List.take_of_length_le (by rw [rl_len]; exact Nat.le_refl _), Rl, Rl, List.map_append]; rfl
theorem pushCs (cs : List (List Ly)) (x : List Ly) : List.take cs.length (Rcs cs) ++ [[V.list 50 (Rl x)]] = Rcs (cs ++ [x]) := by
  rw [List.take_of_length_le (by rw [rcs_len]; exact Nat.le_refl _), Rcs, Rcs, List.map_append]; rfl
/-- The layers of comp c of m that a tape makes. -/
def Gcomp (c m : Int) (ls : List Ly) : Prop := ls.length ≤ 4 ∧ ∀ k (h : k < ls.length), Gy k c m (decide (k = 0) || decide (∃ h' : k - 1 < ls.length, 0 < k ∧ (ls[k - 1]).mat ≠ 0)) ls[k]
/-- A layer that a tape makes, some ahead of it. -/
theorem Gcomp.push {c m : Int} {ls : List Ly} {l : Ly} {ah : Bool} (g : Gcomp c m ls) (h : ls.length < 4) (ha : ah = (decide (ls.length = 0) || decide (∃ h' : ls.length - 1 < ls.length, 0 < ls.length ∧ (ls[ls.length - 1]).mat ≠ 0))) (gl : Gy ls.length c m ah l) : Gcomp c m (ls ++ [l]) := by
  refine ⟨by rw [List.length_append, List.length_singleton]; omega, fun k hk => ?_⟩
  rw [List.length_append, List.length_singleton] at hk
  by_cases h1 : k < ls.length
  · have := g.2 k h1
    rw [List.getElem_append_left h1]
    have e : (decide (k = 0) || decide (∃ h' : k - 1 < ls.length, 0 < k ∧ (ls[k - 1]).mat ≠ 0)) = (decide (k = 0) || decide (∃ h' : k - 1 < (ls ++ [l]).length, 0 < k ∧ ((ls ++ [l])[k - 1]).mat ≠ 0)) := by
      congr 1
      rw [decide_eq_decide]
      constructor
      · rintro ⟨a, b, d⟩; exact ⟨by rw [List.length_append]; omega, b, by rw [List.getElem_append_left (by omega)]; exact d⟩
      · rintro ⟨a, b, d⟩; exact ⟨by omega, b, by rw [List.getElem_append_left (by omega)] at d; exact d⟩
    rw [← e]; exact this
  · obtain rfl : k = ls.length := by omega
    rw [List.getElem_append_right (by omega)]
    simp only [Nat.sub_self, List.getElem_cons_zero]
    have e : ah = (decide (ls.length = 0) || decide (∃ h' : ls.length - 1 < (ls ++ [l]).length, 0 < ls.length ∧ ((ls ++ [l])[ls.length - 1]).mat ≠ 0)) := by
      rw [ha]
      congr 1
      rw [decide_eq_decide]
      constructor
      · rintro ⟨a, b, d⟩; exact ⟨by rw [List.length_append]; omega, b, by rw [List.getElem_append_left (by omega)]; exact d⟩
      · rintro ⟨a, b, d⟩; exact ⟨by omega, b, by rw [List.getElem_append_left (by omega)] at d; exact d⟩
    rw [← e]; exact gl
theorem take_rnL (ks : List Ky) : List.take ks.length (Rn ks) = Rn ks := take_rn ks
theorem take_rkL (ks : List PK) : List.take ks.length (Rk ks) = Rk ks := List.take_of_length_le (by rw [rk_len]; exact Nat.le_refl _)
theorem take_rcL (ks : List Ck) : List.take ks.length (Rc ks) = Rc ks := List.take_of_length_le (by rw [rc_len]; exact Nat.le_refl _)
theorem take_rdL (ks : List Dn) : List.take ks.length (Rd ks) = Rd ks := List.take_of_length_le (by rw [rd_len]; exact Nat.le_refl _)
theorem take_rpL (ks : List Pt) : List.take ks.length (Rp ks) = Rp ks := List.take_of_length_le (by rw [rp_len]; exact Nat.le_refl _)
theorem zadd_le (n : Nat) : 0 + n ≤ n := by omega
theorem layers_loop (tape : List W3) (hl : (tape.length : Int) ≤ 9223372036854775807) (m c : Int) (hc : 0 ≤ c ∧ c ≤ 1000 ∧ m ≤ 1000) (n : Int) (hn : n ≤ 4) (o1 o2 : Int) (ck : Nat) (C : List (List V)) : ∀ (f : Nat) (ls : List Ly) (ah : Bool) (s : Int), 0 ≤ s → (ls.length : Int) ≤ n → Gcomp c m ls → ah = (decide (ls.length = 0) || decide (∃ h' : ls.length - 1 < ls.length, 0 < ls.length ∧ (ls[ls.length - 1]).mat ≠ 0)) → 4 < f + ls.length →
    ∃ (L : List Ly) (s' : Int), L20_2 f (.s0 (.mk m c n ah ls.length (Rt tape) s o1 o2 ck ls.length C (Rl ls))) = some (.e0 (.mk m c (Rt tape) s' o1 o2 ck L.length C (Rl L))) ∧ 0 ≤ s' ∧ (L.length : Int) = n ∧ Gcomp c m L
  | 0, ls, ah, s, _, h1, _, _, h2 => by omega
  | f + 1, ls, ah, s, hs, h1, g, hah, h2 => by
    rw [L20_2_s0]
    by_cases h : (ls.length : Int) < n
    · obtain ⟨l, s1, e1, p1, g1⟩ := layer_ex tape hl s hs ls.length n c m ah (by omega) hc
      have hw : w64 ((ls.length : Int) + 1) = ((ls.length + 1 : Nat) : Int) := by rw [w64_in (by omega) (by omega)]; omega
      have hq : 0 + ls.length ≤ (Rl ls).length ∧ (ls.length + 1) * 608 ≤ 140737488355328 ∧ ls.length + 1 ≤ 140737488355328 := by rw [rl_len]; omega
      simp only [D20_2, PT.ev, PT.test, dite_eq_ite, if_pos h, e1, Option.bind_some, rn_len, rp_len, rk_len, rc_len, rd_len, if_pos (zadd_le _), if_pos hq, take_rnL, take_rkL, take_rcL, take_rdL, take_rpL, N20_2.nx, hw]
      have hp := pushL ls l
      have hlen : (ls ++ [l]).length = ls.length + 1 := by rw [List.length_append, List.length_singleton]
      have ih := layers_loop tape hl m c hc n hn o1 o2 ck C f (ls ++ [l]) (l.mat != 0) s1 p1 (by rw [hlen]; omega) (g.push (by omega) hah g1) (by
        have : ((ls ++ [l])[(ls ++ [l]).length - 1]'(by rw [hlen]; omega)) = l := by
          rw [List.getElem_append_right (by rw [hlen]; omega)]; simp
        rw [decide_eq_false (show ¬ (ls ++ [l]).length = 0 by rw [hlen]; omega), Bool.false_or]
        by_cases hm : l.mat = 0
        · rw [decide_eq_false (by rintro ⟨a, b, d⟩; rw [this] at d; exact d hm), hm]; rfl
        · rw [decide_eq_true (show ∃ h' : (ls ++ [l]).length - 1 < (ls ++ [l]).length, 0 < (ls ++ [l]).length ∧ ((ls ++ [l])[(ls ++ [l]).length - 1]).mat ≠ 0 from ⟨by rw [hlen]; omega, by rw [hlen]; omega, by rw [this]; exact hm⟩)]
          rw [bne_iff_ne]; exact hm) (by rw [hlen]; omega)
      rw [hlen, ← hp] at ih
      exact ih
    · simp only [D20_2, PT.ev, PT.test, dite_eq_ite, if_neg h, N20_2.nx]
      exact ⟨ls, s, rfl, hs, by omega, g⟩
/-- The comps that a tape makes. -/
def Gdoc (m : Int) (cs : List (List Ly)) : Prop := ∀ c (h : c < cs.length), Gcomp c m cs[c] ∧ 1 ≤ (cs[c]).length
theorem comps_loop (tape : List W3) (hl : (tape.length : Int) ≤ 9223372036854775807) (m : Int) (hm : m ≤ 3) (o1 o2 : Int) : ∀ (f : Nat) (cs : List (List Ly)) (s : Int), 0 ≤ s → (cs.length : Int) ≤ m → Gdoc m cs → 3 < f + cs.length →
    ∃ (C : List (List Ly)) (s' : Int), L20_0 f (.s0 (.mk m cs.length (Rt tape) s o1 o2 cs.length (Rcs cs))) = some (.e0 (.mk o1 o2 C.length (Rcs C))) ∧ 0 ≤ s' ∧ (C.length : Int) = m ∧ Gdoc m C
  | 0, cs, s, _, h1, _, h2 => by omega
  | f + 1, cs, s, hs, h1, g, h2 => by
    rw [L20_0_s0]
    by_cases h : (cs.length : Int) < m
    · obtain ⟨v, s1, e1, l1, u1, p1⟩ := next_ex tape s 4 hs hl (by decide)
      have hv : w64 (1 + v) = 1 + v := w64_in (by omega) (by omega)
      obtain ⟨L, s2, e2, p2, hL, gL⟩ := layers_loop tape hl m cs.length (by omega) (1 + v) (by omega) o1 o2 cs.length (Rcs cs) 18446744073709551616 [] true s1 p1 (by show (0 : Int) ≤ _; omega) ⟨by decide, fun k hk => absurd hk (Nat.not_lt_zero k)⟩ rfl (by decide)
      rw [show (Rl []) = [] from rfl, show (([] : List Ly).length) = 0 from rfl, show ((0 : Nat) : Int) = 0 from rfl] at e2
      have hw : w64 ((cs.length : Int) + 1) = ((cs.length + 1 : Nat) : Int) := by rw [w64_in (by omega) (by omega)]; omega
      have hq : 0 + cs.length ≤ (Rcs cs).length ∧ (cs.length + 1) * 24 ≤ 140737488355328 ∧ cs.length + 1 ≤ 140737488355328 := by rw [rcs_len]; omega
      have ht : List.take L.length (Rl L) = Rl L := List.take_of_length_le (by rw [rl_len]; exact Nat.le_refl _)
      simp only [D20_0, PT.ev, PT.test, dite_eq_ite, if_pos h, e1, hv, e2, Option.bind_some, rl_len, if_pos (zadd_le _), if_pos hq, ht, hw, N20_0.nx]
      have hp := pushCs cs L
      have hlen : (cs ++ [L]).length = cs.length + 1 := by rw [List.length_append, List.length_singleton]
      have ih := comps_loop tape hl m hm o1 o2 f (cs ++ [L]) s2 p2 (by rw [hlen]; omega) (fun c hc => by
        by_cases h1 : c < cs.length
        · rw [List.getElem_append_left h1]; exact g c h1
        · obtain rfl : c = cs.length := by omega
          rw [List.getElem_append_right (by omega)]
          simp only [Nat.sub_self, List.getElem_cons_zero]
          exact ⟨gL, by omega⟩) (by rw [hlen]; omega)
      rw [hlen, ← hp] at ih
      exact ih
    · simp only [D20_0, PT.ev, PT.test, dite_eq_ite, if_neg h, N20_0.nx]
      exact ⟨cs, s, rfl, hs, by omega, g⟩
/-- A document of a tape. -/
theorem doc_ex (tape : List W3) (hl : (tape.length : Int) ≤ 9223372036854775807) :
    ∃ (i o : Int) (C : List (List Ly)), F20 (Rt tape) = some (.a0 i o C.length (Rcs C)) ∧ -1 ≤ i ∧ i ≤ 2 ∧ i < o ∧ o ≤ i + 20 ∧ 1 ≤ C.length ∧ C.length ≤ 3 ∧ Gdoc C.length C := by
  obtain ⟨v0, s0, e0, l0, u0, p0⟩ := next_ex tape 0 4 (by decide) hl (by decide)
  obtain ⟨v1, s1, e1, l1, u1, p1⟩ := next_ex tape s0 20 p0 hl (by decide)
  obtain ⟨v2, s2, e2, l2, u2, p2⟩ := next_ex tape s1 3 p1 hl (by decide)
  have w0 : w64 (v0 - 1) = v0 - 1 := w64_in (by omega) (by omega)
  have w1 : w64 (w64 (v0 - 1 + 1) + v1) = v0 + v1 := by rw [w64_in (n := v0 - 1 + 1) (by omega) (by omega), w64_in (by omega) (by omega)]; omega
  have w2 : w64 (1 + v2) = 1 + v2 := w64_in (by omega) (by omega)
  obtain ⟨C, s3, e3, p3, hC, gC⟩ := comps_loop tape hl (1 + v2) (by omega) (v0 - 1) (v0 + v1) 18446744073709551616 [] s2 p2 (by show (0 : Int) ≤ _; omega) (fun c hc => absurd hc (Nat.not_lt_zero c)) (by decide)
  rw [show (Rcs []) = [] from rfl, show (([] : List (List Ly)).length) = 0 from rfl, show ((0 : Nat) : Int) = 0 from rfl] at e3
  simp only [F20, D20, PT.ev, PT.test, dite_eq_ite, e0, e1, e2, w0, w1, w2, e3, Option.bind_some]
  rw [← hC] at gC
  exact ⟨_, _, C, rfl, by omega, by omega, by omega, by omega, by omega, by omega, gC⟩
end Go.Proofs.YtifalphladcdcaaGreat.H
