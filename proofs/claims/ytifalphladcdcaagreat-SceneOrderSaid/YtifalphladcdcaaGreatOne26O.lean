import Derived.Test.YtifalphladcdcaaGreatOne22O
set_option linter.unusedVariables false
set_option linter.unusedSimpArgs false
/- SceneSames in plain Lean. Conditions: those stated. -/
namespace Go.Proofs.YtifalphladcdcaaGreat.H
open Go Go.VM
set_option maxRecDepth 100000
/-- Two that are told not to be the same, either way round. -/
def Df (a b : Nd) : Prop := ∀ k, F34 (k + 1) a b = some (.a0 false) ∧ F34 (k + 1) b a = some (.a0 false)
theorem Gy.lq {k c m : Int} {ah : Bool} {l : Ly} (g : Gy k c m ah l) : Lq l := by
  refine ⟨g.sm, ?_, ?_⟩
  · rcases g.what.kind with h | h
    · exact (g.what.draw h).2.2.gr
    · rw [(g.what.nest h).2.1]; exact Gr.sh0
  · rcases g.mask with ⟨_, h⟩ | ⟨_, h, _⟩
    · rw [h]; decide
    · omega
theorem Gdoc.ct {C : List (List Ly)} (g : Gdoc C.length C) (hl : C.length ≤ 1000) : Ct C := by
  have f : ∀ c ∈ C, c.length ≤ 4 ∧ ∀ l ∈ c, Lq l ∧ (l.kind = 1 → 0 ≤ l.comp ∧ l.comp < (C.length : Int)) := fun c hc => by
    obtain ⟨j, hj, rfl⟩ := List.mem_iff_getElem.1 hc
    obtain ⟨⟨g1, g2⟩, _⟩ := g j hj
    exact ⟨g1, fun l hl => by
      obtain ⟨y, hy, rfl⟩ := List.mem_iff_getElem.1 hl
      have gy := g2 y hy
      exact ⟨gy.lq, fun h => by
        obtain ⟨a, b⟩ := (gy.what.nest h).1
        omega⟩⟩
  exact ⟨⟨by omega, fun c hc => ⟨by have := (f c hc).1; omega, fun l hl => ((f c hc).2 l hl).1⟩⟩, fun c hc => (f c hc).1, fun c hc l hl => ((f c hc).2 l hl).2⟩
end Go.Proofs.YtifalphladcdcaaGreat.H

/- A list of a comp asks only for the comps behind it. Conditions: those stated. -/
namespace Go.Proofs.YtifalphladcdcaaGreat.H
open Go Go.VM
set_option maxRecDepth 100000
noncomputable def bb3 (a : W57) (al t : Int) : Bool := !F23 a t || al == 0
theorem ly_r3v (rF : K158) (hF : H158 rF) (rG : K218) (hG : H218 rG) (k t deep al i o : Int) (X : List (List V)) (ls : List (List V)) (M : Mt) (a : W57) : (J218_r3) rF hF rG hG (.mk k t deep al i o X ls M a) = some (.e0 (.mk k t deep al (bb3 a al t) i o X ls M a)) := by
  simp only [J218_r3, D218_r3, PT.ev, PT.test, dite_eq_ite, bnd_def, bb3]
  cases F23 a t <;> rfl
noncomputable def bb6 (a : W57) (al : Int) : Bool := a.c3 == 0 && (F146 a.c16 a.c17 && (a.c0 == 0 || al == 255))
theorem ly_r6v (rF : K158) (hF : H158 rF) (rG : K218) (hG : H218 rG) (k t deep al i o : Int) (X : List (List V)) (ls : List (List V)) (M : Mt) (a : W57) (own : Mt) : (J218_r6) rF hF rG hG (.mk k t deep al i o X ls M a own) = some (.e0 (.mk k t deep al (bb6 a al) i o X ls M a own)) := by
  simp only [J218_r6, D218_r6, PT.ev, PT.test, dite_eq_ite, bnd_def, bb6]
  cases F146 a.c16 a.c17 <;> cases (a.c3 == 0) <;> cases (a.c0 == 0) <;> rfl
theorem inner_e (rF : K158) (hF : H158 rF) (C D : List (List Ly)) (i o deep : Int) (hL : ∀ (c t : Int) (M : Mt), 1 ≤ c → c < (C.length : Int) → rF i o (Rcs C) c t M (w64 (deep + 1)) = rF i o (Rcs D) c t M (w64 (deep + 1))) (l : Ly) (g : Sm l) (hn : l.kind = 1 → 1 ≤ l.comp ∧ l.comp < (C.length : Int)) (t : Int) (M : Mt) (a : Int) :
    F259 rF hF i o (Rcs C) (Wl l) t M deep a = F259 rF hF i o (Rcs D) (Wl l) t M deep a := by
  by_cases h : l.kind = 1
  · obtain ⟨h1, h2⟩ := hn h
    have hk : (l.kind == 1) = true := by rw [beq_iff_eq]; exact h
    simp only [F259, D259, PT.ev, PT.test, dite_eq_ite, if_pos hk, qinner l g, Option.bind_some, hL l.comp (innerv l t) M h1 h2]
  · have hk : ¬ (l.kind == 1) = true := by rw [beq_iff_eq]; exact h
    simp only [F259, D259, PT.ev, PT.test, dite_eq_ite, if_neg hk]
theorem layer_e (rF : K158) (hF : H158 rF) (C D : List (List Ly)) (i o t deep : Int) (M : Mt) (ls us : List Ly) (hl : ls.length ≤ 1000000) (hs : ∀ l ∈ ls, Sm l) (hu : ∀ l ∈ us, Sm l) (k j n m : Nat) (hk : k < ls.length) (hj : j < us.length) (l : Ly) (h1 : ls[k]? = some l) (h2 : us[j]? = some l)
    (hc : chainv ls k t = chainv us j t) (hi : ∀ (N : Mt) (a : Int), F259 rF hF i o (Rcs C) (Wl l) t N deep a = F259 rF hF i o (Rcs D) (Wl l) t N deep a)
    (hm : l.mat ≠ 0 → k = j ∧ (0 < k → F218 rF hF n i o (Rcs C) (Rl ls) ((k - 1 : Nat) : Int) t M deep = F218 rF hF m i o (Rcs D) (Rl us) ((k - 1 : Nat) : Int) t M deep)) :
    F218 rF hF (n + 1) i o (Rcs C) (Rl ls) k t M deep = F218 rF hF (m + 1) i o (Rcs D) (Rl us) j t M deep := by
  have gl : Sm l := hs l (List.mem_of_getElem? h1)
  have qc := qchain ls hs k t
  have qd := qchain us hu j t
  rw [F218_succ, F218_succ]
  simp only [D218, PT.ev, PT.test, dite_eq_ite, if_pos (show (0 : Int) ≤ (k : Int) by omega), if_pos (show (0 : Int) ≤ (j : Int) by omega), Int.toNat_natCast, rl_get, h1, h2, Option.map_some, Option.bind_some, qopac l gl]
  rw [ly_r3v, ly_r3v]
  simp only [Option.bind_some, PT.ev, PT.test, dite_eq_ite, qc, qd, qafter, hc]
  cases bb3 (Wl l) (opacv l t) t with
  | true => rfl
  | false =>
    simp only [Bool.false_eq_true, if_false]
    rw [ly_r6v, ly_r6v]
    simp only [Option.bind_some, PT.ev, PT.test, dite_eq_ite, hi]
    cases bb6 (Wl l) (opacv l t) with
    | true => rfl
    | false =>
      simp only [Bool.false_eq_true, if_false]
      by_cases hmt : ((Wl l).c3 != 0) = true
      · obtain ⟨rfl, hm2⟩ := hm (bne_iff_ne.1 hmt)
        by_cases hk0 : (k : Int) > 0
        · have hw : w64 ((k : Int) - 1) = ((k - 1 : Nat) : Int) := by
            have := List.length_pos_of_mem (List.mem_of_getElem? h1)
            rw [w64_eq]; omega
          simp only [if_pos hmt, if_pos hk0, hw, hm2 (by omega)]
        · simp only [if_pos hmt, if_neg hk0]
      · simp only [if_neg hmt]
theorem layer_d (rF : K158) (hF : H158 rF) (C D : List (List Ly)) (i o t deep : Int) (M : Mt) (ls : List Ly) (hl : ls.length ≤ 1000000) (hs : ∀ l ∈ ls, Sm l) (hi : ∀ l ∈ ls, ∀ (N : Mt) (a : Int), F259 rF hF i o (Rcs C) (Wl l) t N deep a = F259 rF hF i o (Rcs D) (Wl l) t N deep a) : ∀ (n k : Nat), k < ls.length →
    F218 rF hF n i o (Rcs C) (Rl ls) k t M deep = F218 rF hF n i o (Rcs D) (Rl ls) k t M deep
  | 0, k, _ => rfl
  | n + 1, k, hk => by
    have h1 : ls[k]? = some ls[k] := List.getElem?_eq_getElem hk
    exact layer_e rF hF C D i o t deep M ls ls hl hs hs k k n n hk hk ls[k] h1 h1 rfl (hi _ (List.getElem_mem hk)) (fun _ => ⟨rfl, fun h => layer_d rF hF C D i o t deep M ls hl hs hi n (k - 1) (by omega)⟩)
theorem list_e (rF : K158) (hF : H158 rF) (C D : List (List Ly)) (i o t deep : Int) (M : Mt) (ls : List Ly) (hl : ls.length ≤ 1000000) (he : ∀ k, k < ls.length → F218 rF hF 100000 i o (Rcs C) (Rl ls) k t M deep = F218 rF hF 100000 i o (Rcs D) (Rl ls) k t M deep) : ∀ (n k a : Nat) (X : List (List V)), k ≤ ls.length →
    L158_0 rF hF n (.s0 (.mk t deep a ls.length k i o (Rcs C) M X (Rl ls))) = L158_0 rF hF n (.s0 (.mk t deep a ls.length k i o (Rcs D) M X (Rl ls)))
  | 0, k, a, X, _ => rfl
  | n + 1, k, a, X, hk => by
    rw [L158_0_s0, L158_0_s0]
    by_cases h : k < ls.length
    · have hw : w64 ((k : Int) + 1) = ((k + 1 : Nat) : Int) := by rw [w64_in (by omega) (by omega)]; omega
      have skip := fun a X => list_e rF hF C D i o t deep M ls hl he n (k + 1) a X h
      have el := he k h
      simp only [D158_0, PT.ev, PT.test, dite_eq_ite, rl_len, if_pos (show (k : Int) < (ls.length : Int) by omega), hw, el]
      cases F218 rF hF 100000 i o (Rcs D) (Rl ls) k t M deep with
      | none =>
        by_cases h4 : ((k + 1 : Nat) : Int) < (ls.length : Int)
        · have hk2 : k + 1 < ls.length := by omega
          simp only [if_pos h4, if_pos (show (0 : Int) ≤ ((k + 1 : Nat) : Int) by omega), Int.toNat_natCast, rl_get, List.getElem?_eq_getElem hk2, Option.map_some, Option.bind_some, Option.bind_none, N158_0.nx, skip]
        · simp only [if_neg h4, Option.bind_none]
      | some r =>
        obtain ⟨l, m⟩ := r
        by_cases h4 : ((k + 1 : Nat) : Int) < (ls.length : Int)
        · have hk2 : k + 1 < ls.length := by omega
          simp only [if_pos h4, if_pos (show (0 : Int) ≤ ((k + 1 : Nat) : Int) by omega), Int.toNat_natCast, rl_get, List.getElem?_eq_getElem hk2, Option.map_some, Option.bind_some, PT.ev, PT.test, dite_eq_ite, N158_0.nx, skip]
        · simp only [if_neg h4, Option.bind_some, PT.ev, PT.test, dite_eq_ite, hw, N158_0.nx, skip]
    · simp only [D158_0, PT.ev, PT.test, dite_eq_ite, if_neg (show ¬ (k : Int) < (ls.length : Int) by omega), N158_0.nx]
/-- The comps behind one are what its list asks for. -/
theorem list_d (C D : List (List Ly)) (hCD : C.length = D.length) (ha : ∀ c, 1 ≤ c → C[c]? = D[c]?) (g : Ct C) (hn : ∀ (c : Nat) (h : c < C.length), ∀ l ∈ C[c], l.kind = 1 → (c : Int) < l.comp ∧ l.comp < (C.length : Int)) (i o : Int) : ∀ (n : Nat) (deep c t : Int) (M : Mt), 1 ≤ c → c < (C.length : Int) →
    F158 n i o (Rcs C) c t M deep = F158 n i o (Rcs D) c t M deep
  | 0, deep, c, t, M, _, _ => rfl
  | n + 1, deep, c, t, M, h1, h2 => by
    have hc : c.toNat < C.length := by omega
    have hm := List.getElem_mem hc
    obtain ⟨_, gy⟩ := g.q.ly _ hm
    have h3 := g.four _ hm
    have hi : ∀ l ∈ C[c.toNat], ∀ (N : Mt) (a : Int), F259 (F158 n) (F158_ok n) i o (Rcs C) (Wl l) t N deep a = F259 (F158 n) (F158_ok n) i o (Rcs D) (Wl l) t N deep a := fun l hl N a =>
      inner_e (F158 n) (F158_ok n) C D i o deep (fun c' t' M' a1 a2 => list_d C D hCD ha g hn i o n _ c' t' M' a1 a2) l (gy l hl).sm (fun h => by have := hn _ hc l hl h; omega) t N a
    have e := list_e (F158 n) (F158_ok n) C D i o t deep M C[c.toNat] (by omega) (fun k hk => layer_d _ _ C D i o t deep M C[c.toNat] (by omega) (fun l hl => (gy l hl).sm) hi 100000 k hk) 18446744073709551616 0 0 [] (Nat.zero_le _)
    rw [show ((0 : Nat) : Int) = 0 from rfl] at e
    have hd : D[c.toNat]? = some C[c.toNat] := by rw [← ha _ (by omega)]; exact List.getElem?_eq_getElem hc
    rw [F158_succ, F158_succ]
    simp only [D158, J158_r1, D158_r1, PT.ev, PT.test, dite_eq_ite]
    by_cases q1 : deep < 0
    · simp only [if_pos q1, Option.bind_some, if_true]
    · simp only [if_neg q1, Option.bind_some]
      split
      · rfl
      · simp only [if_pos (show 0 ≤ c by omega), rcs_get, List.getElem?_eq_getElem hc, hd, Option.map_some, Option.bind_some, rl_len, e]
end Go.Proofs.YtifalphladcdcaaGreat.H

/- A comp told layer by layer. Conditions: those stated. -/
namespace Go.Proofs.YtifalphladcdcaaGreat.H
open Go Go.VM
set_option maxRecDepth 100000
/-- A layer without a matte and without a parent. -/
abbrev nz (l : Ly) : Ly := { l with par := -1, mat := 0 }
theorem Gz.nz {l : Ly} (g : Gz l) : Gz (nz l) := ⟨g.what, ⟨Int.le_refl 0, show (0 : Int) ≤ 2 by decide⟩, g.tick, g.keys, g.mask⟩
theorem Lq.nz {l : Ly} (g : Lq l) : Lq (nz l) := ⟨⟨g.sm.x, g.sm.y, g.sm.ax, g.sm.ay, g.sm.sx, g.sm.sy, g.sm.tu, g.sm.op, g.sm.re⟩, g.sr, g.mp⟩
theorem Gdoc.cz {C : List (List Ly)} (g : Gdoc C.length C) (h1 : 1 ≤ C.length) (h3 : C.length ≤ 3) : Cz C := by
  refine ⟨⟨h1, h3⟩, ?_, ?_, ?_, ?_, ?_⟩
  · intro c hc
    obtain ⟨j, hj, rfl⟩ := List.mem_iff_getElem.1 hc
    exact (g j hj).1.1
  · intro c hc l hl
    obtain ⟨j, hj, rfl⟩ := List.mem_iff_getElem.1 hc
    obtain ⟨y, hy, rfl⟩ := List.mem_iff_getElem.1 hl
    exact ((g j hj).1.2 y hy).gz
  · intro c h k h'
    have := ((g c h).1.2 k h').par
    omega
  · intro c h k h' hm
    have e := ((g c h).1.2 k h').mat.2.2 hm
    rw [Bool.or_eq_false_iff, decide_eq_false_iff_not, decide_eq_false_iff_not] at e
    have hk : 0 < k := Nat.pos_of_ne_zero e.1
    exact ⟨hk, fun h'' => Decidable.byContradiction fun hz => e.2 ⟨h'', hk, hz⟩⟩
  · intro c h l hl hk
    obtain ⟨y, hy, rfl⟩ := List.mem_iff_getElem.1 hl
    exact (((g c h).1.2 y hy).what.nest hk).1
/-- A first comp that may stand there. -/
structure Fz (m : Nat) (us : List Ly) : Prop where
  four : us.length ≤ 4
  gz : ∀ l ∈ us, Gz l
  lq : ∀ l ∈ us, Lq l
  flat : ∀ l ∈ us, l.par = -1 ∧ l.mat = 0
  nest : ∀ l ∈ us, l.kind = 1 → 0 < l.comp ∧ l.comp < (m : Int)
theorem Cz.fz {C : List (List Ly)} (g : Cz C) (t : Ct C) (h : 0 < C.length) : Fz C.length (C[0].map nz) := by
  have hm := List.getElem_mem h
  refine ⟨by rw [List.length_map]; exact g.four _ hm, ?_, ?_, ?_, ?_⟩
  · intro l hl
    obtain ⟨x, hx, rfl⟩ := List.mem_map.1 hl
    exact (g.gz _ hm x hx).nz
  · intro l hl
    obtain ⟨x, hx, rfl⟩ := List.mem_map.1 hl
    exact ((t.q.ly _ hm).2 x hx).nz
  · intro l hl
    obtain ⟨x, hx, rfl⟩ := List.mem_map.1 hl
    exact ⟨rfl, rfl⟩
  · intro l hl hk
    obtain ⟨x, hx, rfl⟩ := List.mem_map.1 hl
    have := g.nest 0 h x hx hk
    exact ⟨by have := this.1; exact this, this.2⟩
theorem Fz.one {m : Nat} {us : List Ly} (f : Fz m us) {l : Ly} (h : l ∈ us) : Fz m [l] := by
  refine ⟨show 1 ≤ 4 by decide, ?_, ?_, ?_, ?_⟩ <;> intro x hx <;> rw [List.mem_singleton.1 hx]
  · exact f.gz l h
  · exact f.lq l h
  · exact f.flat l h
  · exact f.nest l h
theorem Cz.set0 {C : List (List Ly)} (g : Cz C) {us : List Ly} (f : Fz C.length us) : Cz (C.set 0 us) := by
  have h0 : 0 < C.length := by have := g.len; omega
  refine ⟨by rw [List.length_set]; exact g.len, ?_, ?_, ?_, ?_, ?_⟩
  · intro c hc
    rcases List.mem_or_eq_of_mem_set hc with h | rfl
    · exact g.four c h
    · exact f.four
  · intro c hc
    rcases List.mem_or_eq_of_mem_set hc with h | rfl
    · exact g.gz c h
    · exact f.gz
  · intro c h k h'
    rw [List.length_set] at h
    by_cases e : 0 = c
    · subst e
      have e1 : (C.set 0 us)[0] = us := by rw [List.getElem_set_self]
      simp only [e1] at h' ⊢
      have := f.flat _ (List.getElem_mem h')
      omega
    · have e1 : (C.set 0 us)[c] = C[c] := by rw [List.getElem_set_ne e]
      simp only [e1] at h' ⊢
      exact g.par c h k h'
  · intro c h k h'
    rw [List.length_set] at h
    by_cases e : 0 = c
    · subst e
      have e1 : (C.set 0 us)[0] = us := by rw [List.getElem_set_self]
      simp only [e1] at h' ⊢
      intro hz
      exact absurd (f.flat _ (List.getElem_mem h')).2 hz
    · have e1 : (C.set 0 us)[c] = C[c] := by rw [List.getElem_set_ne e]
      simp only [e1] at h' ⊢
      exact g.mat c h k h'
  · intro c h l hl hk
    rw [List.length_set] at h ⊢
    by_cases e : 0 = c
    · subst e
      rw [List.getElem_set_self] at hl
      exact f.nest l hl hk
    · rw [List.getElem_set_ne e] at hl
      exact g.nest c h l hl hk
theorem Ct.set0 {C : List (List Ly)} (g : Ct C) {us : List Ly} (f : Fz C.length us) : Ct (C.set 0 us) := by
  refine ⟨⟨by rw [List.length_set]; exact g.q.len, ?_⟩, ?_, ?_⟩
  · intro c hc
    rcases List.mem_or_eq_of_mem_set hc with h | rfl
    · exact g.q.ly c h
    · exact ⟨by have := f.four; omega, f.lq⟩
  · intro c hc
    rcases List.mem_or_eq_of_mem_set hc with h | rfl
    · exact g.four c h
    · exact f.four
  · intro c hc l hl hk
    rw [List.length_set]
    rcases List.mem_or_eq_of_mem_set hc with h | rfl
    · exact g.nest c h l hl hk
    · have := f.nest l hl hk; omega
/-- So many of them, one after another. -/
def cat (N : Nat → List Nd) : Nat → List Nd
  | 0 => []
  | k + 1 => cat N k ++ N k
theorem cat_len (N : Nat → List Nd) (m : Nat) (hm : ∀ k, (N k).length ≤ m) : ∀ k, (cat N k).length ≤ k * m
  | 0 => Nat.zero_le _
  | k + 1 => by
    rw [cat, List.length_append, Nat.succ_mul]
    exact Nat.add_le_add (cat_len N m hm k) (hm k)
theorem cat_nl (N : Nat → List Nd) (d m : Nat) (hm : ∀ k, Nl d m (N k)) : ∀ k, Nl d (k * m) (cat N k)
  | 0 => Nl.nil _ _
  | k + 1 => by
    rw [cat, Nat.succ_mul]
    exact (cat_nl N d m hm k).app (hm k)
theorem rnd_app (a b : List Nd) : Rnd a ++ Rnd b = Rnd (a ++ b) := (List.map_append ..).symm
/-- A comp without mattes. -/
theorem list_n (rF : K158) (hF : H158 rF) (C : List (List Ly)) (ls : List Ly) (i o t deep : Int) (M : Mt) (hl : ls.length ≤ 4) (hf : ∀ l ∈ ls, l.mat = 0) (N : Nat → List Nd) (hb : ∀ k, (N k).length ≤ 1000) (hN : ∀ k, k < ls.length → F218 rF hF 100000 i o (Rcs C) (Rl ls) k t M deep = some (.a0 (N k).length (Rnd (N k)))) : ∀ (n k : Nat), k ≤ ls.length → ls.length < n + k →
    L158_0 rF hF n (.s0 (.mk t deep (cat N k).length ls.length k i o (Rcs C) M (Rnd (cat N k)) (Rl ls))) = some (.e0 (.mk (cat N ls.length).length (Rnd (cat N ls.length))))
  | 0, k, h1, h2 => by omega
  | n + 1, k, h1, h2 => by
    rw [L158_0_s0]
    by_cases h : k < ls.length
    · have hw : w64 ((k : Int) + 1) = ((k + 1 : Nat) : Int) := by rw [w64_in (by omega) (by omega)]; omega
      have go := list_n rF hF C ls i o t deep M hl hf N hb hN n (k + 1) h (by omega)
      have e1 := hN k h
      have c1 := cat_len N 1000 hb k
      have c2 := hb k
      have hq : ((cat N k).length + (N k).length) * 192 ≤ 140737488355328 ∧ (cat N k).length + (N k).length ≤ 140737488355328 := by omega
      rw [cat, List.length_append] at go
      simp only [D158_0, PT.ev, PT.test, dite_eq_ite, rl_len, if_pos (show (k : Int) < (ls.length : Int) by omega), hw]
      by_cases h4 : ((k + 1 : Nat) : Int) < (ls.length : Int)
      · have hk2 : k + 1 < ls.length := by omega
        have m0 : ¬ ((Wl ls[k + 1]).c3 != 0) = true := by
          rw [bne_iff_ne]; exact fun hz => hz (hf _ (List.getElem_mem hk2))
        simp only [if_pos h4, if_pos (show (0 : Int) ≤ ((k + 1 : Nat) : Int) by omega), Int.toNat_natCast, rl_get, List.getElem?_eq_getElem hk2, Option.map_some, Option.bind_some, if_neg m0, e1, Nat.zero_add, rnd_len, Nat.le_refl, true_and, if_true, rnd_all, rnd_app, if_pos hq, hw, N158_0.nx]
        exact go
      · simp only [if_neg h4, e1, Option.bind_some, PT.ev, PT.test, dite_eq_ite, Nat.zero_add, rnd_len, Nat.le_refl, true_and, if_true, rnd_all, rnd_app, if_pos hq, hw, N158_0.nx]
        exact go
    · have e : k = ls.length := by omega
      subst e
      simp only [D158_0, PT.ev, PT.test, dite_eq_ite, if_neg (show ¬ (ls.length : Int) < (ls.length : Int) by omega), N158_0.nx]
/-- The list of a document whose first comp has no mattes. -/
theorem top_n (C : List (List Ly)) (g : Cz C) (i o t : Int) (hi : -1000 ≤ i ∧ i < o ∧ o ≤ 1000) (us : List Ly) (f : Fz C.length us) (N : Nat → List Nd) (hb : ∀ k, (N k).length ≤ 1000)
    (hN : ∀ k, k < us.length → F218 (F158 99999) (F158_ok 99999) 100000 i o (Rcs (C.set 0 us)) (Rl us) k t F78 0 = some (.a0 (N k).length (Rnd (N k)))) :
    F33 i o (Rcs (C.set 0 us)) t = some (.a0 (cat N us.length).length (Rnd (cat N us.length))) := by
  have h0 : 0 < C.length := by have := g.len; omega
  have e := docT _ (g.set0 f) i o hi
  have lp := list_n (F158 99999) (F158_ok 99999) (C.set 0 us) us i o t 0 F78 f.four (fun l hl => (f.flat l hl).2) N hb hN 18446744073709551616 0 (Nat.zero_le _) (by have := f.four; omega)
  rw [show ((0 : Nat) : Int) = 0 from rfl, show cat N 0 = [] from rfl, show Rnd [] = [] from rfl, show ([] : List Nd).length = 0 from rfl] at lp
  have h1 : (C.set 0 us)[0]? = some us := List.getElem?_set_self h0
  simp only [F33, D33, F91, D91, PT.ev, PT.test, dite_eq_ite, bnd_def, e, Option.bind_some]
  rw [if_neg (show ¬ ((0 : Int) != 0) = true by decide), if_neg (show ¬ (0 : Int) < 0 by decide), if_neg (show ¬ (0 : Int) ≥ (((Rcs (C.set 0 us)).length : Nat) : Int) by rw [rcs_len, List.length_set]; omega)]
  rw [show (100000 : Nat) = 99999 + 1 from rfl, F158_succ]
  simp only [D158, J158_r1, D158_r1, PT.ev, PT.test, dite_eq_ite, if_neg (show ¬ (0 : Int) < 0 by decide), decide_eq_false (show ¬ (0 : Int) ≥ 4 by decide), Option.bind_some, Bool.false_eq_true, if_false, if_pos (show (0 : Int) ≤ 0 by decide), Int.toNat_zero, rcs_get, h1, Option.map_some, rl_len]
  rw [lp]
  rfl
/-- A layer alone, and among others. -/
theorem layer_one (C : List (List Ly)) (g : Cz C) (ct : Ct C) (i o t : Int) (us : List Ly) (f : Fz C.length us) (k : Nat) (hk : k < us.length) :
    F218 (F158 99999) (F158_ok 99999) 100000 i o (Rcs (C.set 0 us)) (Rl us) k t F78 0 = F218 (F158 99999) (F158_ok 99999) 100000 i o (Rcs (C.set 0 [us[k]])) (Rl [us[k]]) ((0 : Nat) : Int) t F78 0 := by
  have hm := List.getElem_mem hk
  have f1 := f.one hm
  obtain ⟨p, z⟩ := f.flat _ hm
  have s1 : ∀ l ∈ us, Sm l := fun l hl => (f.lq l hl).sm
  have s2 : ∀ l ∈ [us[k]], Sm l := fun l hl => (f1.lq l hl).sm
  have hk1 : us[k]? = some us[k] := List.getElem?_eq_getElem hk
  have ch : chainv us k t = chainv [us[k]] ((0 : Nat) : Int) t := by
    have b1 : there us (k : Int) = true := by simp only [there, Bool.and_eq_true, decide_eq_true_eq]; omega
    have b2 : there us (-1) = false := by simp only [there, Bool.and_eq_false_iff, decide_eq_false_iff_not]; omega
    have b3 : there [us[k]] ((0 : Nat) : Int) = true := by simp [there]
    have b4 : there [us[k]] (-1) = false := by simp only [there, Bool.and_eq_false_iff, decide_eq_false_iff_not]; omega
    simp only [chainv, anc, if_pos b1, if_pos b3, Int.toNat_natCast, hk1, List.getElem?_cons_zero, p, b2, b4, Bool.false_eq_true, if_false]
  have d := list_d (C.set 0 us) (C.set 0 [us[k]]) (by rw [List.length_set, List.length_set]) (fun c hc => by rw [List.getElem?_set_ne (by omega), List.getElem?_set_ne (by omega)]) (ct.set0 f) (g.set0 f).nest i o 99999
  have hi := fun (N : Mt) (a : Int) => inner_e (F158 99999) (F158_ok 99999) (C.set 0 us) (C.set 0 [us[k]]) i o 0 (fun c t' M h1 h2 => d _ c t' M h1 h2) us[k] (s1 _ hm) (fun h => by
    have := f.nest _ hm h
    rw [List.length_set]; omega) t N a
  exact layer_e (F158 99999) (F158_ok 99999) (C.set 0 us) (C.set 0 [us[k]]) i o t 0 F78 us [us[k]] (by have := f.four; omega) s1 s2 k 0 99999 99999 hk (Nat.zero_lt_one) us[k] hk1 rfl ch hi (fun h => absurd z h)
end Go.Proofs.YtifalphladcdcaaGreat.H

/- Nodes are the same as themselves, by the other program. Conditions: those stated. -/
namespace Go.Proofs.YtifalphladcdcaaGreat.H
open Go Go.VM
set_option maxRecDepth 100000
theorem rpl_loop (Q : List Po) (hq : ∀ q ∈ Q, q.p.length ≤ 2000) (hl : Q.length ≤ 1000000) : ∀ (n i : Nat), i ≤ Q.length → Q.length < n + i → L85_0 n (.s0 (.mk (Ro Q) (Ro Q) i)) = some .e1
  | 0, i, h1, h2 => by omega
  | n + 1, i, h1, h2 => by
    rw [L85_0_s0]
    by_cases h : i < Q.length
    · have hw : w64 ((i : Int) + 1) = ((i + 1 : Nat) : Int) := by rw [w64_in (by omega) (by omega)]; omega
      have ih := rpl_loop Q hq hl n (i + 1) h (by omega)
      have hb := hq _ (List.getElem_mem h)
      have e : (!Q[i].c == Q[i].c) = false := by cases Q[i].c <;> rfl
      simp only [D85_0, PT.ev, PT.test, dite_eq_ite, ro_len, if_pos (show (i : Int) < (Q.length : Int) by omega), if_pos (show (0 : Int) ≤ (i : Int) by omega), Int.toNat_natCast, ro_get, List.getElem?_eq_getElem h, Option.map_some, Option.bind_some, e, Bool.false_eq_true, if_false, rpoints Q[i].p Q[i].p (by omega), eqs_refl, Bool.not_true, hw, N85_0.nx]
      exact ih
    · simp only [D85_0, PT.ev, PT.test, dite_eq_ite, ro_len, if_neg (show ¬ (i : Int) < (Q.length : Int) by omega), N85_0.nx]
theorem rpl_eq {X : List (List V)} (h : Pq X) : F85 X X = some (.a0 true) := by
  obtain ⟨Q, rfl, h1, h2⟩ := h
  have l := rpl_loop Q h1 h2 18446744073709551616 0 (by omega) (by omega)
  rw [show ((0 : Nat) : Int) = 0 from rfl] at l
  simp only [F85, D85, PT.ev, PT.test, dite_eq_ite, bne_self_eq_false, Bool.false_eq_true, if_false, l, Option.bind_some]
theorem rsame_eq (rF : K39) (hF : H39 rF) (a : Nd) (p1 : Pq a.c1) (p2 : Pq a.c19) (h1 : rF a.c18 a.c18 = some (.a0 true)) (h2 : rF a.c21 a.c21 = some (.a0 true)) : F100 rF hF a a = some (.a0 true) := by
  simp only [F100, D100, PT.ev, PT.test, dite_eq_ite, beq_self_eq_true, if_true, rpl_eq p1, rpl_eq p2, h1, h2, Bool.and_self, Bool.and_true, Option.bind_some]
theorem rnd_loop (rF : K39) (hF : H39 rF) (ns : List Nd) (hl : ns.length ≤ 4000) (h : ∀ n ∈ ns, F100 rF hF n n = some (.a0 true)) : ∀ (n i : Nat), i ≤ ns.length → ns.length < n + i → L39_0 rF hF n (.s0 (.mk (Rnd ns) (Rnd ns) i)) = some .e1
  | 0, i, h1, h2 => by omega
  | n + 1, i, h1, h2 => by
    rw [L39_0_s0]
    by_cases c : i < ns.length
    · have hw : w64 ((i : Int) + 1) = ((i + 1 : Nat) : Int) := by rw [w64_in (by omega) (by omega)]; omega
      have ih := rnd_loop rF hF ns hl h n (i + 1) c (by omega)
      simp only [D39_0, PT.ev, PT.test, dite_eq_ite, rnd_len, if_pos (show (i : Int) < (ns.length : Int) by omega), if_pos (show (0 : Int) ≤ (i : Int) by omega), Int.toNat_natCast, rnd_get, List.getElem?_eq_getElem c, Option.bind_some, h _ (List.getElem_mem c), Bool.not_true, Bool.false_eq_true, if_false, hw, N39_0.nx]
      exact ih
    · simp only [D39_0, PT.ev, PT.test, dite_eq_ite, rnd_len, if_neg (show ¬ (i : Int) < (ns.length : Int) by omega), N39_0.nx]
theorem rnds_eq (n : Nat) (ns : List Nd) (hl : ns.length ≤ 4000) (h : ∀ a ∈ ns, F100 (F39 n) (F39_ok n) a a = some (.a0 true)) : F39 (n + 1) (Rnd ns) (Rnd ns) = some (.a0 true) := by
  have l := rnd_loop (F39 n) (F39_ok n) ns hl h 18446744073709551616 0 (by omega) (by omega)
  rw [show ((0 : Nat) : Int) = 0 from rfl] at l
  rw [F39_succ]
  simp only [D39, PT.ev, PT.test, dite_eq_ite, bne_self_eq_false, Bool.false_eq_true, if_false, l, Option.bind_some]
theorem rnodes_eq : ∀ (d n : Nat) (X : List (List V)), d < n → Gnd d X → F39 n X X = some (.a0 true)
  | d, 0, X, h, _ => by omega
  | 0, n + 1, X, _, g => by
    rw [show X = Rnd [] from g]
    exact rnds_eq n [] (Nat.zero_le _) (fun a ha => absurd ha List.not_mem_nil)
  | d + 1, n + 1, X, h, ⟨ns, e, h1, h2⟩ => by
    rw [e]
    exact rnds_eq n ns h1 (fun a ha => by
      obtain ⟨p1, p2, g1, g2⟩ := h2 a ha
      exact rsame_eq _ _ a p1 p2 (rnodes_eq d n _ (by omega) g1) (rnodes_eq d n _ (by omega) g2))
end Go.Proofs.YtifalphladcdcaaGreat.H

/- SceneOrder in plain Lean. Conditions: those stated. -/
namespace Go.Proofs.YtifalphladcdcaaGreat.H
open Go Go.VM
set_option maxRecDepth 100000
theorem rcs_set (C : List (List Ly)) (ls : List Ly) : List.set (Rcs C) 0 [V.list 50 (Rl ls)] = Rcs (C.set 0 ls) := (List.map_set ..).symm
theorem so_0 (ls : List Ly) (hl : ls.length ≤ 1000) (w i o : Int) (cn : Nat) (R : List (List V)) : ∀ (n k : Nat), k ≤ ls.length → ls.length < n + k →
    L10_0 n (.s0 (.mk w k (Rl ls) ls.length k i o cn (Rl ((ls.take k).map nz)) R)) = some (.e0 (.mk w ls.length i o cn (Rl (ls.map nz)) R))
  | 0, k, h1, h2 => by omega
  | n + 1, k, h1, h2 => by
    rw [L10_0_s0]
    by_cases h : k < ls.length
    · have hw : w64 ((k : Int) + 1) = ((k + 1 : Nat) : Int) := by rw [w64_in (by omega) (by omega)]; omega
      have ih := so_0 ls hl w i o cn R n (k + 1) h (by omega)
      have la : ((ls.take k).map nz).length = k := by rw [List.length_map, List.length_take]; omega
      have hq : 0 + k ≤ (Rl ((ls.take k).map nz)).length ∧ (k + 1) * 608 ≤ 140737488355328 ∧ k + 1 ≤ 140737488355328 := by rw [rl_len, la]; omega
      have hp := pushL ((ls.take k).map nz) (nz ls[k])
      rw [la] at hp
      rw [List.take_add_one, List.getElem?_eq_getElem h, List.map_append, show (Option.toList (some ls[k])).map nz = [nz ls[k]] from rfl, ← hp] at ih
      simp only [D10_0, PT.ev, PT.test, dite_eq_ite, if_pos (show (k : Int) < (ls.length : Int) by omega), if_pos (show (0 : Int) ≤ (k : Int) by omega), Int.toNat_natCast, rl_get, List.getElem?_eq_getElem h, Option.map_some, Option.bind_some, if_pos hq, hw, N10_0.nx]
      exact ih
    · have e : k = ls.length := by omega
      subst e
      simp only [D10_0, PT.ev, PT.test, dite_eq_ite, if_neg (show ¬ (ls.length : Int) < (ls.length : Int) by omega), N10_0.nx, List.take_length]
theorem so_2 (C : List (List Ly)) (hC : 1 ≤ C.length ∧ C.length ≤ 3) (us : List Ly) (hl : us.length ≤ 4) (w i o : Int) (N : Nat → List Nd) (hb : ∀ k, (N k).length ≤ 1000)
    (hN : ∀ k (h : k < us.length), F33 i o (Rcs (C.set 0 [us[k]])) (w64 (↑(BitVec.toNat (BitVec.ofInt (IntKind.bits IntKind.i64) w &&& BitVec.ofInt (IntKind.bits IntKind.i64) 31)))) = some (.a0 (N k).length (Rnd (N k)))) : ∀ (n k : Nat), k ≤ us.length → us.length < n + k →
    L10_2 n (.s0 (.mk w (cat N k).length us.length us.length k i o C.length (Rnd (cat N k)) (Rl us) (Rcs (C.set 0 us)))) = some (.e0 (.mk w (cat N us.length).length i o C.length (Rnd (cat N us.length)) (Rcs (C.set 0 us))))
  | 0, k, h1, h2 => by omega
  | n + 1, k, h1, h2 => by
    rw [L10_2_s0]
    by_cases h : k < us.length
    · have hw : w64 ((k : Int) + 1) = ((k + 1 : Nat) : Int) := by rw [w64_in (by omega) (by omega)]; omega
      have ih := so_2 C hC us hl w i o N hb hN n (k + 1) h (by omega)
      have e1 := hN k h
      have c1 := cat_len N 1000 hb k
      have c2 := hb k
      have lc : (Rcs (C.set 0 us)).length = C.length := by rw [rcs_len, List.length_set]
      have tk : List.take C.length (Rcs (C.set 0 us)) = Rcs (C.set 0 us) := List.take_of_length_le (by rw [lc]; exact Nat.le_refl _)
      have g0 : (C.set 0 us)[0]? = some us := List.getElem?_set_self (by omega)
      have st : List.set (Rcs (C.set 0 us)) 0 [V.list 50 [(Wl us[k]).cells]] = Rcs (C.set 0 [us[k]]) := by
        have := rcs_set (C.set 0 us) [us[k]]
        rw [List.set_set] at this
        exact this
      have l1 : (Rcs (C.set 0 [us[k]])).length = C.length := by rw [rcs_len, List.length_set]
      have t1 : List.take C.length (Rcs (C.set 0 [us[k]])) = Rcs (C.set 0 [us[k]]) := List.take_of_length_le (by rw [l1]; exact Nat.le_refl _)
      have hq : ((cat N k).length + (N k).length) * 192 ≤ 140737488355328 ∧ (cat N k).length + (N k).length ≤ 140737488355328 := by omega
      rw [cat, List.length_append] at ih
      simp only [D10_2, PT.ev, PT.test, dite_eq_ite, if_pos (show (k : Int) < (us.length : Int) by omega), if_pos (show (0 : Int) ≤ (k : Int) ∧ (k : Int) < (us.length : Int) by omega), Nat.zero_add, Int.toNat_natCast, rl_get, List.getElem?_eq_getElem h, Option.map_some, Option.bind_some, lc, Nat.le_refl, true_and, if_true, tk, List.nil_append, if_pos (show C.length * 24 ≤ 140737488355328 ∧ C.length ≤ 140737488355328 by omega), if_pos (show (0 : Int) ≤ 0 ∧ (0 : Int) < (C.length : Int) by omega), rcs_get, g0, st, l1, t1, e1, rnd_len, rnd_all, rnd_app, if_pos hq, hw, N10_2.nx]
      exact ih
    · have e : k = us.length := by omega
      subst e
      simp only [D10_2, PT.ev, PT.test, dite_eq_ite, if_neg (show ¬ (us.length : Int) < (us.length : Int) by omega), N10_2.nx]
theorem sceneOrder_plain (T : List W3) (hT : (T.length : Int) ≤ 9223372036854775807) (w : Int) : F10 (Rt T) w = some (.a0 true) := by
  obtain ⟨i, o, C, e, i1, i2, i3, i4, d1, d2, g⟩ := doc_ex T hT
  have cz := g.cz d1 d2
  have ct := g.ct (by omega)
  have f := cz.fz ct (by omega)
  have h0 : 0 < C.length := by omega
  have hio : -1000 ≤ i ∧ i < o ∧ o ≤ 1000 := by omega
  have f4 := cz.four _ (List.getElem_mem h0)
  generalize hus : C[0].map nz = us at f
  have lu : us.length = C[0].length := by rw [← hus, List.length_map]
  generalize htk : (w64 (↑(BitVec.toNat (BitVec.ofInt (IntKind.bits IntKind.i64) w &&& BitVec.ofInt (IntKind.bits IntKind.i64) 31)) : Int)) = tk
  have cz1 := cz.set0 f
  have ct1 := ct.set0 f
  have Lf1 := list1 (C.set 0 us) ct1 i o 3 99999 1 (by decide) (by decide) (by decide)
  have ex : ∀ k : Nat, ∃ ns : List Nd, (k < us.length → F218 (F158 99999) (F158_ok 99999) 100000 i o (Rcs (C.set 0 us)) (Rl us) k tk F78 0 = some (.a0 ns.length (Rnd ns))) ∧ Nl 16 128 ns := fun k => by
    by_cases h : k < us.length
    · obtain ⟨ns, e1, e2⟩ := layer1 (C.set 0 us) us i o tk 0 F78 12 128 (by decide) (by decide) (F158 99999) (F158_ok 99999) Lf1 (by omega) (fun l hl => ⟨f.lq l hl, fun hk => by have := f.nest l hl hk; rw [List.length_set]; omega⟩) k 100000 (by omega) h
      exact ⟨ns, fun _ => e1, e2.inc (by omega) (Nat.le_refl _)⟩
    · exact ⟨[], fun h' => absurd h' h, Nl.nil _ _⟩
  obtain ⟨N, hN⟩ := Classical.axiomOfChoice ex
  have hb : ∀ k, (N k).length ≤ 1000 := fun k => Nat.le_trans (hN k).2.len (by decide)
  have eA := top_n C cz i o tk hio us f N hb (fun k hk => (hN k).1 hk)
  have eB : ∀ k (h : k < us.length), F33 i o (Rcs (C.set 0 [us[k]])) tk = some (.a0 (N k).length (Rnd (N k))) := fun k h => by
    have f1 := f.one (List.getElem_mem h)
    have := top_n C cz i o tk hio [us[k]] f1 (fun _ => N k) (fun _ => hb k) (fun j hj => by
      have j0 : j = 0 := by
        have : j < 1 := hj
        omega
      subst j0
      rw [← layer_one C cz ct i o tk us f k h]
      exact (hN k).1 h)
    exact this
  rw [← htk] at eB
  have l0 := so_0 C[0] (by omega) w i o C.length (Rcs C) 18446744073709551616 0 (Nat.zero_le _) (by omega)
  have l2 := so_2 C ⟨d1, d2⟩ us (by omega) w i o N hb eB 18446744073709551616 0 (Nat.zero_le _) (by omega)
  rw [hus, show ((0 : Nat) : Int) = 0 from rfl, List.take_zero, show Rl (([] : List Ly).map nz) = [] from rfl] at l0
  rw [show ((0 : Nat) : Int) = 0 from rfl, show cat N 0 = [] from rfl, show Rnd [] = [] from rfl, show ([] : List Nd).length = 0 from rfl] at l2
  have g0 : C[0]? = some C[0] := List.getElem?_eq_getElem h0
  have tkC : List.take C.length (Rcs (C.set 0 us)) = Rcs (C.set 0 us) := List.take_of_length_le (by rw [rcs_len, List.length_set]; exact Nat.le_refl _)
  have lc : (Rcs (C.set 0 us)).length = C.length := by rw [rcs_len, List.length_set]
  have tu : List.take us.length (Rl us) = Rl us := List.take_of_length_le (by rw [rl_len]; exact Nat.le_refl _)
  have cn := cat_nl N 16 128 (fun k => (hN k).2) us.length
  have eq := rnodes_eq 17 100000 (Rnd (cat N us.length)) (by decide) (cn.gn (by have : us.length * 128 ≤ 4 * 128 := Nat.mul_le_mul_right _ (by omega); omega))
  simp only [F10, D10, PT.ev, PT.test, dite_eq_ite, e, Option.bind_some, if_pos (show (0 : Int) ≤ 0 ∧ (0 : Int) < (C.length : Int) by omega), rcs_get, g0, Option.map_some, rl_len, l0]
  rw [← lu]
  simp only [PT.ev, PT.test, dite_eq_ite, Nat.zero_add, rl_len, Nat.le_refl, if_true, rcs_set, tu, l2, Option.bind_some, lc, tkC, htk, eA, rnd_len, rnd_all, eq, known22]
end Go.Proofs.YtifalphladcdcaaGreat.H
