import Derived.Test.YtifalphladcdcaaGreatHueN
set_option linter.unusedVariables false
set_option linter.unusedSimpArgs false
/- Lines that are drawn along a shape: the program maps each outline, the document all of them; the same. Conditions: those stated. -/
namespace Go.Proofs.YtifalphladcdcaaGreat.H
open Go Go.VM
set_option maxRecDepth 100000
theorem rkey (ks : List Ky) (hl : (ks.length : Int) < 4611686018427387904) (t d : Int) : F143 (Rn ks) t d = some (.a0 (atN ks t d)) := by
  simp only [F143, D143, PT.ev, PT.test, dite_eq_ite, Ws, rat ks hl, Option.bind_some]
theorem stk_loop (s : Shp) (M : Mt) (gw : (s.wd.length : Int) < 4611686018427387904) (t : Int) {ds : List Po} (hd : ∀ x ∈ ds, x.p.length ≤ 2000) (hn : ds.length ≤ 200) (k1 : Nat) (z2 z3 y10 y11 y12 y13 y14 : Int) (l15 : List (List V)) (w1 : Int) (k2 k4 : Nat) (w5 w6 : Int) (l12 l14 : List (List V)) : ∀ (n i : Nat) (acc : List Po), i ≤ ds.length → ds.length < n + i → acc.length + (ds.length - i) * 6002 ≤ 2000000 → (∀ x ∈ acc, Pg x) →
    ∃ O : List Po, L140_2 n (.s0 (.mk (atN s.wd t 0) k1 z2 z3 ds.length ds.length i (Ws s) M acc.length y10 y11 y12 y13 y14 l15 (Ro ds) (Ro (acc.map (mapo M))))) = some (.e0 (.mk (atN s.wd t 0) k1 z2 z3 (Ws s) M O.length y10 y11 y12 y13 y14 l15 (Ro (O.map (mapo M))))) ∧
      L88_2 n (.s0 (.mk t w1 k2 acc.length k4 w5 w6 ds.length ds.length i (Ws s) M l12 (Ro acc) l14 (Ro ds))) = some (.e0 (.mk t w1 k2 O.length k4 w5 w6 (Ws s) M l12 (Ro O) l14)) ∧ (∀ x ∈ O, Pg x) ∧ O.length ≤ acc.length + (ds.length - i) * 6002
  | 0, i, acc, h1, h2, _, _ => by omega
  | n + 1, i, acc, h1, h2, h3, h4 => by
    rw [L140_2_s0, L88_2_s0]
    by_cases h : i < ds.length
    · have hdi := hd ds[i] (List.getElem_mem h)
      have hc : (i : Int) < (ds.length : Int) := by omega
      have hc2 : (0 : Int) ≤ (i : Int) ∧ (i : Int) < (ds.length : Int) := by omega
      have hw : w64 ((i : Int) + 1) = ((i + 1 : Nat) : Int) := by rw [w64_in (by omega) (by omega)]; omega
      obtain ⟨Q, q1, q2, q3, q4⟩ := stroke2 ds[i].c (l := ds[i].p) (by omega) (atN s.wd t 0) s.cap
      obtain ⟨b1, b2⟩ := lines_ex M Q (fun q hq => by have := pg_len (q3 q hq); omega) (by omega)
      obtain ⟨O, o1, o2, o3, o4⟩ := stk_loop s M gw t hd hn k1 z2 z3 y10 y11 y12 y13 y14 l15 w1 k2 k4 w5 w6 l12 l14 n (i + 1) (acc ++ Q) (by omega) (by omega) (by rw [List.length_append]; omega) (fun x hx => by
        rw [List.mem_append] at hx
        rcases hx with hx | hx
        · exact h4 x hx
        · exact q3 x hx)
      rw [List.length_append] at o1 o2 o4
      have z0 : ∀ n : Nat, 0 + n ≤ n := fun n => by omega
      have tm : List.take Q.length (Ro (Q.map (mapo M))) = Ro (Q.map (mapo M)) := List.take_of_length_le (by rw [ro_len, List.length_map]; exact Nat.le_refl _)
      have ta : List.take acc.length (Ro (acc.map (mapo M))) = Ro (acc.map (mapo M)) := List.take_of_length_le (by rw [ro_len, List.length_map]; exact Nat.le_refl _)
      have hr : (acc.length + Q.length) * 32 ≤ 140737488355328 ∧ acc.length + Q.length ≤ 140737488355328 := by omega
      simp only [D140_2, D88_2, PT.ev, PT.test, dite_eq_ite, Ws, if_pos hc, if_pos hc2, Int.toNat_natCast, Nat.zero_add, ro_get, List.getElem?_eq_getElem h, Option.map_some, Option.bind_some, rkey s.wd gw, q1, q2, ro_len, List.length_map, Nat.le_refl, if_true, ro_all, b1, b2, tm, ta, true_and]
      simp only [if_pos hr, ro_app, ← List.map_append, hw, N140_2.nx, N88_2.nx]
      exact ⟨O, o1, o2, o3, by omega⟩
    · simp only [D140_2, D88_2, PT.ev, PT.test, dite_eq_ite, Ws, if_neg (show ¬ (i : Int) < (ds.length : Int) by omega), N140_2.nx, N88_2.nx]
      exact ⟨acc, rfl, rfl, h4, by omega⟩
theorem drw_loop (s : Shp) (M : Mt) (gw : (s.wd.length : Int) < 4611686018427387904) (gd : (s.ds.length : Int) < 4611686018427387904) (t : Int) {ps : List Po} (hp : ∀ x ∈ ps, x.p.length ≤ 1900) (hn : ps.length ≤ 1) (y7 y8 y9 y10 y11 w1 : Int) (k2 : Nat) (l9 : List (List V)) : ∀ (n i : Nat) (acc : List Po), i ≤ ps.length → ps.length < n + i → acc.length + (ps.length - i) * 768256 ≤ 768256 → (∀ x ∈ acc, Pg x) →
    ∃ O : List Po, L140_0 n (.s0 (.mk (atN s.wd t 0) ps.length ps.length i (Ws s) M acc.length y7 y8 y9 y10 y11 (Ro ps) (Ro (acc.map (mapo M))))) = some (.e0 (.mk O.length y7 y8 y9 y10 y11 (Ro (O.map (mapo M))))) ∧
      L88_0 n (.s0 (.mk t w1 k2 acc.length ps.length ps.length i (Ws s) M l9 (Ro acc) (Ro ps))) = some (.e0 (.mk w1 k2 O.length (Ws s) M l9 (Ro O))) ∧ (∀ x ∈ O, Pg x) ∧ O.length ≤ 768256
  | 0, i, acc, h1, h2, _, _ => by omega
  | n + 1, i, acc, h1, h2, h3, h4 => by
    rw [L140_0_s0, L88_0_s0]
    by_cases h : i < ps.length
    · have hpi := hp ps[i] (List.getElem_mem h)
      have hc : (i : Int) < (ps.length : Int) := by omega
      have hc2 : (0 : Int) ≤ (i : Int) ∧ (i : Int) < (ps.length : Int) := by omega
      have hw : w64 ((i : Int) + 1) = ((i + 1 : Nat) : Int) := by rw [w64_in (by omega) (by omega)]; omega
      obtain ⟨ds, d1, d2, d3, d4⟩ := dash2 ps[i].c (p := ps[i].p) (by omega) s.ds gd
      obtain ⟨O1, o1, o2, o3, o4⟩ := stk_loop s M gw t (ds := ds) (fun x hx => by have := d3 x hx; omega) (by omega) ps.length ps.length i y7 y8 y9 y10 y11 (Ro ps) w1 k2 ps.length ps.length i l9 (Ro ps) 18446744073709551616 0 acc (by omega) (by omega) (by omega) h4
      rw [show ((0 : Nat) : Int) = 0 from rfl] at o1 o2
      obtain ⟨O, p1, p2, p3, p4⟩ := drw_loop s M gw gd t hp hn y7 y8 y9 y10 y11 w1 k2 l9 n (i + 1) O1 (by omega) (by omega) (by omega) o3
      simp only [D140_0, D88_0, PT.ev, PT.test, dite_eq_ite, Ws, if_pos hc, if_pos hc2, Int.toNat_natCast, Nat.zero_add, ro_get, List.getElem?_eq_getElem h, Option.map_some, Option.bind_some, d1, d2, o1, o2, hw, N140_0.nx, N88_0.nx]
      exact ⟨O, p1, p2, p3, p4⟩
    · simp only [D140_0, D88_0, PT.ev, PT.test, dite_eq_ite, Ws, if_neg (show ¬ (i : Int) < (ps.length : Int) by omega), N140_0.nx, N88_0.nx]
      exact ⟨acc, rfl, rfl, h4, by omega⟩
end Go.Proofs.YtifalphladcdcaaGreat.H

/- What is painted of a shape: the program's and the document's. Conditions: those stated. -/
namespace Go.Proofs.YtifalphladcdcaaGreat.H
open Go Go.VM
set_option maxRecDepth 100000
abbrev It := W85
abbrev Ri (xs : List It) : List (List V) := xs.map W85.cells
/-- An item's lines. -/
def Pi (x : It) : Prop := ∃ Q : List Po, x.c0 = Ro Q ∧ (∀ q ∈ Q, q.p.length ≤ 2000) ∧ Q.length ≤ 1000000
theorem t1 {α : Type} (x : α) : List.take 1 [x] = [x] := rfl
theorem items_both (s : Shp) (g : Gl s) (gw : (s.wd.length : Int) < 4611686018427387904) (gd : (s.ds.length : Int) < 4611686018427387904) (gc : (s.cs.length : Int) < 4611686018427387904) (gf : (s.fr.length : Int) < 4611686018427387904) (gt : (s.to_.length : Int) < 4611686018427387904) (t : Int) (M : Mt) (a : Int) :
    ∃ xs : List It, F75 (Ws s) t M a = some (.a0 xs.length (Ri xs)) ∧ F88 (Ws s) t M a = some (.a0 xs.length (Ri xs)) ∧ xs.length ≤ 2 ∧ ∀ x ∈ xs, Pi x := by
  obtain ⟨c, qs, p1, p2, p3⟩ := at_both s g t
  obtain ⟨fs, f1, f2, f3⟩ := flat_ex c qs (by omega)
  have z0 : ∀ n : Nat, 0 + n ≤ n := fun n => by omega
  simp only [F75, F88, D75, D88, bnd_def, PT.ev, PT.test, dite_eq_ite, p1, p2, Option.bind_some, rp_len, Nat.zero_add, Nat.le_refl, if_true, rp_all, f1, f2]
  by_cases h0 : ((fs.length : Int) == 0) = true
  · simp only [if_pos h0]
    exact ⟨[], rfl, rfl, by simp, by simp⟩
  · obtain ⟨b1, b2⟩ := lines_ex M [(⟨c, fs⟩ : Po)] (fun q hq => by rw [List.mem_singleton.1 hq]; show fs.length ≤ _; omega) (by simp)
    obtain ⟨ps, a1, a2, a3, a4⟩ := trim2 (ps := [(⟨c, fs⟩ : Po)]) (fun q hq => by rw [List.mem_singleton.1 hq]; show fs.length ≤ _; omega) (by simp) (atN s.fr t 0) (atN s.to_ t 65536)
    have hp1 := a4 1000 (fun q hq => by rw [List.mem_singleton.1 hq]; exact f3)
    rw [show Ro [(⟨c, fs⟩ : Po)] = [[vb c, V.list 2 (Rp fs)]] from rfl] at b1 b2 a1 a2
    replace b1 : F147 M [[vb c, V.list 2 (Rp fs)]] = some (.a0 1 (Ro [mapo M ⟨c, fs⟩])) := b1
    replace b2 : F148 M [[vb c, V.list 2 (Rp fs)]] = some (.a0 1 (Ro [mapo M ⟨c, fs⟩])) := b2
    have hR1 : (Ro [mapo M ⟨c, fs⟩]).length = 1 := rfl
    have hR2 : List.take 1 (Ro [mapo M ⟨c, fs⟩]) = Ro [mapo M ⟨c, fs⟩] := rfl
    generalize hR : Ro [mapo M ⟨c, fs⟩] = R at *
    have hps : ps.length ≤ 1 := a3
    obtain ⟨r', g', b', a', c1, c2⟩ := color_ex s.cs gc t s.p1 s.p2 s.p3 s.p4
    obtain ⟨m1, m2, m3, m4, m5, hm⟩ := pmap_ex M s.p9 s.p10 s.p11 s.p12 s.p13
    have m9 := fun z1 z2 z3 z4 z5 z6 z7 z8 z9 => (hm z1 z2 z3 z4 z5 z6 z7 z8 z9).1
    have m8 := fun z1 z2 z3 z4 z5 z6 z7 z8 z9 => (hm z1 z2 z3 z4 z5 z6 z7 z8 z9).2
    obtain ⟨O, o1, o2, o3, o4⟩ := drw_loop s M gw gd t (ps := ps) (fun x hx => by have := hp1 x hx; omega) hps s.s0 s.s1 s.s2 s.s3 a a 0 [] 18446744073709551616 0 [] (by omega) (by omega) (by simp only [List.length_nil]; omega) (by simp)
    obtain ⟨O', o1', o2', o3', o4'⟩ := drw_loop s M gw gd t (ps := ps) (fun x hx => by have := hp1 x hx; omega) hps s.s0 s.s1 s.s2 s.s3 a a 1 [[V.list 2 R, i64 s.rule, i64 s.p0, u8 r', u8 g', u8 b', u8 a', u8 s.p5, u8 s.p6, u8 s.p7, u8 s.p8, i64 m1, i64 m2, i64 m3, i64 m4, i64 m5, i64 a]] 18446744073709551616 0 [] (by omega) (by omega) (by simp only [List.length_nil]; omega) (by simp)
    rw [show ((0 : Nat) : Int) = 0 from rfl, show Ro [] = [] from rfl, show ([] : List Po).length = 0 from rfl] at o2 o2'
    rw [show ((0 : Nat) : Int) = 0 from rfl, List.map_nil, show Ro [] = [] from rfl, show ([] : List Po).length = 0 from rfl] at o1 o1'
    obtain ⟨d1, d2⟩ := lines_ex M O (fun q hq => by have := pg_len (o3 q hq); omega) (by omega)
    obtain ⟨d1', d2'⟩ := lines_ex M O' (fun q hq => by have := pg_len (o3' q hq); omega) (by omega)
    let x1 : It := ⟨R, s.rule, s.p0, r', g', b', a', s.p5, s.p6, s.p7, s.p8, m1, m2, m3, m4, m5, a⟩
    have P1 : Pi x1 := ⟨[mapo M ⟨c, fs⟩], hR.symm, fun q hq => by rw [List.mem_singleton.1 hq]; show (fs.map (apm M)).length ≤ _; rw [List.length_map]; omega, by simp⟩
    have P2 : ∀ (O : List Po), (∀ q ∈ O, Pg q) → O.length ≤ 768256 → Pi (⟨Ro (O.map (mapo M)), 0, 0, s.s0, s.s1, s.s2, s.s3, s.s0, s.s1, s.s2, s.s3, 0, 0, 0, 0, 0, a⟩ : It) := fun O h1 h2 => ⟨O.map (mapo M), rfl, fun q hq => by
      obtain ⟨q', h3, rfl⟩ := List.mem_map.1 hq
      show (q'.p.map (apm M)).length ≤ _
      rw [List.length_map]
      have := pg_len (h1 q' h3)
      omega, by rw [List.length_map]; omega⟩
    have tm : ∀ O : List Po, List.take O.length (Ro (O.map (mapo M))) = Ro (O.map (mapo M)) := fun O => List.take_of_length_le (by rw [ro_len, List.length_map]; exact Nat.le_refl _)
    simp only [if_neg h0, J75_c24, D75_c24, J88_c27, D88_c27, PT.ev, PT.test, dite_eq_ite, Ws]
    by_cases hf : s.f = true
    · simp only [if_pos hf, F139, D139, PT.ev, PT.test, dite_eq_ite, Ws, bnd_def, c1, c2, b1, b2, m9, m8, Option.bind_some, t1, hR1, hR2, List.length_cons, List.length_nil, Nat.zero_add, Nat.le_refl, if_true, rp_len, rp_all, ro_len]
      by_cases hst : s.st = true
      · have hst' : (!s.st) = false := by rw [hst]; rfl
        simp only [if_pos hst, hst', Bool.false_eq_true, if_false, F140, D140, PT.ev, PT.test, dite_eq_ite, Ws, qat s.wd gw, qat s.fr gf, qat s.to_ gt, rkey s.fr gf, rkey s.to_ gt, a1, a2, o1', o2', Option.bind_some]
        by_cases hO : (O'.length : Int) > 0
        · simp only [if_pos hO, ro_len, List.length_map, Nat.zero_add, Nat.le_refl, if_true, ro_all, d2', Option.bind_some, tm, List.length_cons, List.length_nil, t1]
          exact ⟨[x1, ⟨Ro (O'.map (mapo M)), 0, 0, s.s0, s.s1, s.s2, s.s3, s.s0, s.s1, s.s2, s.s3, 0, 0, 0, 0, 0, a⟩], rfl, rfl, by simp, fun x hx => by
            simp only [List.mem_cons, List.not_mem_nil, or_false] at hx
            rcases hx with rfl | rfl
            · exact P1
            · exact P2 O' o3' o4'⟩
        · simp only [if_neg hO]
          exact ⟨[x1], rfl, rfl, by simp, fun x hx => by rw [List.mem_singleton.1 hx]; exact P1⟩
      · have hst' : (!s.st) = true := by rw [Bool.eq_false_iff.2 hst]; rfl
        simp only [if_neg hst, hst', if_true, Option.bind_some]
        exact ⟨[x1], rfl, rfl, by simp, fun x hx => by rw [List.mem_singleton.1 hx]; exact P1⟩
    · simp only [if_neg hf, Option.bind_some]
      by_cases hst : s.st = true
      · have hst' : (!s.st) = false := by rw [hst]; rfl
        simp only [if_pos hst, hst', Bool.false_eq_true, if_false, F140, D140, PT.ev, PT.test, dite_eq_ite, Ws, qat s.wd gw, qat s.fr gf, qat s.to_ gt, rkey s.fr gf, rkey s.to_ gt, t1, List.length_cons, List.length_nil, Nat.zero_add, Nat.le_refl, if_true, rp_len, rp_all, a1, a2, o1, o2, Option.bind_some]
        by_cases hO : (O.length : Int) > 0
        · simp only [if_pos hO, ro_len, List.length_map, Nat.zero_add, Nat.le_refl, if_true, ro_all, d2, Option.bind_some, tm, List.length_cons, List.length_nil, t1]
          exact ⟨[⟨Ro (O.map (mapo M)), 0, 0, s.s0, s.s1, s.s2, s.s3, s.s0, s.s1, s.s2, s.s3, 0, 0, 0, 0, 0, a⟩], rfl, rfl, by simp, fun x hx => by rw [List.mem_singleton.1 hx]; exact P2 O o3 o4⟩
        · simp only [if_neg hO]
          exact ⟨[], rfl, rfl, by simp, by simp⟩
      · have hst' : (!s.st) = true := by rw [Bool.eq_false_iff.2 hst]; rfl
        simp only [if_neg hst, hst', PT.ev, PT.test, dite_eq_ite, Ws, if_true, Option.bind_some]
        exact ⟨[], rfl, rfl, by simp, by simp⟩
end Go.Proofs.YtifalphladcdcaaGreat.H

/- Items compared by the law. Conditions: those stated. -/
namespace Go.Proofs.YtifalphladcdcaaGreat.H
open Go Go.VM
set_option maxRecDepth 100000
theorem polys_loop (Q : List Po) (hq : ∀ q ∈ Q, (q.p.length : Int) < 4611686018427387904) (hl : Q.length ≤ 1000000) : ∀ (n i : Nat), i ≤ Q.length → Q.length < n + i → L85_0 n (.s0 (.mk (Ro Q) (Ro Q) i)) = some .e1
  | 0, i, h1, h2 => by omega
  | n + 1, i, h1, h2 => by
    rw [L85_0_s0]
    by_cases h : i < Q.length
    · have hw : w64 ((i : Int) + 1) = ((i + 1 : Nat) : Int) := by rw [w64_in (by omega) (by omega)]; omega
      have ih := polys_loop Q hq hl n (i + 1) h (by omega)
      have e : (!Q[i].c == Q[i].c) = false := by cases Q[i].c <;> rfl
      simp only [D85_0, PT.ev, PT.test, dite_eq_ite, Ws, ro_len, if_pos (show (i : Int) < (Q.length : Int) by omega), if_pos (show (0 : Int) ≤ (i : Int) by omega), Int.toNat_natCast, ro_get, List.getElem?_eq_getElem h, Option.map_some, Option.bind_some, e, Bool.false_eq_true, if_false, rpoints Q[i].p Q[i].p (hq _ (List.getElem_mem h)), eqs_refl, Bool.not_true, hw, N85_0.nx]
      exact ih
    · simp only [D85_0, PT.ev, PT.test, dite_eq_ite, Ws, ro_len, if_neg (show ¬ (i : Int) < (Q.length : Int) by omega), N85_0.nx]
theorem polys_same (Q : List Po) (hq : ∀ q ∈ Q, (q.p.length : Int) < 4611686018427387904) (hl : Q.length ≤ 1000000) : F85 (Ro Q) (Ro Q) = some (.a0 true) := by
  have h := polys_loop Q hq hl 18446744073709551616 0 (by omega) (by omega)
  rw [show ((0 : Nat) : Int) = 0 from rfl] at h
  simp only [F85, D85, PT.ev, PT.test, dite_eq_ite, Ws, bne_self_eq_false, Bool.false_eq_true, if_false, h, Option.bind_some]
theorem item_same (x : It) (hx : Pi x) : F89 x x = some (.a0 true) := by
  obtain ⟨Q, e, h1, h2⟩ := hx
  have p := polys_same Q (fun q hq => by have := h1 q hq; omega) h2
  rw [← e] at p
  simp only [F89, D89, PT.ev, PT.test, dite_eq_ite, Ws, p, Option.bind_some, beq_self_eq_true, Bool.and_self, if_true]
theorem ri_get (xs : List It) (i : Nat) : ((Ri xs)[i]?).bind W85.dec = xs[i]? := by
  simp only [Ri, List.getElem?_map]
  cases xs[i]? with
  | none => rfl
  | some x => exact W85.dec_cells x
theorem items_loop (xs : List It) (hx : ∀ x ∈ xs, Pi x) (hl : xs.length ≤ 2) : ∀ (n i : Nat), i ≤ xs.length → xs.length < n + i → L30_0 n (.s0 (.mk xs.length xs.length xs.length i (Ri xs) (Ri xs))) = some .e1
  | 0, i, h1, h2 => by omega
  | n + 1, i, h1, h2 => by
    rw [L30_0_s0]
    by_cases h : i < xs.length
    · have hw : w64 ((i : Int) + 1) = ((i + 1 : Nat) : Int) := by rw [w64_in (by omega) (by omega)]; omega
      have ih := items_loop xs hx hl n (i + 1) h (by omega)
      have hc : (0 : Int) ≤ (i : Int) ∧ (i : Int) < (xs.length : Int) := by omega
      simp only [D30_0, PT.ev, PT.test, dite_eq_ite, Ws, if_pos (show (i : Int) < (xs.length : Int) by omega), if_pos hc, Nat.zero_add, Int.toNat_natCast, ri_get, List.getElem?_eq_getElem h, Option.bind_some, item_same _ (hx _ (List.getElem_mem h)), Bool.not_true, Bool.false_eq_true, if_false, hw, N30_0.nx]
      exact ih
    · simp only [D30_0, PT.ev, PT.test, dite_eq_ite, Ws, if_neg (show ¬ (i : Int) < (xs.length : Int) by omega), N30_0.nx]
theorem items_true (s : Shp) (g : Gl s) (gw : (s.wd.length : Int) < 4611686018427387904) (gd : (s.ds.length : Int) < 4611686018427387904) (gc : (s.cs.length : Int) < 4611686018427387904) (gf : (s.fr.length : Int) < 4611686018427387904) (gt : (s.to_.length : Int) < 4611686018427387904) (t : Int) (M : Mt) (a : Int) : F30 (Ws s) t M a = some (.a0 true) := by
  obtain ⟨xs, e1, e2, e3, e4⟩ := items_both s g gw gd gc gf gt t M a
  have h := items_loop xs e4 e3 18446744073709551616 0 (by omega) (by omega)
  rw [show ((0 : Nat) : Int) = 0 from rfl] at h
  simp only [F30, D30, PT.ev, PT.test, dite_eq_ite, e1, e2, Option.bind_some, bne_self_eq_false, Bool.false_eq_true, if_false, h]
end Go.Proofs.YtifalphladcdcaaGreat.H

/- The document's maps, opacities, times of a layer: the program's. Conditions: those stated. -/
namespace Go.Proofs.YtifalphladcdcaaGreat.H
open Go Go.VM
set_option maxRecDepth 100000
theorem rtick (l : Ly) (t : Int) : F142 (Wl l) t = tickv l t := by
  simp only [F142, D142, PT.evT, PT.test, dite_eq_ite, bnd_def, rhold, radd, tickv]
theorem rseen (l : Ly) (t : Int) : F81 (Wl l) t = seenv l t := by
  simp only [F81, D81, PT.evT, PT.test, dite_eq_ite, seenv]
  by_cases h : l.inn ≤ t <;> simp [h]
theorem ropac (l : Ly) (s : Sm l) (t : Int) : F83 (Wl l) t = some (.a0 (opacv l t)) := by
  simp only [F83, D83, PT.ev, PT.test, dite_eq_ite, bnd_def, rtick, rkey _ s.op, rclamp, Option.bind_some, opacv]
theorem rinner (l : Ly) (s : Sm l) (t : Int) : F84 (Wl l) t = some (.a0 (innerv l t)) := by
  simp only [F84, D84, PT.ev, PT.test, dite_eq_ite, bnd_def, rtick, rkey _ s.re, Option.bind_some, innerv]
/-! ### Masks -/
theorem mask_ex (l : Ly) (hm : (l.mp.length : Int) < 4611686018427387904) (M : Mt) : ∃ Q : List Po, F86 (Wl l) M = some (.a0 Q.length (Ro Q)) ∧ F87 (Wl l) M = some (.a0 Q.length (Ro Q)) ∧ (∀ q ∈ Q, (q.p.length : Int) < 4611686018427387904) ∧ Q.length ≤ 1 := by
  obtain ⟨fs, f1, f2, f3⟩ := flat_ex l.mc l.mp hm
  obtain ⟨b1, b2⟩ := lines_ex M [(⟨l.mc, fs⟩ : Po)] (fun q hq => by rw [List.mem_singleton.1 hq]; show fs.length ≤ _; omega) (by simp)
  rw [show Ro [(⟨l.mc, fs⟩ : Po)] = [[vb l.mc, V.list 2 (Rp fs)]] from rfl] at b1 b2
  simp only [F86, F87, D86, D87, PT.ev, PT.test, dite_eq_ite, bnd_def, qempty, rp_len, f1, f2, Option.bind_some, Nat.zero_add, Nat.le_refl, if_true, rp_all, b1, b2]
  by_cases h0 : l.mp.length = 0
  · have e : ((l.mp.length : Int) == 0) = true := by rw [beq_iff_eq]; omega
    simp only [decide_eq_true h0, e, if_true]
    exact ⟨[], rfl, rfl, by simp, by simp⟩
  · have e : ((l.mp.length : Int) == 0) = false := by rw [beq_eq_false_iff_ne]; omega
    simp only [decide_eq_false h0, e, Bool.false_eq_true, if_false]
    exact ⟨[mapo M ⟨l.mc, fs⟩], rfl, rfl, fun q hq => by rw [List.mem_singleton.1 hq]; show ((fs.map (apm M)).length : Int) < _; rw [List.length_map]; omega, by simp⟩
theorem rmade (x y ax ay sx sy tu : Int) : F144 x y ax ay sx sy tu = some (.a0 (madev x y ax ay sx sy tu)) := by
  simp only [F144, D144, PT.ev, PT.test, dite_eq_ite, bnd_def, rcos, rsin, rmul, rtwo3, radd, Option.bind_some, add_zero _ (two_hd _ _ _ _), madev]
theorem rown (l : Ly) (s : Sm l) (t : Int) : F82 (Wl l) t = some (.a0 (ownv l t)) := by
  simp only [F82, D82, PT.ev, PT.test, dite_eq_ite, bnd_def, rtick, rkey _ s.x, rkey _ s.y, rkey _ s.ax, rkey _ s.ay, rkey _ s.sx, rkey _ s.sy, rkey _ s.tu, rmade, Option.bind_some, ownv]
/-! ### Chains -/
theorem there_iff (ls : List Ly) (p : Int) : there ls p = true ↔ p ≥ 0 ∧ p < (ls.length : Int) := by simp only [there, Bool.and_eq_true, decide_eq_true_eq]
theorem rchain_loop (ls : List Ly) (hs : ∀ l ∈ ls, Sm l) (t : Int) (I : Mt) : ∀ (n : Nat) (acc : List Mt) (p : Int), acc.length ≤ 17 → 17 < n + acc.length →
    L80_0 n (.s0 (.mk p t acc.length (Rl ls) I (Rm acc))) = some (.e0 (.mk (acc ++ (anc ls (17 - acc.length) p).map fun l => ownv l t).length I (Rm (acc ++ (anc ls (17 - acc.length) p).map fun l => ownv l t))))
  | 0, acc, p, h1, h2 => by omega
  | n + 1, acc, p, h1, h2 => by
    rw [L80_0_s0]
    have stop : there ls p ≠ true → (anc ls (17 - acc.length) p).map (fun l => ownv l t) = [] := fun hp => by
      cases 17 - acc.length with
      | zero => rfl
      | succ k => rw [anc, if_neg hp]; rfl
    simp only [D80_0, J80_r3, D80_r3, PT.ev, PT.test, dite_eq_ite, rl_len, Option.bind_some]
    by_cases q1 : p ≥ 0
    · by_cases q2 : p < (ls.length : Int)
      · have hp := (there_iff ls p).2 ⟨q1, q2⟩
        by_cases hk : (acc.length : Int) ≤ 16
        · obtain ⟨p0, p1⟩ := there_lt hp
          have hg : ls[p.toNat]? = some ls[p.toNat] := List.getElem?_eq_getElem p1
          have hq : 0 + acc.length ≤ (Rm acc).length ∧ (acc.length + 1) * 48 ≤ 140737488355328 ∧ acc.length + 1 ≤ 140737488355328 := by rw [rm_len]; omega
          have hlen : (acc ++ [ownv ls[p.toNat] t]).length = acc.length + 1 := by rw [List.length_append, List.length_singleton]
          simp only [if_pos q1, if_pos q2, decide_eq_true hk, Option.bind_some, PT.ev, PT.test, dite_eq_ite, if_true, rl_get, hg, Option.map_some, rown _ (hs _ (List.getElem_mem p1)), if_pos hq, N80_0.nx, pushM]
          try simp only [if_pos p0]
          have ih := rchain_loop ls hs t I n (acc ++ [ownv ls[p.toNat] t]) ls[p.toNat].par (by rw [hlen]; omega) (by rw [hlen]; omega)
          rw [hlen] at ih
          rw [ih]
          have e : 17 - acc.length = (17 - (acc.length + 1)) + 1 := by omega
          rw [e, anc, if_pos hp, hg]
          simp only [List.map_cons, List.append_assoc, List.singleton_append]
        · simp only [if_pos q1, if_pos q2, decide_eq_false hk, Option.bind_some, PT.ev, PT.test, dite_eq_ite, Bool.false_eq_true, if_false, N80_0.nx]
          rw [show 17 - acc.length = 0 by omega, anc, List.map_nil, List.append_nil]
      · simp only [if_pos q1, if_neg q2, Option.bind_some, PT.ev, PT.test, dite_eq_ite, Bool.false_eq_true, if_false, N80_0.nx]
        rw [stop (fun h => q2 ((there_iff ls p).1 h).2), List.append_nil]
    · simp only [if_neg q1, Option.bind_some, PT.ev, PT.test, dite_eq_ite, Bool.false_eq_true, if_false, N80_0.nx]
      rw [stop (fun h => q1 ((there_iff ls p).1 h).1), List.append_nil]
theorem rfold_loop (R : List Mt) (hR : R.length ≤ 18) : ∀ (n i : Nat), i < R.length → i < n →
    L80_2 n (.s0 (.mk R.length ((i : Int) - 1) (fm (R.drop i)) (Rm R))) = some (.e0 (.mk (fm R)))
  | 0, i, _, h => by omega
  | n + 1, i, hi, hn => by
    rw [L80_2_s0]
    cases i with
    | zero =>
      simp only [D80_2, PT.ev, PT.test, dite_eq_ite, if_neg (show ¬ (((0 : Nat) : Int) - 1 ≥ 0) by omega), N80_2.nx, List.drop_zero]
    | succ i =>
      have e : ((i + 1 : Nat) : Int) - 1 = (i : Int) := by omega
      have hw : w64 ((i : Int) - 1) = (i : Int) - 1 := w64_in (by omega) (by omega)
      have hw0 : w64 ((R.length : Int) - 1) = (R.length : Int) - 1 := w64_in (by omega) (by omega)
      have hne : ((i : Int) == (R.length : Int) - 1) = false := by rw [beq_eq_false_iff_ne]; omega
      have hg : R[i]? = some R[i] := List.getElem?_eq_getElem (by omega)
      have hf : fm (R.drop i) = aftv (fm (R.drop (i + 1))) R[i] := by
        have h1 : R.drop i = R[i] :: R.drop (i + 1) := List.drop_eq_getElem_cons (by omega)
        have h2 : R.drop (i + 1) = R[i + 1] :: R.drop (i + 1 + 1) := List.drop_eq_getElem_cons (by omega)
        rw [h1, h2, fm]
      have ih := rfold_loop R hR n i (by omega) (by omega)
      rw [hf] at ih
      simp only [D80_2, PT.ev, PT.test, dite_eq_ite, e, hw0, hne, Bool.false_eq_true, if_false, if_pos (show (i : Int) ≥ 0 by omega), if_pos (show 0 ≤ (i : Int) ∧ (i : Int) < (R.length : Int) by omega), Int.toNat_natCast, Nat.zero_add, rm_get, hg, Option.bind_some, rafter, N80_2.nx, hw]
      exact ih
theorem rchain (ls : List Ly) (hs : ∀ l ∈ ls, Sm l) (k t : Int) : F80 (Rl ls) k t = some (.a0 (chainv ls k t)) := by
  have h0 := rchain_loop ls hs t ⟨65536, 0, 0, 65536, 0, 0⟩ 18446744073709551616 [] k (by simp) (by simp)
  rw [show Rm [] = [] from rfl, show ([] : List Mt).length = 0 from rfl, List.nil_append] at h0
  have hn : ((anc ls 17 k).map (fun l => ownv l t)).length ≤ 17 := by rw [List.length_map]; exact anc_len ls 17 k
  have hc : fm ((anc ls 17 k).map fun l => ownv l t) = chainv ls k t := rfl
  rw [show 17 - 0 = 17 from rfl] at h0
  generalize (anc ls 17 k).map (fun l => ownv l t) = R at *
  have h2 : L80_2 18446744073709551616 (.s0 (.mk R.length ((R.length : Int) - 1) ⟨65536, 0, 0, 65536, 0, 0⟩ (Rm R))) = some (.e0 (.mk (fm R))) := by
    by_cases hz : R.length = 0
    · have : R = [] := List.eq_nil_of_length_eq_zero hz
      subst this
      rw [L80_2_s0]
      rfl
    · have hw : w64 ((R.length : Int) - 1 - 1) = ((R.length - 1 : Nat) : Int) - 1 := by rw [w64_in (by omega) (by omega)]; omega
      have hw0 : w64 ((R.length : Int) - 1) = (R.length : Int) - 1 := w64_in (by omega) (by omega)
      have ht : Int.toNat ((R.length : Int) - 1) = R.length - 1 := by omega
      have hg2 : R[R.length - 1]? = some R[R.length - 1] := List.getElem?_eq_getElem (by omega)
      have hd1 : fm (R.drop (R.length - 1)) = R[R.length - 1] := by
        rw [List.drop_eq_getElem_cons (show R.length - 1 < R.length by omega), List.drop_eq_nil_of_le (by omega)]; rfl
      have hf := rfold_loop R (by omega) 18446744073709551615 (R.length - 1) (by omega) (by omega)
      rw [hd1] at hf
      rw [show (18446744073709551616 : Nat) = 18446744073709551615 + 1 from rfl, L80_2_s0]
      simp only [D80_2, PT.ev, PT.test, dite_eq_ite, hw0, beq_self_eq_true, if_true, if_pos (show (R.length : Int) - 1 ≥ 0 by omega), if_pos (show 0 ≤ (R.length : Int) - 1 ∧ (R.length : Int) - 1 < (R.length : Int) by omega), ht, Nat.zero_add, rm_get, hg2, Option.bind_some, N80_2.nx, hw]
      exact hf
  have hw0 : w64 ((R.length : Int) - 1) = (R.length : Int) - 1 := w64_in (by omega) (by omega)
  simp only [F80, D80, PT.ev, PT.test, dite_eq_ite, bnd_def, F32, D32, PT.evT, PT.test, dite_eq_ite, h0, Option.bind_some, hw0, h2, hc]
end Go.Proofs.YtifalphladcdcaaGreat.H

/- Layers by the program and by the document: law 21's own comparison is true. Conditions: those stated. -/
namespace Go.Proofs.YtifalphladcdcaaGreat.H
open Go Go.VM
set_option maxRecDepth 100000
theorem nself (b : Bool) : (!b == b) = false := by cases b <;> rfl
theorem same_chains (ls : List Ly) (hs : ∀ l ∈ ls, Sm l) (hl : ls.length ≤ 1000000) (t : Int) (M : Mt) : ∀ (n : Nat) (k : Int), -1 ≤ k → k ≤ (ls.length : Int) + 1 → (ls.length : Int) + 1 < n + k →
    L29_0 n (.s0 (.mk t k (Rl ls) M)) = some (.e1 (.mk t (Rl ls) M))
  | 0, k, h1, h2, h3 => by omega
  | n + 1, k, h1, h2, h3 => by
    rw [L29_0_s0]
    by_cases h : k ≤ (ls.length : Int)
    · have hw : w64 (k + 1) = k + 1 := w64_in (by omega) (by omega)
      have ih := same_chains ls hs hl t M n (k + 1) (by omega) (by omega) (by omega)
      simp only [D29_0, PT.ev, PT.test, dite_eq_ite, rl_len, if_pos h, qchain ls hs, rchain ls hs, Option.bind_some, beq_self_eq_true, Bool.and_self, Bool.not_true, Bool.false_eq_true, if_false, hw, N29_0.nx]
      exact ih
    · simp only [D29_0, PT.ev, PT.test, dite_eq_ite, rl_len, if_neg h, N29_0.nx]
theorem same_layers (ls : List Ly) (hs : ∀ l ∈ ls, Sm l) (hm : ∀ l ∈ ls, (l.mp.length : Int) < 4611686018427387904) (hl : ls.length ≤ 1000000) (t : Int) (M : Mt) : ∀ (n i : Nat), i ≤ ls.length → ls.length < n + i →
    L29_2 n (.s0 (.mk t (Rl ls) ls.length i M)) = some .e1
  | 0, i, h1, h2 => by omega
  | n + 1, i, h1, h2 => by
    rw [L29_2_s0]
    by_cases h : i < ls.length
    · have hw : w64 ((i : Int) + 1) = ((i + 1 : Nat) : Int) := by rw [w64_in (by omega) (by omega)]; omega
      have ih := same_layers ls hs hm hl t M n (i + 1) h (by omega)
      have hg : ls[i]? = some ls[i] := List.getElem?_eq_getElem h
      have s := hs _ (List.getElem_mem h)
      obtain ⟨Q, m1, m2, m3, m4⟩ := mask_ex ls[i] (hm _ (List.getElem_mem h)) M
      have ps := polys_same Q m3 (by omega)
      simp only [D29_2, PT.ev, PT.test, dite_eq_ite, bnd_def, if_pos (show (i : Int) < (ls.length : Int) by omega), if_pos (show (0 : Int) ≤ (i : Int) by omega), Int.toNat_natCast, rl_get, hg, Option.map_some, Option.bind_some, qseen, rseen, nself, Bool.false_eq_true, if_false, qown _ s, rown _ s, qopac _ s, ropac _ s, qinner _ s, rinner _ s, beq_self_eq_true, Bool.and_self, Bool.not_true, bne_self_eq_false, m1, m2, ro_len, Nat.zero_add, Nat.le_refl, if_true, ro_all, ps, hw, N29_2.nx]
      exact ih
    · simp only [D29_2, PT.ev, PT.test, dite_eq_ite, if_neg (show ¬ (i : Int) < (ls.length : Int) by omega), N29_2.nx]
theorem same_true (ls : List Ly) (hs : ∀ l ∈ ls, Sm l) (hm : ∀ l ∈ ls, (l.mp.length : Int) < 4611686018427387904) (hl : ls.length ≤ 1000000) (t : Int) (M : Mt) : F29 (Rl ls) t M = some (.a0 true) := by
  have h1 := same_chains ls hs hl t M 18446744073709551616 (-1) (by omega) (by omega) (by omega)
  have h2 := same_layers ls hs hm hl t M 18446744073709551616 0 (by omega) (by omega)
  rw [show ((0 : Nat) : Int) = 0 from rfl] at h2
  simp only [F29, D29, PT.ev, PT.test, dite_eq_ite, rl_len, h1, h2, Option.bind_some]
end Go.Proofs.YtifalphladcdcaaGreat.H

/- PoseNumbers in plain Lean. Conditions: those stated. -/
namespace Go.Proofs.YtifalphladcdcaaGreat.H
open Go Go.VM
set_option maxRecDepth 100000
theorem tape_loop (z : Int) : ∀ (n i : Nat) (acc : List W3), acc.length = i → i ≤ 250 → 250 < n + i → ∃ T : List W3, L28_0 n (.s0 (.mk z acc.length i (Rt acc))) = some (.e0 (.mk T.length (Rt T))) ∧ T.length = 250
  | 0, i, acc, _, h1, h2 => by omega
  | n + 1, i, acc, ha, h1, h2 => by
    rw [L28_0_s0]
    by_cases h : i < 250
    · have hw : w64 ((i : Int) + 1) = ((i + 1 : Nat) : Int) := by rw [w64_in (by omega) (by omega)]; omega
      have hr : 0 + acc.length ≤ (Rt acc).length ∧ (acc.length + 1) * 8 ≤ 140737488355328 ∧ acc.length + 1 ≤ 140737488355328 := by rw [List.length_map]; omega
      have hp : ∀ v : Int, List.take acc.length (Rt acc) ++ [[i64 v]] = Rt (acc ++ [⟨v⟩]) := fun v => by
        rw [List.take_of_length_le (by rw [List.length_map]; exact Nat.le_refl _), Rt, Rt, List.map_append]; rfl
      simp only [D28_0, PT.ev, PT.test, dite_eq_ite, Ws, if_pos (show (i : Int) < 250 by omega), if_pos hr, hp, hw, N28_0.nx]
      have ih := fun v : Int => tape_loop z n (i + 1) (acc ++ [⟨v⟩]) (by rw [List.length_append, List.length_singleton]; omega) (by omega) (by omega)
      simp only [List.length_append, List.length_singleton] at ih
      exact ih _
    · simp only [D28_0, PT.ev, PT.test, dite_eq_ite, Ws, if_neg (show ¬ (i : Int) < 250 by omega), N28_0.nx]
      exact ⟨acc, rfl, by omega⟩
theorem tape_ex (z : Int) : ∃ T : List W3, F28 z = some (.a0 T.length (Rt T)) ∧ T.length = 250 := by
  obtain ⟨T, e, h⟩ := tape_loop z 18446744073709551616 0 [] rfl (by omega) (by omega)
  rw [show ((0 : Nat) : Int) = 0 from rfl, show Rt [] = [] from rfl, show ([] : List W3).length = 0 from rfl] at e
  simp only [F28, D28, PT.ev, PT.test, dite_eq_ite, Ws, e, Option.bind_some]
  exact ⟨T, rfl, h⟩
/-- A shape whose lists are short. -/
structure So (s : Shp) : Prop where
  gl : Gl s
  wd : (s.wd.length : Int) < 4611686018427387904
  ds : (s.ds.length : Int) < 4611686018427387904
  cs : (s.cs.length : Int) < 4611686018427387904
  fr : (s.fr.length : Int) < 4611686018427387904
  to_ : (s.to_.length : Int) < 4611686018427387904
theorem So.sh0 : So sh0 := ⟨⟨by decide, by decide, by decide, fun k hk => absurd hk List.not_mem_nil⟩, by decide, by decide, by decide, by decide, by decide⟩
theorem Gy.so {k c m : Int} {ah : Bool} {l : Ly} (g : Gy k c m ah l) : So l.s := by
  rcases g.what.kind with h | h
  · have gs := (g.what.draw h).2.2
    have h1 := gs.wd.1
    have h2 := gs.ds.1
    have h3 := gs.cols.1
    have h4 := gs.fr.1
    have h5 := gs.to_.1
    exact ⟨gs.gl, by omega, by omega, by omega, by omega, by omega⟩
  · rw [(g.what.nest h).2.1]; exact So.sh0
theorem So.items {s : Shp} (g : So s) (t : Int) (M : Mt) (a : Int) : F30 (Ws s) t M a = some (.a0 true) := items_true s g.gl g.wd g.ds g.cs g.fr g.to_ t M a
theorem Gy.mp {k c m : Int} {ah : Bool} {l : Ly} (g : Gy k c m ah l) : (l.mp.length : Int) < 4611686018427387904 := by
  rcases g.mask with ⟨_, h⟩ | ⟨_, h, _⟩
  · rw [h]; decide
  · omega
abbrev MM : Mt := ⟨131072, 9, -65536, 65536, 458752, -5⟩
theorem pn_items (ls : List Ly) (h : ∀ l ∈ ls, So l.s) (hl : ls.length ≤ 1000000) (z0 z1 : Int) (k2 : Nat) (z3 z4 : Int) (l8 : List (List V)) : ∀ (n i : Nat), i ≤ ls.length → ls.length < n + i → L6_6 n (.s0 (.mk z0 z1 k2 z3 z4 (Rl ls) ls.length i l8)) = some (.e1 (.mk z0 z1 k2 z3 z4 (Rl ls) l8))
  | 0, i, h1, h2 => by omega
  | n + 1, i, h1, h2 => by
    rw [L6_6_s0]
    by_cases c : i < ls.length
    · have hw : w64 ((i : Int) + 1) = ((i + 1 : Nat) : Int) := by rw [w64_in (by omega) (by omega)]; omega
      have ih := pn_items ls h hl z0 z1 k2 z3 z4 l8 n (i + 1) c (by omega)
      have it := (h _ (List.getElem_mem c)).items z1 MM (w64 (z1 * 10))
      simp only [D6_6, PT.ev, PT.test, dite_eq_ite, Ws, if_pos (show (i : Int) < (ls.length : Int) by omega), if_pos (show (0 : Int) ≤ (i : Int) by omega), Int.toNat_natCast, rl_get, List.getElem?_eq_getElem c, Option.map_some, Option.bind_some]
      refine (congrArg (fun o => Option.bind o _) it).trans ?_
      simp only [Option.bind_some, PT.ev, PT.test, dite_eq_ite, Ws, Bool.not_true, Bool.false_eq_true, if_false, hw, N6_6.nx]
      exact ih
    · simp only [D6_6, PT.ev, PT.test, dite_eq_ite, Ws, if_neg (show ¬ (i : Int) < (ls.length : Int) by omega), N6_6.nx]
theorem pn_ticks (ls : List Ly) (hs : ∀ l ∈ ls, Sm l) (hm : ∀ l ∈ ls, (l.mp.length : Int) < 4611686018427387904) (h : ∀ l ∈ ls, So l.s) (hl : ls.length ≤ 1000000) (z0 : Int) (k2 : Nat) (z3 z4 : Int) (l6 : List (List V)) : ∀ (n : Nat) (z1 : Int), -3 ≤ z1 → z1 ≤ 30 → 30 < n + z1 → L6_4 n (.s0 (.mk z0 z1 k2 z3 z4 (Rl ls) l6)) = some (.e1 (.mk z0 k2 z3 z4 l6))
  | 0, z1, h1, h2, h3 => by omega
  | n + 1, z1, h1, h2, h3 => by
    rw [L6_4_s0]
    by_cases c : z1 < 25
    · have hw : w64 (z1 + 4) = z1 + 4 := w64_in (by omega) (by omega)
      have ih := pn_ticks ls hs hm h hl z0 k2 z3 z4 l6 n (z1 + 4) (by omega) (by omega) (by omega)
      have st := same_true ls hs hm hl z1 MM
      have it := pn_items ls h hl z0 z1 k2 z3 z4 l6 18446744073709551616 0 (by omega) (by omega)
      rw [show ((0 : Nat) : Int) = 0 from rfl] at it
      simp only [D6_4, PT.ev, PT.test, dite_eq_ite, Ws, if_pos c, rl_len]
      refine (congrArg (fun o => Option.bind o _) st).trans ?_
      simp only [Option.bind_some, PT.ev, PT.test, dite_eq_ite, Ws, Bool.not_true, Bool.false_eq_true, if_false, it, hw, N6_4.nx]
      exact ih
    · simp only [D6_4, PT.ev, PT.test, dite_eq_ite, Ws, if_neg c, N6_4.nx]
theorem pn_comps (C : List (List Ly)) (m : Int) (g : Gdoc m C) (hl : C.length ≤ 1000) (z0 : Int) : ∀ (n i : Nat), i ≤ C.length → C.length < n + i → L6_2 n (.s0 (.mk z0 C.length C.length i (Rcs C))) = some (.e1 (.mk z0))
  | 0, i, h1, h2 => by omega
  | n + 1, i, h1, h2 => by
    rw [L6_2_s0]
    by_cases c : i < C.length
    · have hw : w64 ((i : Int) + 1) = ((i + 1 : Nat) : Int) := by rw [w64_in (by omega) (by omega)]; omega
      have ih := pn_comps C m g hl z0 n (i + 1) c (by omega)
      obtain ⟨⟨g1, g2⟩, _⟩ := g i c
      have all : ∀ l ∈ C[i], Sm l ∧ So l.s ∧ (l.mp.length : Int) < 4611686018427387904 := fun l hl => by
        obtain ⟨j, hj, rfl⟩ := List.mem_iff_getElem.1 hl
        exact ⟨(g2 j hj).sm, (g2 j hj).so, (g2 j hj).mp⟩
      have tk := pn_ticks C[i] (fun l h => (all l h).1) (fun l h => (all l h).2.2) (fun l h => (all l h).2.1) (by omega) z0 C.length C.length i (Rcs C) 18446744073709551616 (-3) (by omega) (by omega) (by omega)
      simp only [D6_2, PT.ev, PT.test, dite_eq_ite, Ws, if_pos (show (i : Int) < (C.length : Int) by omega), if_pos (show (0 : Int) ≤ (i : Int) ∧ (i : Int) < (C.length : Int) by omega), Int.toNat_natCast, Nat.zero_add, rcs_get, List.getElem?_eq_getElem c, Option.map_some, Option.bind_some, tk, hw, N6_2.nx]
      exact ih
    · simp only [D6_2, PT.ev, PT.test, dite_eq_ite, Ws, if_neg (show ¬ (i : Int) < (C.length : Int) by omega), N6_2.nx]
theorem pn_tapes : ∀ (n : Nat) (z0 : Int), 0 ≤ z0 → z0 ≤ 40 → 40 < n + z0 → L6_0 n (.s0 (.mk z0)) = some .e1
  | 0, z0, h1, h2, h3 => by omega
  | n + 1, z0, h1, h2, h3 => by
    rw [L6_0_s0]
    by_cases c : z0 < 40
    · have hw : w64 (z0 + 1) = z0 + 1 := w64_in (by omega) (by omega)
      have ih := pn_tapes n (z0 + 1) (by omega) (by omega) (by omega)
      obtain ⟨T, t1, t2⟩ := tape_ex z0
      obtain ⟨i, o, C, e, _, _, _, _, d1, d2, g⟩ := doc_ex T (by omega)
      have cp := pn_comps C _ g (by omega) z0 18446744073709551616 0 (by omega) (by omega)
      rw [show ((0 : Nat) : Int) = 0 from rfl] at cp
      have tl : (Rt T).length = T.length := by rw [List.length_map]
      have tk : List.take T.length (Rt T) = Rt T := List.take_of_length_le (by rw [tl]; exact Nat.le_refl _)
      simp only [D6_0, PT.ev, PT.test, dite_eq_ite, Ws, if_pos c, t1, Option.bind_some, tl, Nat.zero_add, Nat.le_refl, if_true, tk, e, cp, hw, N6_0.nx]
      exact ih
    · simp only [D6_0, PT.ev, PT.test, dite_eq_ite, Ws, if_neg c, N6_0.nx]
abbrev lyo : Ly := ⟨0, 0, 0, 0, 0, 0, 0, [], [], [], [], [], [], [], [], [], false, [], sh0⟩
theorem Sm.of {l : Ly} (h : l.x.length ≤ 2 ∧ l.y.length ≤ 2 ∧ l.ax.length ≤ 2 ∧ l.ay.length ≤ 2 ∧ l.sx.length ≤ 2 ∧ l.sy.length ≤ 2 ∧ l.tu.length ≤ 2 ∧ l.op.length ≤ 2 ∧ l.re.length ≤ 2) : Sm l := by
  obtain ⟨h1, h2, h3, h4, h5, h6, h7, h8, h9⟩ := h
  exact ⟨by omega, by omega, by omega, by omega, by omega, by omega, by omega, by omega, by omega⟩
abbrev lya : Ly := { lyo with par := 1, x := [⟨0, 65536, 0, 0, 0, 0, 0⟩] }
abbrev lyb : Ly := { lyo with par := 0, y := [⟨0, 65536, 0, 0, 0, 0, 0⟩] }
abbrev lyc : Ly := { lyo with par := 7 }
theorem poseNumbers_plain : F6 = some (.a0 true) := by
  have h := pn_tapes 18446744073709551616 0 (by omega) (by omega) (by omega)
  have s1 := same_true [lya, lyb] (fun l hl => by
    simp only [List.mem_cons, List.not_mem_nil, or_false] at hl
    rcases hl with rfl | rfl <;> exact Sm.of (by decide)) (fun l hl => by
    simp only [List.mem_cons, List.not_mem_nil, or_false] at hl
    rcases hl with rfl | rfl <;> decide) (by decide) 0 MM
  have s2 := same_true [lyc] (fun l hl => by
    rw [List.mem_singleton.1 hl]; exact Sm.of (by decide)) (fun l hl => by
    rw [List.mem_singleton.1 hl]; decide) (by decide) 4611686018427387904 MM
  simp only [F6, D6, PT.ev, PT.test, dite_eq_ite, Ws, h, Option.bind_some]
  refine (congrArg (fun o => Option.bind o _) s1).trans ?_
  simp only [Option.bind_some, PT.ev, PT.test, dite_eq_ite, Ws, if_true]
  refine (congrArg (fun o => Option.bind o _) s2).trans ?_
  simp only [Option.bind_some, PT.ev, PT.test, dite_eq_ite, Ws, if_true, known21]
end Go.Proofs.YtifalphladcdcaaGreat.H
