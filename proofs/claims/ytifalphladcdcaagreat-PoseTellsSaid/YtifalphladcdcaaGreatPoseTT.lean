import Derived.Test.YtifalphladcdcaaGreatHueT
set_option linter.unusedVariables false
set_option linter.unusedSimpArgs false
/- Lines that are drawn along a shape: the program maps each outline, the document all of them; the same. Conditions: those stated. -/
namespace Go.Proofs.YtifalphladcdcaaGreat.H
open Go Go.VM
set_option maxRecDepth 100000
theorem rkey (ks : List Ky) (hl : (ks.length : Int) < 4611686018427387904) (t d : Int) : F143 (Rn ks) t d = some (.a0 (atN ks t d)) := by
  simp only [F143, D143, PT.ev, PT.test, dite_eq_ite, Ws, rat ks hl, Option.bind_some]
theorem stk_loop (s : Shp) (M : Mt) (gw : (s.wd.length : Int) < 4611686018427387904) (t : Int) {ds : List Po} (hd : ∀ x ∈ ds, x.p.length ≤ 2000) (hn : ds.length ≤ 200) (k1 : Nat) (z2 z3 y10 y11 y12 y13 y14 : Int) (l15 : List (List V)) (w1 : Int) (k2 k4 : Nat) (w5 w6 : Int) (l12 l14 : List (List V)) : ∀ (n i : Nat) (acc : List Po), i ≤ ds.length → ds.length < n + i → acc.length + (ds.length - i) * 6002 ≤ 2000000 → (∀ x ∈ acc, Pg x) →
    ∃ O : List Po, L140_2 n (.s0 (.mk (atN s.wd t 0) k1 z2 z3 ds.length ds.length i (Ws s) M acc.length y10 y11 y12 y13 y14 l15 (Ro ds) (Ro (acc.map (mapo M))))) = some (.e0 (.mk (atN s.wd t 0) k1 z2 z3 (Ws s) M O.length y10 y11 y12 y13 y14 l15 (Ro (O.map (mapo M))))) ∧
      L88_2 n (.s0 (.mk t w1 k2 acc.length k4 w5 w6 ds.length ds.length i (Ws s) M l12 (Ro acc) l14 (Ro ds))) = some (.e0 (.mk t w1 k2 O.length k4 w5 w6 (Ws s) M l12 (Ro O) l14)) ∧ (∀ x ∈ O, Pg x) ∧ O.length ≤ acc.length + (ds.length - i) * 6002
  | 0, i, acc, h1, h2, _, _ => by omega
  | n + 1, i, acc, h1, h2, h3, h4 => by
    rw [L140_2_s0, L88_2_s0]
    by_cases h : i < ds.length
    · have hdi := hd ds[i] (List.getElem_mem h)
      have hc : (i : Int) < (ds.length : Int) := by omega
      have hc2 : (0 : Int) ≤ (i : Int) ∧ (i : Int) < (ds.length : Int) := by omega
      have hw : w64 ((i : Int) + 1) = ((i + 1 : Nat) : Int) := by rw [w64_in (by omega) (by omega)]; omega
      obtain ⟨Q, q1, q2, q3, q4⟩ := stroke2 ds[i].c (l := ds[i].p) (by omega) (atN s.wd t 0) s.cap
      obtain ⟨b1, b2⟩ := lines_ex M Q (fun q hq => by have := pg_len (q3 q hq); omega) (by omega)
      obtain ⟨O, o1, o2, o3, o4⟩ := stk_loop s M gw t hd hn k1 z2 z3 y10 y11 y12 y13 y14 l15 w1 k2 k4 w5 w6 l12 l14 n (i + 1) (acc ++ Q) (by omega) (by omega) (by rw [List.length_append]; omega) (fun x hx => by
        rw [List.mem_append] at hx
        rcases hx with hx | hx
        · exact h4 x hx
        · exact q3 x hx)
      rw [List.length_append] at o1 o2 o4
      have z0 : ∀ n : Nat, 0 + n ≤ n := fun n => by omega
      have tm : List.take Q.length (Ro (Q.map (mapo M))) = Ro (Q.map (mapo M)) := List.take_of_length_le (by rw [ro_len, List.length_map]; exact Nat.le_refl _)
      have ta : List.take acc.length (Ro (acc.map (mapo M))) = Ro (acc.map (mapo M)) := List.take_of_length_le (by rw [ro_len, List.length_map]; exact Nat.le_refl _)
      have hr : (acc.length + Q.length) * 32 ≤ 140737488355328 ∧ acc.length + Q.length ≤ 140737488355328 := by omega
      simp only [D140_2, D88_2, PT.ev, PT.test, dite_eq_ite, Ws, if_pos hc, if_pos hc2, Int.toNat_natCast, Nat.zero_add, ro_get, List.getElem?_eq_getElem h, Option.map_some, Option.bind_some, rkey s.wd gw, q1, q2, ro_len, List.length_map, Nat.le_refl, if_true, ro_all, b1, b2, tm, ta, true_and]
      simp only [if_pos hr, ro_app, ← List.map_append, hw, N140_2.nx, N88_2.nx]
      exact ⟨O, o1, o2, o3, by omega⟩
    · simp only [D140_2, D88_2, PT.ev, PT.test, dite_eq_ite, Ws, if_neg (show ¬ (i : Int) < (ds.length : Int) by omega), N140_2.nx, N88_2.nx]
      exact ⟨acc, rfl, rfl, h4, by omega⟩
theorem drw_loop (s : Shp) (M : Mt) (gw : (s.wd.length : Int) < 4611686018427387904) (gd : (s.ds.length : Int) < 4611686018427387904) (t : Int) {ps : List Po} (hp : ∀ x ∈ ps, x.p.length ≤ 1900) (hn : ps.length ≤ 1) (y7 y8 y9 y10 y11 w1 : Int) (k2 : Nat) (l9 : List (List V)) : ∀ (n i : Nat) (acc : List Po), i ≤ ps.length → ps.length < n + i → acc.length + (ps.length - i) * 768256 ≤ 768256 → (∀ x ∈ acc, Pg x) →
    ∃ O : List Po, L140_0 n (.s0 (.mk (atN s.wd t 0) ps.length ps.length i (Ws s) M acc.length y7 y8 y9 y10 y11 (Ro ps) (Ro (acc.map (mapo M))))) = some (.e0 (.mk O.length y7 y8 y9 y10 y11 (Ro (O.map (mapo M))))) ∧
      L88_0 n (.s0 (.mk t w1 k2 acc.length ps.length ps.length i (Ws s) M l9 (Ro acc) (Ro ps))) = some (.e0 (.mk w1 k2 O.length (Ws s) M l9 (Ro O))) ∧ (∀ x ∈ O, Pg x) ∧ O.length ≤ 768256
  | 0, i, acc, h1, h2, _, _ => by omega
  | n + 1, i, acc, h1, h2, h3, h4 => by
    rw [L140_0_s0, L88_0_s0]
    by_cases h : i < ps.length
    · have hpi := hp ps[i] (List.getElem_mem h)
      have hc : (i : Int) < (ps.length : Int) := by omega
      have hc2 : (0 : Int) ≤ (i : Int) ∧ (i : Int) < (ps.length : Int) := by omega
      have hw : w64 ((i : Int) + 1) = ((i + 1 : Nat) : Int) := by rw [w64_in (by omega) (by omega)]; omega
      obtain ⟨ds, d1, d2, d3, d4⟩ := dash2 ps[i].c (p := ps[i].p) (by omega) s.ds gd
      obtain ⟨O1, o1, o2, o3, o4⟩ := stk_loop s M gw t (ds := ds) (fun x hx => by have := d3 x hx; omega) (by omega) ps.length ps.length i y7 y8 y9 y10 y11 (Ro ps) w1 k2 ps.length ps.length i l9 (Ro ps) 18446744073709551616 0 acc (by omega) (by omega) (by omega) h4
      rw [show ((0 : Nat) : Int) = 0 from rfl] at o1 o2
      obtain ⟨O, p1, p2, p3, p4⟩ := drw_loop s M gw gd t hp hn y7 y8 y9 y10 y11 w1 k2 l9 n (i + 1) O1 (by omega) (by omega) (by omega) o3
      simp only [D140_0, D88_0, PT.ev, PT.test, dite_eq_ite, Ws, if_pos hc, if_pos hc2, Int.toNat_natCast, Nat.zero_add, ro_get, List.getElem?_eq_getElem h, Option.map_some, Option.bind_some, d1, d2, o1, o2, hw, N140_0.nx, N88_0.nx]
      exact ⟨O, p1, p2, p3, p4⟩
    · simp only [D140_0, D88_0, PT.ev, PT.test, dite_eq_ite, Ws, if_neg (show ¬ (i : Int) < (ps.length : Int) by omega), N140_0.nx, N88_0.nx]
      exact ⟨acc, rfl, rfl, h4, by omega⟩
end Go.Proofs.YtifalphladcdcaaGreat.H

/- What is painted of a shape: the program's and the document's. Conditions: those stated. -/
namespace Go.Proofs.YtifalphladcdcaaGreat.H
open Go Go.VM
set_option maxRecDepth 100000
abbrev It := W85
abbrev Ri (xs : List It) : List (List V) := xs.map W85.cells
/-- An item's lines. -/
def Pi (x : It) : Prop := ∃ Q : List Po, x.c0 = Ro Q ∧ (∀ q ∈ Q, q.p.length ≤ 2000) ∧ Q.length ≤ 1000000
theorem t1 {α : Type} (x : α) : List.take 1 [x] = [x] := rfl
theorem items_both (s : Shp) (g : Gl s) (gw : (s.wd.length : Int) < 4611686018427387904) (gd : (s.ds.length : Int) < 4611686018427387904) (gc : (s.cs.length : Int) < 4611686018427387904) (gf : (s.fr.length : Int) < 4611686018427387904) (gt : (s.to_.length : Int) < 4611686018427387904) (t : Int) (M : Mt) (a : Int) :
    ∃ xs : List It, F75 (Ws s) t M a = some (.a0 xs.length (Ri xs)) ∧ F88 (Ws s) t M a = some (.a0 xs.length (Ri xs)) ∧ xs.length ≤ 2 ∧ ∀ x ∈ xs, Pi x := by
  obtain ⟨c, qs, p1, p2, p3⟩ := at_both s g t
  obtain ⟨fs, f1, f2, f3⟩ := flat_ex c qs (by omega)
  have z0 : ∀ n : Nat, 0 + n ≤ n := fun n => by omega
  simp only [F75, F88, D75, D88, bnd_def, PT.ev, PT.test, dite_eq_ite, p1, p2, Option.bind_some, rp_len, Nat.zero_add, Nat.le_refl, if_true, rp_all, f1, f2]
  by_cases h0 : ((fs.length : Int) == 0) = true
  · simp only [if_pos h0]
    exact ⟨[], rfl, rfl, by simp, by simp⟩
  · obtain ⟨b1, b2⟩ := lines_ex M [(⟨c, fs⟩ : Po)] (fun q hq => by rw [List.mem_singleton.1 hq]; show fs.length ≤ _; omega) (by simp)
    obtain ⟨ps, a1, a2, a3, a4⟩ := trim2 (ps := [(⟨c, fs⟩ : Po)]) (fun q hq => by rw [List.mem_singleton.1 hq]; show fs.length ≤ _; omega) (by simp) (atN s.fr t 0) (atN s.to_ t 65536)
    have hp1 := a4 1000 (fun q hq => by rw [List.mem_singleton.1 hq]; exact f3)
    rw [show Ro [(⟨c, fs⟩ : Po)] = [[vb c, V.list 2 (Rp fs)]] from rfl] at b1 b2 a1 a2
    replace b1 : F147 M [[vb c, V.list 2 (Rp fs)]] = some (.a0 1 (Ro [mapo M ⟨c, fs⟩])) := b1
    replace b2 : F148 M [[vb c, V.list 2 (Rp fs)]] = some (.a0 1 (Ro [mapo M ⟨c, fs⟩])) := b2
    have hR1 : (Ro [mapo M ⟨c, fs⟩]).length = 1 := rfl
    have hR2 : List.take 1 (Ro [mapo M ⟨c, fs⟩]) = Ro [mapo M ⟨c, fs⟩] := rfl
    generalize hR : Ro [mapo M ⟨c, fs⟩] = R at *
    have hps : ps.length ≤ 1 := a3
    obtain ⟨r', g', b', a', c1, c2⟩ := color_ex s.cs gc t s.p1 s.p2 s.p3 s.p4
    obtain ⟨m1, m2, m3, m4, m5, hm⟩ := pmap_ex M s.p9 s.p10 s.p11 s.p12 s.p13
    have m9 := fun z1 z2 z3 z4 z5 z6 z7 z8 z9 => (hm z1 z2 z3 z4 z5 z6 z7 z8 z9).1
    have m8 := fun z1 z2 z3 z4 z5 z6 z7 z8 z9 => (hm z1 z2 z3 z4 z5 z6 z7 z8 z9).2
    obtain ⟨O, o1, o2, o3, o4⟩ := drw_loop s M gw gd t (ps := ps) (fun x hx => by have := hp1 x hx; omega) hps s.s0 s.s1 s.s2 s.s3 a a 0 [] 18446744073709551616 0 [] (by omega) (by omega) (by simp only [List.length_nil]; omega) (by simp)
    obtain ⟨O', o1', o2', o3', o4'⟩ := drw_loop s M gw gd t (ps := ps) (fun x hx => by have := hp1 x hx; omega) hps s.s0 s.s1 s.s2 s.s3 a a 1 [[V.list 2 R, i64 s.rule, i64 s.p0, u8 r', u8 g', u8 b', u8 a', u8 s.p5, u8 s.p6, u8 s.p7, u8 s.p8, i64 m1, i64 m2, i64 m3, i64 m4, i64 m5, i64 a]] 18446744073709551616 0 [] (by omega) (by omega) (by simp only [List.length_nil]; omega) (by simp)
    rw [show ((0 : Nat) : Int) = 0 from rfl, show Ro [] = [] from rfl, show ([] : List Po).length = 0 from rfl] at o2 o2'
    rw [show ((0 : Nat) : Int) = 0 from rfl, List.map_nil, show Ro [] = [] from rfl, show ([] : List Po).length = 0 from rfl] at o1 o1'
    obtain ⟨d1, d2⟩ := lines_ex M O (fun q hq => by have := pg_len (o3 q hq); omega) (by omega)
    obtain ⟨d1', d2'⟩ := lines_ex M O' (fun q hq => by have := pg_len (o3' q hq); omega) (by omega)
    let x1 : It := ⟨R, s.rule, s.p0, r', g', b', a', s.p5, s.p6, s.p7, s.p8, m1, m2, m3, m4, m5, a⟩
    have P1 : Pi x1 := ⟨[mapo M ⟨c, fs⟩], hR.symm, fun q hq => by rw [List.mem_singleton.1 hq]; show (fs.map (apm M)).length ≤ _; rw [List.length_map]; omega, by simp⟩
    have P2 : ∀ (O : List Po), (∀ q ∈ O, Pg q) → O.length ≤ 768256 → Pi (⟨Ro (O.map (mapo M)), 0, 0, s.s0, s.s1, s.s2, s.s3, s.s0, s.s1, s.s2, s.s3, 0, 0, 0, 0, 0, a⟩ : It) := fun O h1 h2 => ⟨O.map (mapo M), rfl, fun q hq => by
      obtain ⟨q', h3, rfl⟩ := List.mem_map.1 hq
      show (q'.p.map (apm M)).length ≤ _
      rw [List.length_map]
      have := pg_len (h1 q' h3)
      omega, by rw [List.length_map]; omega⟩
    have tm : ∀ O : List Po, List.take O.length (Ro (O.map (mapo M))) = Ro (O.map (mapo M)) := fun O => List.take_of_length_le (by rw [ro_len, List.length_map]; exact Nat.le_refl _)
    simp only [if_neg h0, J75_c24, D75_c24, J88_c27, D88_c27, PT.ev, PT.test, dite_eq_ite, Ws]
    by_cases hf : s.f = true
    · simp only [if_pos hf, F139, D139, PT.ev, PT.test, dite_eq_ite, Ws, bnd_def, c1, c2, b1, b2, m9, m8, Option.bind_some, t1, hR1, hR2, List.length_cons, List.length_nil, Nat.zero_add, Nat.le_refl, if_true, rp_len, rp_all, ro_len]
      by_cases hst : s.st = true
      · have hst' : (!s.st) = false := by rw [hst]; rfl
        simp only [if_pos hst, hst', Bool.false_eq_true, if_false, F140, D140, PT.ev, PT.test, dite_eq_ite, Ws, qat s.wd gw, qat s.fr gf, qat s.to_ gt, rkey s.fr gf, rkey s.to_ gt, a1, a2, o1', o2', Option.bind_some]
        by_cases hO : (O'.length : Int) > 0
        · simp only [if_pos hO, ro_len, List.length_map, Nat.zero_add, Nat.le_refl, if_true, ro_all, d2', Option.bind_some, tm, List.length_cons, List.length_nil, t1]
          exact ⟨[x1, ⟨Ro (O'.map (mapo M)), 0, 0, s.s0, s.s1, s.s2, s.s3, s.s0, s.s1, s.s2, s.s3, 0, 0, 0, 0, 0, a⟩], rfl, rfl, by simp, fun x hx => by
            simp only [List.mem_cons, List.not_mem_nil, or_false] at hx
            rcases hx with rfl | rfl
            · exact P1
            · exact P2 O' o3' o4'⟩
        · simp only [if_neg hO]
          exact ⟨[x1], rfl, rfl, by simp, fun x hx => by rw [List.mem_singleton.1 hx]; exact P1⟩
      · have hst' : (!s.st) = true := by rw [Bool.eq_false_iff.2 hst]; rfl
        simp only [if_neg hst, hst', if_true, Option.bind_some]
        exact ⟨[x1], rfl, rfl, by simp, fun x hx => by rw [List.mem_singleton.1 hx]; exact P1⟩
    · simp only [if_neg hf, Option.bind_some]
      by_cases hst : s.st = true
      · have hst' : (!s.st) = false := by rw [hst]; rfl
        simp only [if_pos hst, hst', Bool.false_eq_true, if_false, F140, D140, PT.ev, PT.test, dite_eq_ite, Ws, qat s.wd gw, qat s.fr gf, qat s.to_ gt, rkey s.fr gf, rkey s.to_ gt, t1, List.length_cons, List.length_nil, Nat.zero_add, Nat.le_refl, if_true, rp_len, rp_all, a1, a2, o1, o2, Option.bind_some]
        by_cases hO : (O.length : Int) > 0
        · simp only [if_pos hO, ro_len, List.length_map, Nat.zero_add, Nat.le_refl, if_true, ro_all, d2, Option.bind_some, tm, List.length_cons, List.length_nil, t1]
          exact ⟨[⟨Ro (O.map (mapo M)), 0, 0, s.s0, s.s1, s.s2, s.s3, s.s0, s.s1, s.s2, s.s3, 0, 0, 0, 0, 0, a⟩], rfl, rfl, by simp, fun x hx => by rw [List.mem_singleton.1 hx]; exact P2 O o3 o4⟩
        · simp only [if_neg hO]
          exact ⟨[], rfl, rfl, by simp, by simp⟩
      · have hst' : (!s.st) = true := by rw [Bool.eq_false_iff.2 hst]; rfl
        simp only [if_neg hst, hst', PT.ev, PT.test, dite_eq_ite, Ws, if_true, Option.bind_some]
        exact ⟨[], rfl, rfl, by simp, by simp⟩
end Go.Proofs.YtifalphladcdcaaGreat.H

/- Items compared by the law. Conditions: those stated. -/
namespace Go.Proofs.YtifalphladcdcaaGreat.H
open Go Go.VM
set_option maxRecDepth 100000
theorem polys_loop (Q : List Po) (hq : ∀ q ∈ Q, (q.p.length : Int) < 4611686018427387904) (hl : Q.length ≤ 1000000) : ∀ (n i : Nat), i ≤ Q.length → Q.length < n + i → L85_0 n (.s0 (.mk (Ro Q) (Ro Q) i)) = some .e1
  | 0, i, h1, h2 => by omega
  | n + 1, i, h1, h2 => by
    rw [L85_0_s0]
    by_cases h : i < Q.length
    · have hw : w64 ((i : Int) + 1) = ((i + 1 : Nat) : Int) := by rw [w64_in (by omega) (by omega)]; omega
      have ih := polys_loop Q hq hl n (i + 1) h (by omega)
      have e : (!Q[i].c == Q[i].c) = false := by cases Q[i].c <;> rfl
      simp only [D85_0, PT.ev, PT.test, dite_eq_ite, Ws, ro_len, if_pos (show (i : Int) < (Q.length : Int) by omega), if_pos (show (0 : Int) ≤ (i : Int) by omega), Int.toNat_natCast, ro_get, List.getElem?_eq_getElem h, Option.map_some, Option.bind_some, e, Bool.false_eq_true, if_false, rpoints Q[i].p Q[i].p (hq _ (List.getElem_mem h)), eqs_refl, Bool.not_true, hw, N85_0.nx]
      exact ih
    · simp only [D85_0, PT.ev, PT.test, dite_eq_ite, Ws, ro_len, if_neg (show ¬ (i : Int) < (Q.length : Int) by omega), N85_0.nx]
theorem polys_same (Q : List Po) (hq : ∀ q ∈ Q, (q.p.length : Int) < 4611686018427387904) (hl : Q.length ≤ 1000000) : F85 (Ro Q) (Ro Q) = some (.a0 true) := by
  have h := polys_loop Q hq hl 18446744073709551616 0 (by omega) (by omega)
  rw [show ((0 : Nat) : Int) = 0 from rfl] at h
  simp only [F85, D85, PT.ev, PT.test, dite_eq_ite, Ws, bne_self_eq_false, Bool.false_eq_true, if_false, h, Option.bind_some]
theorem item_same (x : It) (hx : Pi x) : F89 x x = some (.a0 true) := by
  obtain ⟨Q, e, h1, h2⟩ := hx
  have p := polys_same Q (fun q hq => by have := h1 q hq; omega) h2
  rw [← e] at p
  simp only [F89, D89, PT.ev, PT.test, dite_eq_ite, Ws, p, Option.bind_some, beq_self_eq_true, Bool.and_self, if_true]
theorem ri_get (xs : List It) (i : Nat) : ((Ri xs)[i]?).bind W85.dec = xs[i]? := by
  simp only [Ri, List.getElem?_map]
  cases xs[i]? with
  | none => rfl
  | some x => exact W85.dec_cells x
theorem items_loop (xs : List It) (hx : ∀ x ∈ xs, Pi x) (hl : xs.length ≤ 2) : ∀ (n i : Nat), i ≤ xs.length → xs.length < n + i → L30_0 n (.s0 (.mk xs.length xs.length xs.length i (Ri xs) (Ri xs))) = some .e1
  | 0, i, h1, h2 => by omega
  | n + 1, i, h1, h2 => by
    rw [L30_0_s0]
    by_cases h : i < xs.length
    · have hw : w64 ((i : Int) + 1) = ((i + 1 : Nat) : Int) := by rw [w64_in (by omega) (by omega)]; omega
      have ih := items_loop xs hx hl n (i + 1) h (by omega)
      have hc : (0 : Int) ≤ (i : Int) ∧ (i : Int) < (xs.length : Int) := by omega
      simp only [D30_0, PT.ev, PT.test, dite_eq_ite, Ws, if_pos (show (i : Int) < (xs.length : Int) by omega), if_pos hc, Nat.zero_add, Int.toNat_natCast, ri_get, List.getElem?_eq_getElem h, Option.bind_some, item_same _ (hx _ (List.getElem_mem h)), Bool.not_true, Bool.false_eq_true, if_false, hw, N30_0.nx]
      exact ih
    · simp only [D30_0, PT.ev, PT.test, dite_eq_ite, Ws, if_neg (show ¬ (i : Int) < (xs.length : Int) by omega), N30_0.nx]
theorem items_true (s : Shp) (g : Gl s) (gw : (s.wd.length : Int) < 4611686018427387904) (gd : (s.ds.length : Int) < 4611686018427387904) (gc : (s.cs.length : Int) < 4611686018427387904) (gf : (s.fr.length : Int) < 4611686018427387904) (gt : (s.to_.length : Int) < 4611686018427387904) (t : Int) (M : Mt) (a : Int) : F30 (Ws s) t M a = some (.a0 true) := by
  obtain ⟨xs, e1, e2, e3, e4⟩ := items_both s g gw gd gc gf gt t M a
  have h := items_loop xs e4 e3 18446744073709551616 0 (by omega) (by omega)
  rw [show ((0 : Nat) : Int) = 0 from rfl] at h
  simp only [F30, D30, PT.ev, PT.test, dite_eq_ite, e1, e2, Option.bind_some, bne_self_eq_false, Bool.false_eq_true, if_false, h]
end Go.Proofs.YtifalphladcdcaaGreat.H

/- The document's maps, opacities, times of a layer: the program's. Conditions: those stated. -/
namespace Go.Proofs.YtifalphladcdcaaGreat.H
open Go Go.VM
set_option maxRecDepth 100000
theorem rtick (l : Ly) (t : Int) : F142 (Wl l) t = tickv l t := by
  simp only [F142, D142, PT.evT, PT.test, dite_eq_ite, bnd_def, rhold, radd, tickv]
theorem rseen (l : Ly) (t : Int) : F81 (Wl l) t = seenv l t := by
  simp only [F81, D81, PT.evT, PT.test, dite_eq_ite, seenv]
  by_cases h : l.inn ≤ t <;> simp [h]
theorem ropac (l : Ly) (s : Sm l) (t : Int) : F83 (Wl l) t = some (.a0 (opacv l t)) := by
  simp only [F83, D83, PT.ev, PT.test, dite_eq_ite, bnd_def, rtick, rkey _ s.op, rclamp, Option.bind_some, opacv]
theorem rinner (l : Ly) (s : Sm l) (t : Int) : F84 (Wl l) t = some (.a0 (innerv l t)) := by
  simp only [F84, D84, PT.ev, PT.test, dite_eq_ite, bnd_def, rtick, rkey _ s.re, Option.bind_some, innerv]
/-! ### Masks -/
theorem mask_ex (l : Ly) (hm : (l.mp.length : Int) < 4611686018427387904) (M : Mt) : ∃ Q : List Po, F86 (Wl l) M = some (.a0 Q.length (Ro Q)) ∧ F87 (Wl l) M = some (.a0 Q.length (Ro Q)) ∧ (∀ q ∈ Q, (q.p.length : Int) < 4611686018427387904) ∧ Q.length ≤ 1 := by
  obtain ⟨fs, f1, f2, f3⟩ := flat_ex l.mc l.mp hm
  obtain ⟨b1, b2⟩ := lines_ex M [(⟨l.mc, fs⟩ : Po)] (fun q hq => by rw [List.mem_singleton.1 hq]; show fs.length ≤ _; omega) (by simp)
  rw [show Ro [(⟨l.mc, fs⟩ : Po)] = [[vb l.mc, V.list 2 (Rp fs)]] from rfl] at b1 b2
  simp only [F86, F87, D86, D87, PT.ev, PT.test, dite_eq_ite, bnd_def, qempty, rp_len, f1, f2, Option.bind_some, Nat.zero_add, Nat.le_refl, if_true, rp_all, b1, b2]
  by_cases h0 : l.mp.length = 0
  · have e : ((l.mp.length : Int) == 0) = true := by rw [beq_iff_eq]; omega
    simp only [decide_eq_true h0, e, if_true]
    exact ⟨[], rfl, rfl, by simp, by simp⟩
  · have e : ((l.mp.length : Int) == 0) = false := by rw [beq_eq_false_iff_ne]; omega
    simp only [decide_eq_false h0, e, Bool.false_eq_true, if_false]
    exact ⟨[mapo M ⟨l.mc, fs⟩], rfl, rfl, fun q hq => by rw [List.mem_singleton.1 hq]; show ((fs.map (apm M)).length : Int) < _; rw [List.length_map]; omega, by simp⟩
theorem rmade (x y ax ay sx sy tu : Int) : F144 x y ax ay sx sy tu = some (.a0 (madev x y ax ay sx sy tu)) := by
  simp only [F144, D144, PT.ev, PT.test, dite_eq_ite, bnd_def, rcos, rsin, rmul, rtwo3, radd, Option.bind_some, add_zero _ (two_hd _ _ _ _), madev]
theorem rown (l : Ly) (s : Sm l) (t : Int) : F82 (Wl l) t = some (.a0 (ownv l t)) := by
  simp only [F82, D82, PT.ev, PT.test, dite_eq_ite, bnd_def, rtick, rkey _ s.x, rkey _ s.y, rkey _ s.ax, rkey _ s.ay, rkey _ s.sx, rkey _ s.sy, rkey _ s.tu, rmade, Option.bind_some, ownv]
/-! ### Chains -/
theorem there_iff (ls : List Ly) (p : Int) : there ls p = true ↔ p ≥ 0 ∧ p < (ls.length : Int) := by simp only [there, Bool.and_eq_true, decide_eq_true_eq]
theorem rchain_loop (ls : List Ly) (hs : ∀ l ∈ ls, Sm l) (t : Int) (I : Mt) : ∀ (n : Nat) (acc : List Mt) (p : Int), acc.length ≤ 17 → 17 < n + acc.length →
    L80_0 n (.s0 (.mk p t acc.length (Rl ls) I (Rm acc))) = some (.e0 (.mk (acc ++ (anc ls (17 - acc.length) p).map fun l => ownv l t).length I (Rm (acc ++ (anc ls (17 - acc.length) p).map fun l => ownv l t))))
  | 0, acc, p, h1, h2 => by omega
  | n + 1, acc, p, h1, h2 => by
    rw [L80_0_s0]
    have stop : there ls p ≠ true → (anc ls (17 - acc.length) p).map (fun l => ownv l t) = [] := fun hp => by
      cases 17 - acc.length with
      | zero => rfl
      | succ k => rw [anc, if_neg hp]; rfl
    simp only [D80_0, J80_r3, D80_r3, PT.ev, PT.test, dite_eq_ite, rl_len, Option.bind_some]
    by_cases q1 : p ≥ 0
    · by_cases q2 : p < (ls.length : Int)
      · have hp := (there_iff ls p).2 ⟨q1, q2⟩
        by_cases hk : (acc.length : Int) ≤ 16
        · obtain ⟨p0, p1⟩ := there_lt hp
          have hg : ls[p.toNat]? = some ls[p.toNat] := List.getElem?_eq_getElem p1
          have hq : 0 + acc.length ≤ (Rm acc).length ∧ (acc.length + 1) * 48 ≤ 140737488355328 ∧ acc.length + 1 ≤ 140737488355328 := by rw [rm_len]; omega
          have hlen : (acc ++ [ownv ls[p.toNat] t]).length = acc.length + 1 := by rw [List.length_append, List.length_singleton]
          simp only [if_pos q1, if_pos q2, decide_eq_true hk, Option.bind_some, PT.ev, PT.test, dite_eq_ite, if_true, rl_get, hg, Option.map_some, rown _ (hs _ (List.getElem_mem p1)), if_pos hq, N80_0.nx, pushM]
          try simp only [if_pos p0]
          have ih := rchain_loop ls hs t I n (acc ++ [ownv ls[p.toNat] t]) ls[p.toNat].par (by rw [hlen]; omega) (by rw [hlen]; omega)
          rw [hlen] at ih
          rw [ih]
          have e : 17 - acc.length = (17 - (acc.length + 1)) + 1 := by omega
          rw [e, anc, if_pos hp, hg]
          simp only [List.map_cons, List.append_assoc, List.singleton_append]
        · simp only [if_pos q1, if_pos q2, decide_eq_false hk, Option.bind_some, PT.ev, PT.test, dite_eq_ite, Bool.false_eq_true, if_false, N80_0.nx]
          rw [show 17 - acc.length = 0 by omega, anc, List.map_nil, List.append_nil]
      · simp only [if_pos q1, if_neg q2, Option.bind_some, PT.ev, PT.test, dite_eq_ite, Bool.false_eq_true, if_false, N80_0.nx]
        rw [stop (fun h => q2 ((there_iff ls p).1 h).2), List.append_nil]
    · simp only [if_neg q1, Option.bind_some, PT.ev, PT.test, dite_eq_ite, Bool.false_eq_true, if_false, N80_0.nx]
      rw [stop (fun h => q1 ((there_iff ls p).1 h).1), List.append_nil]
theorem rfold_loop (R : List Mt) (hR : R.length ≤ 18) : ∀ (n i : Nat), i < R.length → i < n →
    L80_2 n (.s0 (.mk R.length ((i : Int) - 1) (fm (R.drop i)) (Rm R))) = some (.e0 (.mk (fm R)))
  | 0, i, _, h => by omega
  | n + 1, i, hi, hn => by
    rw [L80_2_s0]
    cases i with
    | zero =>
      simp only [D80_2, PT.ev, PT.test, dite_eq_ite, if_neg (show ¬ (((0 : Nat) : Int) - 1 ≥ 0) by omega), N80_2.nx, List.drop_zero]
    | succ i =>
      have e : ((i + 1 : Nat) : Int) - 1 = (i : Int) := by omega
      have hw : w64 ((i : Int) - 1) = (i : Int) - 1 := w64_in (by omega) (by omega)
      have hw0 : w64 ((R.length : Int) - 1) = (R.length : Int) - 1 := w64_in (by omega) (by omega)
      have hne : ((i : Int) == (R.length : Int) - 1) = false := by rw [beq_eq_false_iff_ne]; omega
      have hg : R[i]? = some R[i] := List.getElem?_eq_getElem (by omega)
      have hf : fm (R.drop i) = aftv (fm (R.drop (i + 1))) R[i] := by
        have h1 : R.drop i = R[i] :: R.drop (i + 1) := List.drop_eq_getElem_cons (by omega)
        have h2 : R.drop (i + 1) = R[i + 1] :: R.drop (i + 1 + 1) := List.drop_eq_getElem_cons (by omega)
        rw [h1, h2, fm]
      have ih := rfold_loop R hR n i (by omega) (by omega)
      rw [hf] at ih
      simp only [D80_2, PT.ev, PT.test, dite_eq_ite, e, hw0, hne, Bool.false_eq_true, if_false, if_pos (show (i : Int) ≥ 0 by omega), if_pos (show 0 ≤ (i : Int) ∧ (i : Int) < (R.length : Int) by omega), Int.toNat_natCast, Nat.zero_add, rm_get, hg, Option.bind_some, rafter, N80_2.nx, hw]
      exact ih
theorem rchain (ls : List Ly) (hs : ∀ l ∈ ls, Sm l) (k t : Int) : F80 (Rl ls) k t = some (.a0 (chainv ls k t)) := by
  have h0 := rchain_loop ls hs t ⟨65536, 0, 0, 65536, 0, 0⟩ 18446744073709551616 [] k (by simp) (by simp)
  rw [show Rm [] = [] from rfl, show ([] : List Mt).length = 0 from rfl, List.nil_append] at h0
  have hn : ((anc ls 17 k).map (fun l => ownv l t)).length ≤ 17 := by rw [List.length_map]; exact anc_len ls 17 k
  have hc : fm ((anc ls 17 k).map fun l => ownv l t) = chainv ls k t := rfl
  rw [show 17 - 0 = 17 from rfl] at h0
  generalize (anc ls 17 k).map (fun l => ownv l t) = R at *
  have h2 : L80_2 18446744073709551616 (.s0 (.mk R.length ((R.length : Int) - 1) ⟨65536, 0, 0, 65536, 0, 0⟩ (Rm R))) = some (.e0 (.mk (fm R))) := by
    by_cases hz : R.length = 0
    · have : R = [] := List.eq_nil_of_length_eq_zero hz
      subst this
      rw [L80_2_s0]
      rfl
    · have hw : w64 ((R.length : Int) - 1 - 1) = ((R.length - 1 : Nat) : Int) - 1 := by rw [w64_in (by omega) (by omega)]; omega
      have hw0 : w64 ((R.length : Int) - 1) = (R.length : Int) - 1 := w64_in (by omega) (by omega)
      have ht : Int.toNat ((R.length : Int) - 1) = R.length - 1 := by omega
      have hg2 : R[R.length - 1]? = some R[R.length - 1] := List.getElem?_eq_getElem (by omega)
      have hd1 : fm (R.drop (R.length - 1)) = R[R.length - 1] := by
        rw [List.drop_eq_getElem_cons (show R.length - 1 < R.length by omega), List.drop_eq_nil_of_le (by omega)]; rfl
      have hf := rfold_loop R (by omega) 18446744073709551615 (R.length - 1) (by omega) (by omega)
      rw [hd1] at hf
      rw [show (18446744073709551616 : Nat) = 18446744073709551615 + 1 from rfl, L80_2_s0]
      simp only [D80_2, PT.ev, PT.test, dite_eq_ite, hw0, beq_self_eq_true, if_true, if_pos (show (R.length : Int) - 1 ≥ 0 by omega), if_pos (show 0 ≤ (R.length : Int) - 1 ∧ (R.length : Int) - 1 < (R.length : Int) by omega), ht, Nat.zero_add, rm_get, hg2, Option.bind_some, N80_2.nx, hw]
      exact hf
  have hw0 : w64 ((R.length : Int) - 1) = (R.length : Int) - 1 := w64_in (by omega) (by omega)
  simp only [F80, D80, PT.ev, PT.test, dite_eq_ite, bnd_def, F32, D32, PT.evT, PT.test, dite_eq_ite, h0, Option.bind_some, hw0, h2, hc]
end Go.Proofs.YtifalphladcdcaaGreat.H

/- Layers by the program and by the document: law 21's own comparison is true. Conditions: those stated. -/
namespace Go.Proofs.YtifalphladcdcaaGreat.H
open Go Go.VM
set_option maxRecDepth 100000
theorem nself (b : Bool) : (!b == b) = false := by cases b <;> rfl
theorem same_chains (ls : List Ly) (hs : ∀ l ∈ ls, Sm l) (hl : ls.length ≤ 1000000) (t : Int) (M : Mt) : ∀ (n : Nat) (k : Int), -1 ≤ k → k ≤ (ls.length : Int) + 1 → (ls.length : Int) + 1 < n + k →
    L29_0 n (.s0 (.mk t k (Rl ls) M)) = some (.e1 (.mk t (Rl ls) M))
  | 0, k, h1, h2, h3 => by omega
  | n + 1, k, h1, h2, h3 => by
    rw [L29_0_s0]
    by_cases h : k ≤ (ls.length : Int)
    · have hw : w64 (k + 1) = k + 1 := w64_in (by omega) (by omega)
      have ih := same_chains ls hs hl t M n (k + 1) (by omega) (by omega) (by omega)
      simp only [D29_0, PT.ev, PT.test, dite_eq_ite, rl_len, if_pos h, qchain ls hs, rchain ls hs, Option.bind_some, beq_self_eq_true, Bool.and_self, Bool.not_true, Bool.false_eq_true, if_false, hw, N29_0.nx]
      exact ih
    · simp only [D29_0, PT.ev, PT.test, dite_eq_ite, rl_len, if_neg h, N29_0.nx]
theorem same_layers (ls : List Ly) (hs : ∀ l ∈ ls, Sm l) (hm : ∀ l ∈ ls, (l.mp.length : Int) < 4611686018427387904) (hl : ls.length ≤ 1000000) (t : Int) (M : Mt) : ∀ (n i : Nat), i ≤ ls.length → ls.length < n + i →
    L29_2 n (.s0 (.mk t (Rl ls) ls.length i M)) = some .e1
  | 0, i, h1, h2 => by omega
  | n + 1, i, h1, h2 => by
    rw [L29_2_s0]
    by_cases h : i < ls.length
    · have hw : w64 ((i : Int) + 1) = ((i + 1 : Nat) : Int) := by rw [w64_in (by omega) (by omega)]; omega
      have ih := same_layers ls hs hm hl t M n (i + 1) h (by omega)
      have hg : ls[i]? = some ls[i] := List.getElem?_eq_getElem h
      have s := hs _ (List.getElem_mem h)
      obtain ⟨Q, m1, m2, m3, m4⟩ := mask_ex ls[i] (hm _ (List.getElem_mem h)) M
      have ps := polys_same Q m3 (by omega)
      simp only [D29_2, PT.ev, PT.test, dite_eq_ite, bnd_def, if_pos (show (i : Int) < (ls.length : Int) by omega), if_pos (show (0 : Int) ≤ (i : Int) by omega), Int.toNat_natCast, rl_get, hg, Option.map_some, Option.bind_some, qseen, rseen, nself, Bool.false_eq_true, if_false, qown _ s, rown _ s, qopac _ s, ropac _ s, qinner _ s, rinner _ s, beq_self_eq_true, Bool.and_self, Bool.not_true, bne_self_eq_false, m1, m2, ro_len, Nat.zero_add, Nat.le_refl, if_true, ro_all, ps, hw, N29_2.nx]
      exact ih
    · simp only [D29_2, PT.ev, PT.test, dite_eq_ite, if_neg (show ¬ (i : Int) < (ls.length : Int) by omega), N29_2.nx]
theorem same_true (ls : List Ly) (hs : ∀ l ∈ ls, Sm l) (hm : ∀ l ∈ ls, (l.mp.length : Int) < 4611686018427387904) (hl : ls.length ≤ 1000000) (t : Int) (M : Mt) : F29 (Rl ls) t M = some (.a0 true) := by
  have h1 := same_chains ls hs hl t M 18446744073709551616 (-1) (by omega) (by omega) (by omega)
  have h2 := same_layers ls hs hm hl t M 18446744073709551616 0 (by omega) (by omega)
  rw [show ((0 : Nat) : Int) = 0 from rfl] at h2
  simp only [F29, D29, PT.ev, PT.test, dite_eq_ite, rl_len, h1, h2, Option.bind_some]
end Go.Proofs.YtifalphladcdcaaGreat.H

/- PoseNumbers in plain Lean. Conditions: those stated. -/
namespace Go.Proofs.YtifalphladcdcaaGreat.H
open Go Go.VM
set_option maxRecDepth 100000
/-- A shape whose lists are short. -/
structure So (s : Shp) : Prop where
  gl : Gl s
  wd : (s.wd.length : Int) < 4611686018427387904
  ds : (s.ds.length : Int) < 4611686018427387904
  cs : (s.cs.length : Int) < 4611686018427387904
  fr : (s.fr.length : Int) < 4611686018427387904
  to_ : (s.to_.length : Int) < 4611686018427387904
theorem So.sh0 : So sh0 := ⟨⟨by decide, by decide, by decide, fun k hk => absurd hk List.not_mem_nil⟩, by decide, by decide, by decide, by decide, by decide⟩
theorem Gy.so {k c m : Int} {ah : Bool} {l : Ly} (g : Gy k c m ah l) : So l.s := by
  rcases g.what.kind with h | h
  · have gs := (g.what.draw h).2.2
    have h1 := gs.wd.1
    have h2 := gs.ds.1
    have h3 := gs.cols.1
    have h4 := gs.fr.1
    have h5 := gs.to_.1
    exact ⟨gs.gl, by omega, by omega, by omega, by omega, by omega⟩
  · rw [(g.what.nest h).2.1]; exact So.sh0
theorem So.items {s : Shp} (g : So s) (t : Int) (M : Mt) (a : Int) : F30 (Ws s) t M a = some (.a0 true) := items_true s g.gl g.wd g.ds g.cs g.fr g.to_ t M a
theorem Gy.mp {k c m : Int} {ah : Bool} {l : Ly} (g : Gy k c m ah l) : (l.mp.length : Int) < 4611686018427387904 := by
  rcases g.mask with ⟨_, h⟩ | ⟨_, h, _⟩
  · rw [h]; decide
  · omega
abbrev MM : Mt := ⟨131072, 9, -65536, 65536, 458752, -5⟩
abbrev lyo : Ly := ⟨0, 0, 0, 0, 0, 0, 0, [], [], [], [], [], [], [], [], [], false, [], sh0⟩
theorem Sm.of {l : Ly} (h : l.x.length ≤ 2 ∧ l.y.length ≤ 2 ∧ l.ax.length ≤ 2 ∧ l.ay.length ≤ 2 ∧ l.sx.length ≤ 2 ∧ l.sy.length ≤ 2 ∧ l.tu.length ≤ 2 ∧ l.op.length ≤ 2 ∧ l.re.length ≤ 2) : Sm l := by
  obtain ⟨h1, h2, h3, h4, h5, h6, h7, h8, h9⟩ := h
  exact ⟨by omega, by omega, by omega, by omega, by omega, by omega, by omega, by omega, by omega⟩
abbrev lya : Ly := { lyo with par := 1, x := [⟨0, 65536, 0, 0, 0, 0, 0⟩] }
abbrev lyb : Ly := { lyo with par := 0, y := [⟨0, 65536, 0, 0, 0, 0, 0⟩] }
abbrev lyc : Ly := { lyo with par := 7 }
end Go.Proofs.YtifalphladcdcaaGreat.H

/- Documents with some things turned. Conditions: those stated. -/
namespace Go.Proofs.YtifalphladcdcaaGreat.H
open Go Go.VM
set_option maxRecDepth 100000
/-- An answer of keep.layer tells this layer. -/
def Is : A156 → Ly → Prop
  | .a0 w, LL => w = Wl LL
  | .a1 d f i j l m o p q s t u v w y z d0 d1 d2 d3 d4 d5 d6 d7 d8 d9 f0 f1 f2 f3 f4 f5 f6 f7 f8 f9 j0 j1 j2 j3 j4 j5 j6 j7 j8 j9 l0 l1 l2 l3 l4, LL => [i64 d, i64 f, i64 i, i64 j, i64 l, i64 m, i64 o, lS 7 (List.take p l4), lS 7 q, lS 7 s, lS 7 t, lS 7 u, lS 7 v, lS 7 w, lS 7 y, lS 7 z, vb d0, lS 2 d1, i64 d2, i64 d3, lS 7 d4, lS 7 d5, lS 8 d6, vb d7, i64 d8, i64 d9, u8 f0, u8 f1, u8 f2, u8 f3, u8 f4, u8 f5, u8 f6, u8 f7, i64 f8, i64 f9, i64 j0, i64 j1, i64 j2, lS 10 j3, vb j4, lS 7 j5, u8 j6, u8 j7, u8 j8, u8 j9, i64 l0, lS 1 l1, lS 7 l2, lS 7 l3] = (Wl LL).cells ∧ p ≤ l4.length
  | .a2 l5 l6 l7 l8 l9 m0 m1 m2 m3 m4 m5 m6 m7 m8 m9 o0 o1 o2 o3 o4 o5 o6 o7 o8 o9 p0 p1 p2 p3 p4 p5 p6 p7 p8 p9 q0 q1 q2 q3 q4 q5 q6 q7 q8 q9 t0 t1 t2 t3 t4 t5, LL => [i64 l5, i64 l6, i64 l7, i64 l8, i64 l9, i64 m0, i64 m1, lS 7 m2, lS 7 m3, lS 7 m4, lS 7 m5, lS 7 m6, lS 7 m7, lS 7 m8, lS 7 (List.take m9 t5), lS 7 o0, vb o1, lS 2 o2, i64 o3, i64 o4, lS 7 o5, lS 7 o6, lS 8 o7, vb o8, i64 o9, i64 p0, u8 p1, u8 p2, u8 p3, u8 p4, u8 p5, u8 p6, u8 p7, u8 p8, i64 p9, i64 q0, i64 q1, i64 q2, i64 q3, lS 10 q4, vb q5, lS 7 q6, u8 q7, u8 q8, u8 q9, u8 t0, i64 t1, lS 1 t2, lS 7 t3, lS 7 t4] = (Wl LL).cells ∧ m9 ≤ t5.length
  | .a3 t6 t7 t8 t9 v0 v1 v2 v3 v4 v5 v6 v7 v8 v9 y0 y1 y2 y3 y4 y5 y6 y7 y8 y9 z0 z1 z2 z3 z4 z5 z6 z7 z8 z9 d10 d11 d12 d13 d14 d15 d16 d17 d18 d19 d20 d21 d22 d23 d24 d25 d26, LL => [i64 t6, i64 t7, i64 t8, i64 t9, i64 v0, i64 v1, i64 v2, lS 7 v3, lS 7 v4, lS 7 v5, lS 7 v6, lS 7 v7, lS 7 v8, lS 7 v9, lS 7 y0, lS 7 (List.take y1 d26), vb y2, lS 2 y3, i64 y4, i64 y5, lS 7 y6, lS 7 y7, lS 8 y8, vb y9, i64 z0, i64 z1, u8 z2, u8 z3, u8 z4, u8 z5, u8 z6, u8 z7, u8 z8, u8 z9, i64 d10, i64 d11, i64 d12, i64 d13, i64 d14, lS 10 d15, vb d16, lS 7 d17, u8 d18, u8 d19, u8 d20, u8 d21, i64 d22, lS 1 d23, lS 7 d24, lS 7 d25] = (Wl LL).cells ∧ y1 ≤ d26.length
  | .a4 d27 d28 d29 d30 d31 d32 d33 d34 d35 d36 d37 d38 d39 d40 d41 d42 d43 d44 d45 d46 d47 d48 d49 d50 d51 d52 d53 d54 d55 d56 d57 d58 d59 d60 d61 d62 d63 d64 d65 d66 d67 d68 d69 d70 d71 d72 d73 d74 d75 d76 d77, LL => [i64 d27, i64 d28, i64 d29, i64 d30, i64 d31, i64 d32, i64 d33, lS 7 d34, lS 7 d35, lS 7 d36, lS 7 d37, lS 7 d38, lS 7 d39, lS 7 d40, lS 7 d41, lS 7 d42, vb d43, lS 2 (List.take d44 d77), i64 d45, i64 d46, lS 7 d47, lS 7 d48, lS 8 d49, vb d50, i64 d51, i64 d52, u8 d53, u8 d54, u8 d55, u8 d56, u8 d57, u8 d58, u8 d59, u8 d60, i64 d61, i64 d62, i64 d63, i64 d64, i64 d65, lS 10 d66, vb d67, lS 7 d68, u8 d69, u8 d70, u8 d71, u8 d72, i64 d73, lS 1 d74, lS 7 d75, lS 7 d76] = (Wl LL).cells ∧ d44 ≤ d77.length
  | .a5 d78 d79 d80 d81 d82 d83 d84 d85 d86 d87 d88 d89 d90 d91 d92 d93 d94 d95 d96 d97 d98 d99 f10 f11 f12 f13 f14 f15 f16 f17 f18 f19 f20 f21 f22 f23 f24 f25 f26 f27 f28 f29 f30 f31 f32 f33 f34 f35 f36 f37 f38, LL => [i64 d78, i64 d79, i64 d80, i64 d81, i64 d82, i64 d83, i64 d84, lS 7 d85, lS 7 d86, lS 7 d87, lS 7 d88, lS 7 d89, lS 7 d90, lS 7 d91, lS 7 d92, lS 7 d93, vb d94, lS 2 d95, i64 d96, i64 d97, lS 7 (List.take d98 f38), lS 7 d99, lS 8 f10, vb f11, i64 f12, i64 f13, u8 f14, u8 f15, u8 f16, u8 f17, u8 f18, u8 f19, u8 f20, u8 f21, i64 f22, i64 f23, i64 f24, i64 f25, i64 f26, lS 10 f27, vb f28, lS 7 f29, u8 f30, u8 f31, u8 f32, u8 f33, i64 f34, lS 1 f35, lS 7 f36, lS 7 f37] = (Wl LL).cells ∧ d98 ≤ f38.length
  | .a6 f39 f40 f41 f42 f43 f44 f45 f46 f47 f48 f49 f50 f51 f52 f53 f54 f55 f56 f57 f58 f59 f60 f61 f62 f63 f64 f65 f66 f67 f68 f69 f70 f71 f72 f73 f74 f75 f76 f77 f78 f79 f80 f81 f82 f83 f84 f85 f86 f87 f88 f89, LL => [i64 f39, i64 f40, i64 f41, i64 f42, i64 f43, i64 f44, i64 f45, lS 7 f46, lS 7 f47, lS 7 f48, lS 7 f49, lS 7 f50, lS 7 f51, lS 7 f52, lS 7 f53, lS 7 f54, vb f55, lS 2 f56, i64 f57, i64 f58, lS 7 f59, lS 7 f60, lS 8 (List.take f61 f89), vb f62, i64 f63, i64 f64, u8 f65, u8 f66, u8 f67, u8 f68, u8 f69, u8 f70, u8 f71, u8 f72, i64 f73, i64 f74, i64 f75, i64 f76, i64 f77, lS 10 f78, vb f79, lS 7 f80, u8 f81, u8 f82, u8 f83, u8 f84, i64 f85, lS 1 f86, lS 7 f87, lS 7 f88] = (Wl LL).cells ∧ f61 ≤ f89.length
  | .a7 f90 f91 f92 f93 f94 f95 f96 f97 f98 f99 j10 j11 j12 j13 j14 j15 j16 j17 j18 j19 j20 j21 j22 j23 j24 j25 j26 j27 j28 j29 j30 j31 j32 j33 j34 j35 j36 j37 j38 j39 j40 j41 j42 j43 j44 j45 j46 j47 j48 j49 j50, LL => [i64 f90, i64 f91, i64 f92, i64 f93, i64 f94, i64 f95, i64 f96, lS 7 f97, lS 7 f98, lS 7 f99, lS 7 j10, lS 7 j11, lS 7 j12, lS 7 j13, lS 7 j14, lS 7 j15, vb j16, lS 2 j17, i64 j18, i64 j19, lS 7 j20, lS 7 j21, lS 8 j22, vb j23, i64 j24, i64 j25, u8 j26, u8 j27, u8 j28, u8 j29, u8 j30, u8 j31, u8 j32, u8 j33, i64 j34, i64 j35, i64 j36, i64 j37, i64 j38, lS 10 (List.take j39 j50), vb j40, lS 7 j41, u8 j42, u8 j43, u8 j44, u8 j45, i64 j46, lS 1 j47, lS 7 j48, lS 7 j49] = (Wl LL).cells ∧ j39 ≤ j50.length
  | .a8 j51 j52 j53 j54 j55 j56 j57 j58 j59 j60 j61 j62 j63 j64 j65 j66 j67 j68 j69 j70 j71 j72 j73 j74 j75 j76 j77 j78 j79 j80 j81 j82 j83 j84 j85 j86 j87 j88 j89 j90 j91 j92 j93 j94 j95 j96 j97 j98 j99 l10 l11, LL => [i64 j51, i64 j52, i64 j53, i64 j54, i64 j55, i64 j56, i64 j57, lS 7 j58, lS 7 j59, lS 7 j60, lS 7 j61, lS 7 j62, lS 7 j63, lS 7 j64, lS 7 j65, lS 7 j66, vb j67, lS 2 j68, i64 j69, i64 j70, lS 7 j71, lS 7 j72, lS 8 j73, vb j74, i64 j75, i64 j76, u8 j77, u8 j78, u8 j79, u8 j80, u8 j81, u8 j82, u8 j83, u8 j84, i64 j85, i64 j86, i64 j87, i64 j88, i64 j89, lS 10 j90, vb j91, lS 7 j92, u8 j93, u8 j94, u8 j95, u8 j96, i64 j97, lS 1 (List.take j98 l11), lS 7 j99, lS 7 l10] = (Wl LL).cells ∧ j98 ≤ l11.length
  | .a9 l12 l13 l14 l15 l16 l17 l18 l19 l20 l21 l22 l23 l24 l25 l26 l27 l28 l29 l30 l31 l32 l33 l34 l35 l36 l37 l38 l39 l40 l41 l42 l43 l44 l45 l46 l47 l48 l49 l50 l51 l52 l53 l54 l55 l56 l57 l58 l59 l60 l61 l62, LL => [i64 l12, i64 l13, i64 l14, i64 l15, i64 l16, i64 l17, i64 l18, lS 7 l19, lS 7 l20, lS 7 l21, lS 7 l22, lS 7 l23, lS 7 l24, lS 7 l25, lS 7 l26, lS 7 l27, vb l28, lS 2 l29, i64 l30, i64 l31, lS 7 l32, lS 7 l33, lS 8 l34, vb l35, i64 l36, i64 l37, u8 l38, u8 l39, u8 l40, u8 l41, u8 l42, u8 l43, u8 l44, u8 l45, i64 l46, i64 l47, i64 l48, i64 l49, i64 l50, lS 10 l51, vb l52, lS 7 l53, u8 l54, u8 l55, u8 l56, u8 l57, i64 l58, lS 1 l59, lS 7 l60, lS 7 (List.take l61 l62)] = (Wl LL).cells ∧ l61 ≤ l62.length
/-- A layer whose lists are short, its first keys no more than so many. -/
structure Sn (n : Nat) (l : Ly) : Prop where
  x : l.x.length ≤ n
  sm : Sm l
  so : So l.s
  mp : (l.mp.length : Int) < 4611686018427387904
theorem oat_ex (d k : Int) (hk : k ≤ 4611686018427387904) : ∃ v : Int, F155 d k = some (.a0 v) ∧ 0 ≤ v ∧ v < max k 1 := by
  obtain ⟨v, e, h1, _, _⟩ := within_in d 0 1048576 (by omega) (by omega) (by omega)
  by_cases c : (1 : Int) > k
  · have hz : ¬ (1 : Int) = 0 := by decide
    refine ⟨Int.tmod v 1, ?_, Int.tmod_nonneg _ h1, ?_⟩
    · simp only [F155, D155, PT.ev, PT.test, dite_eq_ite, e, Option.bind_some, if_pos c, if_neg hz]
    · have := Int.tmod_lt_of_pos v (show (0 : Int) < 1 by decide); omega
  · have hz : ¬ k = 0 := by omega
    refine ⟨Int.tmod v k, ?_, Int.tmod_nonneg _ h1, ?_⟩
    · simp only [F155, D155, PT.ev, PT.test, dite_eq_ite, e, Option.bind_some, if_neg c, if_neg hz]
    · have := Int.tmod_lt_of_pos v (show (0 : Int) < k by omega); omega
abbrev b7 (N : Int) : Int := w64 (↑(BitVec.toNat (BitVec.ofInt (IntKind.bits IntKind.i64) N &&& BitVec.ofInt (IntKind.bits IntKind.i64) 7)))
theorem b7_in (N : Int) : 0 ≤ b7 N ∧ b7 N ≤ 7 := by
  have h : BitVec.toNat (BitVec.ofInt (IntKind.bits IntKind.i64) N &&& BitVec.ofInt (IntKind.bits IntKind.i64) 7) ≤ 7 := by
    rw [BitVec.toNat_and]; exact Nat.le_trans Nat.and_le_right (by decide)
  show 0 ≤ w64 _ ∧ w64 _ ≤ 7
  rw [w64_in (by omega) (by omega)]
  omega
theorem rep_pts (n : Nat) : List.replicate n [i64 0, i64 0] = Rp (List.replicate n ⟨0, 0⟩) := by rw [Rp, List.map_replicate]
theorem app_rn (xs : List Ky) (k : Ky) : List.take (0 + (Rn xs).length + 1) (List.take (0 + (Rn xs).length) ([] ++ Rn xs) ++ [k.cells]) = Rn (xs ++ [k]) := by
  rw [Nat.zero_add, List.nil_append, List.take_length, List.take_of_length_le (by rw [List.length_append]; exact Nat.le_refl _), Rn, Rn, List.map_append]; rfl
theorem lay_ex (n : Nat) (hn : n ≤ 1000) (l : Ly) (g : Sn n l) (q z1 z2 N : Int) : ∃ r l', F156 (Wl l) q z1 z2 N = some r ∧ Is r l' ∧ Sn (n + 1) l' := by
  obtain ⟨f, e, f0, f1⟩ := oat_ex q 23 (by decide)
  have hb := b7_in N
  have gx := g.x
  simp only [F156, D156, PT.ev, PT.test, dite_eq_ite, e, Option.bind_some]
  simp only [show w64 (↑(BitVec.toNat (BitVec.ofInt (IntKind.bits IntKind.i64) N &&& BitVec.ofInt (IntKind.bits IntKind.i64) 7))) = b7 N from rfl]
  generalize b7 N = b at *
  by_cases c0 : f = 0
  · subst c0; simp only [J156_c41, D156_c41, J156_c107, D156_c107, PT.ev, PT.test, dite_eq_ite, Option.bind_some, Int.reduceBEq, Bool.false_eq_true, if_false, if_true]
    exact ⟨_, { l with kind := w64 (b - 1) }, rfl, rfl, ⟨Nat.le_succ_of_le g.x, { g.sm with x := g.sm.x }, { g.so with wd := g.so.wd }, g.mp⟩⟩
  by_cases c1 : f = 1
  · subst c1; simp only [J156_c41, D156_c41, J156_c107, D156_c107, PT.ev, PT.test, dite_eq_ite, Option.bind_some, Int.reduceBEq, Bool.false_eq_true, if_false, if_true]
    exact ⟨_, { l with par := w64 (b - 2) }, rfl, rfl, ⟨Nat.le_succ_of_le g.x, { g.sm with x := g.sm.x }, { g.so with wd := g.so.wd }, g.mp⟩⟩
  by_cases c2 : f = 2
  · subst c2; simp only [J156_c41, D156_c41, J156_c107, D156_c107, PT.ev, PT.test, dite_eq_ite, Option.bind_some, Int.reduceBEq, Bool.false_eq_true, if_false, if_true]
    exact ⟨_, { l with comp := b }, rfl, rfl, ⟨Nat.le_succ_of_le g.x, { g.sm with x := g.sm.x }, { g.so with wd := g.so.wd }, g.mp⟩⟩
  by_cases c3 : f = 3
  · subst c3; simp only [J156_c41, D156_c41, J156_c107, D156_c107, PT.ev, PT.test, dite_eq_ite, Option.bind_some, Int.reduceBEq, Bool.false_eq_true, if_false, if_true]
    exact ⟨_, { l with mat := w64 (b - 2) }, rfl, rfl, ⟨Nat.le_succ_of_le g.x, { g.sm with x := g.sm.x }, { g.so with wd := g.so.wd }, g.mp⟩⟩
  by_cases c4 : f = 4
  · subst c4; simp only [J156_c41, D156_c41, J156_c107, D156_c107, PT.ev, PT.test, dite_eq_ite, Option.bind_some, Int.reduceBEq, Bool.false_eq_true, if_false, if_true]
    exact ⟨_, { l with inn := N }, rfl, rfl, ⟨Nat.le_succ_of_le g.x, { g.sm with x := g.sm.x }, { g.so with wd := g.so.wd }, g.mp⟩⟩
  by_cases c5 : f = 5
  · subst c5; simp only [J156_c41, D156_c41, J156_c107, D156_c107, PT.ev, PT.test, dite_eq_ite, Option.bind_some, Int.reduceBEq, Bool.false_eq_true, if_false, if_true]
    exact ⟨_, { l with out := N }, rfl, rfl, ⟨Nat.le_succ_of_le g.x, { g.sm with x := g.sm.x }, { g.so with wd := g.so.wd }, g.mp⟩⟩
  by_cases c6 : f = 6
  · subst c6; simp only [J156_c41, D156_c41, J156_c107, D156_c107, PT.ev, PT.test, dite_eq_ite, Option.bind_some, Int.reduceBEq, Bool.false_eq_true, if_false, if_true]
    exact ⟨_, { l with st := N }, rfl, rfl, ⟨Nat.le_succ_of_le g.x, { g.sm with x := g.sm.x }, { g.so with wd := g.so.wd }, g.mp⟩⟩
  by_cases c7 : f = 7
  · subst c7; simp only [J156_c41, D156_c41, J156_c107, D156_c107, PT.ev, PT.test, dite_eq_ite, Option.bind_some, Int.reduceBEq, Bool.false_eq_true, if_false, if_true, if_pos (show 0 ≤ 0 ∧ (0 + (Rn l.x).length) * 56 ≤ 140737488355328 ∧ 0 + (Rn l.x).length ≤ 140737488355328 by rw [List.length_map]; omega), if_pos (show 0 + (0 + (Rn l.x).length) ≤ ([] ++ Rn l.x).length ∧ (0 + (Rn l.x).length + 1) * 56 ≤ 140737488355328 ∧ 0 + (Rn l.x).length + 1 ≤ 140737488355328 by rw [List.nil_append, List.length_map]; omega)]
    have hx : ((l.x ++ [(⟨N, N, 0, 0, 0, 0, 0⟩ : Ky)]).length : Int) < 4611686018427387904 := by rw [List.length_append, List.length_singleton]; omega
    exact ⟨_, { l with x := l.x ++ [⟨N, N, 0, 0, 0, 0, 0⟩] }, rfl, ⟨by have h : List.take (0 + (Rn l.x).length + 1) (List.take (0 + (Rn l.x).length) ([] ++ Rn l.x) ++ [[i64 N, i64 N, i64 0, i64 0, i64 0, i64 0, i64 0]]) = Rn (l.x ++ [⟨N, N, 0, 0, 0, 0, 0⟩]) := app_rn l.x ⟨N, N, 0, 0, 0, 0, 0⟩; rw [h], by rw [List.length_append, List.length_take, List.nil_append, List.length_map, List.length_singleton]; omega⟩, ⟨by show (l.x ++ [_]).length ≤ n + 1; rw [List.length_append, List.length_singleton]; omega, { g.sm with x := hx }, g.so, g.mp⟩⟩
  by_cases c8 : f = 8
  · subst c8; simp only [J156_c41, D156_c41, J156_c107, D156_c107, PT.ev, PT.test, dite_eq_ite, Option.bind_some, Int.reduceBEq, Bool.false_eq_true, if_false, if_true]
    exact ⟨_, { l with op := [⟨0, N, w64 (b - 1), 0, 0, 0, 0⟩] }, rfl, ⟨rfl, Nat.le_refl _⟩, ⟨Nat.le_succ_of_le g.x, { g.sm with op := (by show (1 : Int) < _; decide) }, { g.so with wd := g.so.wd }, g.mp⟩⟩
  by_cases c9 : f = 9
  · subst c9; simp only [J156_c41, D156_c41, J156_c107, D156_c107, PT.ev, PT.test, dite_eq_ite, Option.bind_some, Int.reduceBEq, Bool.false_eq_true, if_false, if_true]
    exact ⟨_, { l with re := [⟨N, 0, 0, 0, 0, 0, 0⟩] }, rfl, ⟨rfl, Nat.le_refl _⟩, ⟨Nat.le_succ_of_le g.x, { g.sm with re := (by show (1 : Int) < _; decide) }, { g.so with wd := g.so.wd }, g.mp⟩⟩
  by_cases c10 : f = 10
  · subst c10; simp only [J156_c41, D156_c41, J156_c107, D156_c107, PT.ev, PT.test, dite_eq_ite, Option.bind_some, Int.reduceBEq, Bool.false_eq_true, if_false, if_true, if_pos (show 0 ≤ b ∧ b ≤ b ∧ b ≤ 140737488355328 ∧ b * 16 ≤ 140737488355328 by omega)]
    exact ⟨_, { l with mc := w64 (↑(BitVec.toNat (BitVec.ofInt (IntKind.bits IntKind.i64) b &&& BitVec.ofInt (IntKind.bits IntKind.i64) 1))) == 0, mp := List.replicate b.toNat ⟨0, 0⟩ }, rfl, ⟨by rw [List.take_of_length_le (by rw [List.length_replicate]; exact Nat.le_refl _), rep_pts], by rw [List.length_replicate]; exact Nat.le_refl _⟩, ⟨Nat.le_succ_of_le g.x, { g.sm with x := g.sm.x }, { g.so with wd := g.so.wd }, (by show ((List.replicate b.toNat _).length : Int) < _; rw [List.length_replicate]; omega)⟩⟩
  by_cases c11 : f = 11
  · subst c11; simp only [J156_c41, D156_c41, J156_c107, D156_c107, PT.ev, PT.test, dite_eq_ite, Option.bind_some, Int.reduceBEq, Bool.false_eq_true, if_false, if_true]
    exact ⟨_, { l with s := { l.s with form := w64 (b - 1) } }, rfl, rfl, ⟨Nat.le_succ_of_le g.x, { g.sm with x := g.sm.x }, { g.so with gl := { g.so.gl with w := g.so.gl.w } }, g.mp⟩⟩
  by_cases c12 : f = 12
  · subst c12; simp only [J156_c41, D156_c41, J156_c107, D156_c107, PT.ev, PT.test, dite_eq_ite, Option.bind_some, Int.reduceBEq, Bool.false_eq_true, if_false, if_true]
    exact ⟨_, { l with s := { l.s with n := b } }, rfl, rfl, ⟨Nat.le_succ_of_le g.x, { g.sm with x := g.sm.x }, { g.so with gl := { g.so.gl with w := g.so.gl.w } }, g.mp⟩⟩
  by_cases c13 : f = 13
  · subst c13; simp only [J156_c41, D156_c41, J156_c107, D156_c107, PT.ev, PT.test, dite_eq_ite, Option.bind_some, Int.reduceBEq, Bool.false_eq_true, if_false, if_true]
    exact ⟨_, { l with s := { l.s with w := [⟨N, N, 0, 0, 0, 0, 0⟩, ⟨5, 0, 0, 0, 0, 0, 0⟩] } }, rfl, ⟨rfl, Nat.le_refl _⟩, ⟨Nat.le_succ_of_le g.x, { g.sm with x := g.sm.x }, { g.so with gl := { g.so.gl with w := (by show (2 : Int) < _; decide) } }, g.mp⟩⟩
  by_cases c14 : f = 14
  · subst c14; simp only [J156_c41, D156_c41, J156_c107, D156_c107, PT.ev, PT.test, dite_eq_ite, Option.bind_some, Int.reduceBEq, Bool.false_eq_true, if_false, if_true, if_pos (show 0 ≤ b ∧ b ≤ b ∧ b ≤ 140737488355328 ∧ b * 16 ≤ 140737488355328 by omega), if_pos (show 0 + b.toNat ≤ (List.replicate b.toNat [i64 0, i64 0]).length by rw [List.length_replicate]; omega)]
    exact ⟨_, { l with s := { l.s with ps := [⟨0, false, Rp (List.replicate b.toNat ⟨0, 0⟩), 0, 0, 0, 0, 0⟩] } }, rfl, ⟨by have h : List.take b.toNat (List.replicate b.toNat [i64 0, i64 0]) = Rp (List.replicate b.toNat ⟨0, 0⟩) := (by rw [List.take_of_length_le (by rw [List.length_replicate]; exact Nat.le_refl _), rep_pts]); rw [h]; rfl, Nat.le_refl _⟩, ⟨Nat.le_succ_of_le g.x, { g.sm with x := g.sm.x }, { g.so with gl := { g.so.gl with ps := (by show (1 : Int) < _; decide), gk := (fun k hk => by rw [List.mem_singleton.1 hk]; exact ⟨List.replicate b.toNat ⟨0, 0⟩, rfl, by rw [List.length_replicate]; omega, fun p hp => by rw [(List.mem_replicate.1 hp).2]; exact ⟨rfl, rfl⟩⟩) } }, g.mp⟩⟩
  by_cases c15 : f = 15
  · subst c15; simp only [J156_c41, D156_c41, J156_c107, D156_c107, PT.ev, PT.test, dite_eq_ite, Option.bind_some, Int.reduceBEq, Bool.false_eq_true, if_false, if_true]
    exact ⟨_, { l with s := { l.s with rule := w64 (b - 1) } }, rfl, rfl, ⟨Nat.le_succ_of_le g.x, { g.sm with x := g.sm.x }, { g.so with gl := { g.so.gl with w := g.so.gl.w } }, g.mp⟩⟩
  by_cases c16 : f = 16
  · subst c16; simp only [J156_c41, D156_c41, J156_c107, D156_c107, PT.ev, PT.test, dite_eq_ite, Option.bind_some, Int.reduceBEq, Bool.false_eq_true, if_false, if_true]
    exact ⟨_, { l with s := { l.s with p0 := w64 (b - 1), p1 := 0, p2 := 0, p3 := 0, p4 := 0, p5 := 0, p6 := 0, p7 := 0, p8 := 0, p9 := 0, p10 := 0, p11 := 0, p12 := 0, p13 := N } }, rfl, rfl, ⟨Nat.le_succ_of_le g.x, { g.sm with x := g.sm.x }, { g.so with gl := { g.so.gl with w := g.so.gl.w } }, g.mp⟩⟩
  by_cases c17 : f = 17
  · subst c17; simp only [J156_c41, D156_c41, J156_c107, D156_c107, PT.ev, PT.test, dite_eq_ite, Option.bind_some, Int.reduceBEq, Bool.false_eq_true, if_false, if_true]
    exact ⟨_, { l with s := { l.s with cs := [⟨N, 0, 0, 0, 0, 0, 0, 0, 0, 0⟩, ⟨3, 0, 0, 0, 0, 0, 0, 0, 0, 0⟩] } }, rfl, ⟨rfl, Nat.le_refl _⟩, ⟨Nat.le_succ_of_le g.x, { g.sm with x := g.sm.x }, { g.so with gl := { g.so.gl with w := g.so.gl.w }, cs := (by show (2 : Int) < _; decide) }, g.mp⟩⟩
  by_cases c18 : f = 18
  · subst c18; simp only [J156_c41, D156_c41, J156_c107, D156_c107, PT.ev, PT.test, dite_eq_ite, Option.bind_some, Int.reduceBEq, Bool.false_eq_true, if_false, if_true]
    exact ⟨_, { l with s := { l.s with cap := b } }, rfl, rfl, ⟨Nat.le_succ_of_le g.x, { g.sm with x := g.sm.x }, { g.so with gl := { g.so.gl with w := g.so.gl.w } }, g.mp⟩⟩
  by_cases c19 : f = 19
  · subst c19; simp only [J156_c41, D156_c41, J156_c107, D156_c107, PT.ev, PT.test, dite_eq_ite, Option.bind_some, Int.reduceBEq, Bool.false_eq_true, if_false, if_true]
    exact ⟨_, { l with s := { l.s with ds := [⟨N⟩] } }, rfl, ⟨rfl, Nat.le_refl _⟩, ⟨Nat.le_succ_of_le g.x, { g.sm with x := g.sm.x }, { g.so with gl := { g.so.gl with w := g.so.gl.w }, ds := (by show (1 : Int) < _; decide) }, g.mp⟩⟩
  by_cases c20 : f = 20
  · subst c20; simp only [J156_c41, D156_c41, J156_c107, D156_c107, PT.ev, PT.test, dite_eq_ite, Option.bind_some, Int.reduceBEq, Bool.false_eq_true, if_false, if_true]
    exact ⟨_, { l with x := [] }, rfl, ⟨rfl, Nat.le_refl _⟩, ⟨Nat.zero_le _, { g.sm with x := (by show (0 : Int) < _; decide) }, g.so, g.mp⟩⟩
  by_cases c21 : f = 21
  · subst c21; simp only [J156_c41, D156_c41, J156_c107, D156_c107, PT.ev, PT.test, dite_eq_ite, Option.bind_some, Int.reduceBEq, Bool.false_eq_true, if_false, if_true]
    exact ⟨_, { l with s := { l.s with to_ := [⟨0, N, 2, N, 0, 0, 0⟩] } }, rfl, ⟨rfl, Nat.le_refl _⟩, ⟨Nat.le_succ_of_le g.x, { g.sm with x := g.sm.x }, { g.so with gl := { g.so.gl with w := g.so.gl.w }, to_ := (by show (1 : Int) < _; decide) }, g.mp⟩⟩
  simp only [J156_c41, D156_c41, J156_c107, D156_c107, PT.ev, PT.test, dite_eq_ite, Option.bind_some, Int.reduceBEq, Bool.false_eq_true, if_false, if_true, beq_eq_false_iff_ne.2 c0, beq_eq_false_iff_ne.2 c1, beq_eq_false_iff_ne.2 c2, beq_eq_false_iff_ne.2 c3, beq_eq_false_iff_ne.2 c4, beq_eq_false_iff_ne.2 c5, beq_eq_false_iff_ne.2 c6, beq_eq_false_iff_ne.2 c7, beq_eq_false_iff_ne.2 c8, beq_eq_false_iff_ne.2 c9, beq_eq_false_iff_ne.2 c10, beq_eq_false_iff_ne.2 c11, beq_eq_false_iff_ne.2 c12, beq_eq_false_iff_ne.2 c13, beq_eq_false_iff_ne.2 c14, beq_eq_false_iff_ne.2 c15, beq_eq_false_iff_ne.2 c16, beq_eq_false_iff_ne.2 c17, beq_eq_false_iff_ne.2 c18, beq_eq_false_iff_ne.2 c19, beq_eq_false_iff_ne.2 c20, beq_eq_false_iff_ne.2 c21]
  exact ⟨_, l, rfl, rfl, ⟨Nat.le_succ_of_le g.x, { g.sm with x := g.sm.x }, { g.so with wd := g.so.wd }, g.mp⟩⟩
theorem rcs_set (C : List (List Ly)) (k : Nat) (c : List Ly) : List.set (Rcs C) k [V.list 50 (Rl c)] = Rcs (C.set k c) := by rw [Rcs, Rcs, List.map_set]
theorem rl_set (ls : List Ly) (k : Nat) (l : Ly) : List.set (Rl ls) k (Wl l).cells = Rl (ls.set k l) := by rw [Rl, Rl, List.map_set]
theorem rl_take (ls : List Ly) : List.take ls.length (Rl ls) = Rl ls := List.take_of_length_le (by rw [rl_len]; exact Nat.le_refl _)
theorem rcs_take (C : List (List Ly)) : List.take C.length (Rcs C) = Rcs C := List.take_of_length_le (by rw [rcs_len]; exact Nat.le_refl _)
/-- Comps whose layers are few, and short. -/
structure Cn (n m k : Nat) (C : List (List Ly)) : Prop where
  len : C.length ≤ k
  ly : ∀ c ∈ C, c.length ≤ m ∧ ∀ l ∈ c, Sn n l
theorem Cn.set {n m k : Nat} {C : List (List Ly)} (g : Cn n m k C) (j : Nat) {c : List Ly} (h1 : c.length ≤ 2 * m) (h2 : ∀ l ∈ c, Sn (n + 1) l) : Cn (n + 1) (2 * m) (k + 1) (C.set j c) :=
  ⟨by rw [List.length_set]; exact Nat.le_succ_of_le g.len, fun x hx => by
    rcases List.mem_or_eq_of_mem_set hx with h | rfl
    · obtain ⟨a, b⟩ := g.ly x h
      exact ⟨by omega, fun l hl => ⟨Nat.le_succ_of_le (b l hl).x, (b l hl).sm, (b l hl).so, (b l hl).mp⟩⟩
    · exact ⟨h1, h2⟩⟩
theorem Cn.up {n m k : Nat} {C : List (List Ly)} (g : Cn n m k C) : Cn (n + 1) (2 * m) (k + 1) C :=
  ⟨Nat.le_succ_of_le g.len, fun x h => by
    obtain ⟨a, b⟩ := g.ly x h
    exact ⟨by omega, fun l hl => ⟨Nat.le_succ_of_le (b l hl).x, (b l hl).sm, (b l hl).so, (b l hl).mp⟩⟩⟩
theorem Sn.setl {n : Nat} {ls : List Ly} (h : ∀ l ∈ ls, Sn n l) (k : Nat) {x : Ly} (hx : Sn (n + 1) x) : ∀ l ∈ ls.set k x, Sn (n + 1) l := fun l hl => by
  rcases List.mem_or_eq_of_mem_set hl with h1 | rfl
  · exact ⟨Nat.le_succ_of_le (h l h1).x, (h l h1).sm, (h l h1).so, (h l h1).mp⟩
  · exact hx
theorem rl_app (ls : List Ly) : Rl ls ++ Rl ls = Rl (ls ++ ls) := by rw [Rl, Rl, List.map_append]
theorem odd_r2 (C : List (List Ly)) (X : List (List V)) (i o q z1 z2 N : Int) : ∃ b, J90_r2 (.mk (Rcs C) i o C.length q z1 z2 N X) = some (.e0 (.mk b (Rcs C) i o C.length q z1 z2 N X)) ∧ (b = false → C.length ≠ 0) := by
  simp only [J90_r2, D90_r2, PT.ev, PT.test, dite_eq_ite]
  by_cases h : (Int.tmod q 9 == 8) = true
  · rw [if_pos h]; exact ⟨_, rfl, fun h => by cases h⟩
  · rw [if_neg h]; exact ⟨_, rfl, fun h => by rw [beq_eq_false_iff_ne] at h; omega⟩
theorem odd_c28 (n m k : Nat) (C : List (List Ly)) (g : Cn n m k C) (hk : k ≤ 1000) (v i o q z1 z2 N : Int) : ∃ i' o' C', J90_c28 (.mk v (v == 0) (Rcs C) i o C.length q z1 z2 N (Rcs C)) = some (.e0 (.mk (Rcs C) i' o' C'.length (Rcs C'))) ∧ Cn (n + 1) (2 * m) (k + 1) C' := by
  have hl := g.len
  simp only [J90_c28, D90_c28, J90_c33, D90_c33, J90_c38, D90_c38, PT.ev, PT.test, dite_eq_ite, Option.bind_some]
  by_cases h0 : (v == 0) = true
  · simp only [if_pos h0]; exact ⟨_, _, C, rfl, g.up⟩
  · by_cases h1 : (v == 1) = true
    · simp only [if_neg h0, if_pos h1]; exact ⟨_, _, C, rfl, g.up⟩
    · by_cases h2 : (v == 2) = true
      · have hq : 0 + C.length ≤ (Rcs C).length ∧ (C.length + 1) * 24 ≤ 140737488355328 ∧ C.length + 1 ≤ 140737488355328 := by rw [rcs_len]; omega
        simp only [if_neg h0, if_neg h1, if_pos h2, if_pos hq, Option.bind_some]
        have e : List.take C.length (Rcs C) ++ [[V.list 50 []]] = Rcs (C ++ [[]]) := by rw [rcs_take, Rcs, Rcs, List.map_append]; rfl
        rw [e]
        refine ⟨i, o, C ++ [[]], ?_, ⟨by rw [List.length_append, List.length_singleton]; omega, fun x hx => ?_⟩⟩
        · rw [List.length_append, List.length_singleton]
        · rcases List.mem_append.1 hx with h | h
          · exact g.up.ly x h
          · rw [List.mem_singleton.1 h]; exact ⟨Nat.zero_le _, fun l hl => absurd hl List.not_mem_nil⟩
      · simp only [if_neg h0, if_neg h1, if_neg h2, Option.bind_some]
        exact ⟨i, o, [], rfl, ⟨Nat.zero_le _, fun x hx => absurd hx List.not_mem_nil⟩⟩
theorem odd_ex (n m k : Nat) (hn : n ≤ 1000) (hm : m ≤ 1000) (hk : k ≤ 1000) (C : List (List Ly)) (g : Cn n m k C) (i o q z1 z2 N : Int) :
    ∃ i' o' C', F90 i o C.length q z1 z2 N (Rcs C) = some (.a0 i' o' C'.length (Rcs C) (Rcs C')) ∧ Cn (n + 1) (2 * m) (k + 1) C' := by
  have hl := g.len
  obtain ⟨b, e2, hb⟩ := odd_r2 C (Rcs C) i o q z1 z2 N
  have q1 : C.length * 24 ≤ 140737488355328 ∧ C.length ≤ 140737488355328 := by omega
  simp (config := { maxSteps := 4000000 }) only [F90, D90, PT.ev, PT.test, dite_eq_ite, rcs_take, rcs_len, Nat.zero_add, List.nil_append, Nat.le_refl, true_and, if_true, if_pos q1, e2, Option.bind_some]
  cases b with
  | true =>
    obtain ⟨v, ev, _, _⟩ := oat_ex (w64 (Int.tdiv q 9)) 4 (by decide)
    obtain ⟨i', o', C', e, g'⟩ := odd_c28 n m k C g hk v i o q z1 z2 N
    simp only [if_true, ev, Option.bind_some, e]
    exact ⟨_, _, _, rfl, g'⟩
  | false =>
    have hne := hb rfl
    obtain ⟨j, ej, j0, j1⟩ := oat_ex z1 C.length (by omega)
    have hj : j.toNat < C.length := by omega
    have q2 : 0 ≤ j ∧ j < (C.length : Int) := by omega
    obtain ⟨gl, gy⟩ := g.ly C[j.toNat] (List.getElem_mem hj)
    generalize hc : C[j.toNat] = ls at gl gy
    have q3 : ls.length * 608 ≤ 140737488355328 ∧ ls.length ≤ 140737488355328 := by omega
    simp only [Bool.false_eq_true, if_false, ej, Option.bind_some, dif_pos q2, if_pos q2, rcs_get, List.getElem?_eq_getElem hj, hc, Option.map_some, rl_len, Nat.zero_add, List.nil_append, Nat.le_refl, true_and, if_pos q3]
    by_cases hz : ((ls.length : Int) == 0) = true
    · rw [if_pos hz]; exact ⟨_, _, C, rfl, g.up⟩
    · have hz' : ls.length ≠ 0 := fun h => hz (by rw [h]; rfl)
      obtain ⟨f, ef, f0, f1⟩ := oat_ex z2 ls.length (by omega)
      have hf : f.toNat < ls.length := by omega
      have q4 : 0 ≤ f ∧ f < (ls.length : Int) := by omega
      obtain ⟨r, l', er, hr, gl'⟩ := lay_ex n hn ls[f.toNat] (gy _ (List.getElem_mem hf)) q z1 z2 N
      obtain ⟨w, ew, _, _⟩ := oat_ex q 23 (by decide)
      simp only [if_neg hz, ef, Option.bind_some, dif_pos q4, if_pos q4, Nat.zero_add, rl_get, List.getElem?_eq_getElem hf, Option.map_some, er]
      have gs := Sn.setl gy f.toNat gl'
      have hset := rl_set ls f.toNat l'
      have hlen : (ls.set f.toNat l').length = ls.length := List.length_set ..
      generalize ls.set f.toNat l' = ls' at gs hlen hset
      have q5 : (ls.length + ls.length) * 608 ≤ 140737488355328 ∧ ls.length + ls.length ≤ 140737488355328 := by omega
      have t1 : List.take ls.length (Rl ls') = Rl ls' := by rw [← hlen, rl_take]
      have t2 : List.take (ls.length + ls.length) (Rl ls' ++ Rl ls') = Rl (ls' ++ ls') := by rw [rl_app, ← hlen, ← List.length_append, rl_take]
      have t3 : (Rl ls' ++ Rl ls').length = ls.length + ls.length := by rw [List.length_append, rl_len, hlen]
      have fin : ∃ i' o' C', (if (w == 22) = true then some (A90.a0 i o C.length (Rcs C) (Rcs (C.set j.toNat (ls' ++ ls')))) else some (A90.a0 i o C.length (Rcs C) (Rcs (C.set j.toNat ls')))) = some (.a0 i' o' C'.length (Rcs C) (Rcs C')) ∧ Cn (n + 1) (2 * m) (k + 1) C' := by
        by_cases h : (w == 22) = true
        · rw [if_pos h]
          exact ⟨i, o, C.set j.toNat (ls' ++ ls'), by rw [List.length_set], g.set j.toNat (by rw [List.length_append]; omega) (fun l hl => (List.mem_append.1 hl).elim (gs l) (gs l))⟩
        · rw [if_neg h]
          exact ⟨i, o, C.set j.toNat ls', by rw [List.length_set], g.set j.toNat (by omega) gs⟩
      cases r
      case a0 x =>
        have hx : x = Wl l' := hr
        subst hx
        simp only [hset, ew, Option.bind_some, rl_len, hlen, Nat.zero_add, List.nil_append, Nat.le_refl, true_and, if_true, t1, if_pos q5, PT.ev, PT.test, dite_eq_ite, dif_pos q2, dif_pos q4, rl_get, List.getElem?_eq_getElem hf, rcs_get, List.getElem?_eq_getElem hj, hc, Option.map_some, t3, t2, rcs_set]
        exact fin
      all_goals
        obtain ⟨h1, h2⟩ := hr
        simp only [if_pos h2, h1, hset, ew, Option.bind_some, rl_len, hlen, Nat.zero_add, List.nil_append, Nat.le_refl, true_and, if_true, t1, if_pos q5, PT.ev, PT.test, dite_eq_ite, dif_pos q2, dif_pos q4, rl_get, List.getElem?_eq_getElem hf, rcs_get, List.getElem?_eq_getElem hj, hc, Option.map_some, t3, t2, rcs_set]
        exact fin
abbrev Rtu (ks : List W133) : List (List V) := ks.map W133.cells
theorem rtu_get (ks : List W133) (i : Nat) : ((Rtu ks)[i]?).bind W133.dec = ks[i]? := by
  simp only [Rtu, List.getElem?_map]
  cases ks[i]? <;> rfl
theorem Cn.mono {n m k : Nat} {C : List (List Ly)} (g : Cn n m k C) {n' m' k' : Nat} (h1 : n ≤ n') (h2 : m ≤ m') (h3 : k ≤ k') : Cn n' m' k' C :=
  ⟨Nat.le_trans g.len h3, fun x h => by
    obtain ⟨a, b⟩ := g.ly x h
    exact ⟨Nat.le_trans a h2, fun l hl => ⟨Nat.le_trans (b l hl).x h1, (b l hl).sm, (b l hl).so, (b l hl).mp⟩⟩⟩
theorem pow4 {a : Nat} (h : a ≤ 4) : 4 * 2 ^ a ≤ 64 := by
  have := Nat.pow_le_pow_right (show 0 < 2 by decide) h
  omega
theorem odds_loop (ks : List W133) (hk : (ks.length : Int) ≤ 9223372036854775807) (X : List (List V)) : ∀ (n a : Nat) (i o : Int) (C : List (List Ly)), a ≤ 4 → 4 < n + a → Cn (200 + a) (4 * 2 ^ a) (3 + a) C →
    ∃ i' o' C', L31_0 n (.s1 (.mk (Rtu ks) a X i o C.length (Rcs C))) = some (.e1 (.mk X i' o' C'.length (Rcs C'))) ∧ Cn 300 64 10 C'
  | 0, a, i, o, C, h1, h2, g => by omega
  | n + 1, a, i, o, C, h1, h2, g => by
    rw [L31_0_s1]
    have hl : (Rtu ks).length = ks.length := List.length_map ..
    have hp := pow4 h1
    by_cases c : a < ks.length
    · by_cases c4 : a < 4
      · have hw : w64 ((a : Int) + 1) = ((a + 1 : Nat) : Int) := by rw [w64_in (by omega) (by omega)]; omega
        have hg : ks[a]? = some ks[a] := List.getElem?_eq_getElem c
        obtain ⟨i1, o1, C1, e, g1⟩ := odd_ex (200 + a) (4 * 2 ^ a) (3 + a) (by omega) (by omega) (by omega) C g i o ks[a].c0 ks[a].c1 ks[a].c2 ks[a].c3
        have g2 : Cn (200 + (a + 1)) (4 * 2 ^ (a + 1)) (3 + (a + 1)) C1 := g1.mono (by omega) (by rw [Nat.pow_succ]; omega) (by omega)
        obtain ⟨i2, o2, C2, e2, g3⟩ := odds_loop ks hk X n (a + 1) i1 o1 C1 (by omega) (by omega) g2
        simp only [D31_0s1, PT.ev, PT.test, dite_eq_ite, hl, if_pos (show (a : Int) < (ks.length : Int) by omega), if_pos (show (a : Int) < 4 by omega), if_pos (show (0 : Int) ≤ (a : Int) by omega), Int.toNat_natCast, rtu_get, hg, Option.bind_some, e, hw, N31_0.nx]
        exact ⟨i2, o2, C2, e2, g3⟩
      · simp only [D31_0s1, PT.ev, PT.test, dite_eq_ite, hl, if_pos (show (a : Int) < (ks.length : Int) by omega), if_neg (show ¬ (a : Int) < 4 by omega), N31_0.nx]
        exact ⟨i, o, C, rfl, g.mono (by omega) hp (by omega)⟩
    · simp only [D31_0s1, PT.ev, PT.test, dite_eq_ite, hl, if_neg (show ¬ (a : Int) < (ks.length : Int) by omega), N31_0.nx]
      exact ⟨i, o, C, rfl, g.mono (by omega) hp (by omega)⟩
theorem odds_ex (ks : List W133) (hk : (ks.length : Int) ≤ 9223372036854775807) (i o : Int) (C : List (List Ly)) (g : Cn 200 4 3 C) :
    ∃ r i' o' C', F31 i o C.length (Rtu ks) (Rcs C) = some r ∧ (r = .a0 i' o' C'.length (Rcs C') ∧ C' = C ∨ r = .a1 i' o' C'.length (Rcs C) (Rcs C')) ∧ Cn 300 64 10 C' := by
  have hl : (Rtu ks).length = ks.length := List.length_map ..
  by_cases c : 0 < ks.length
  · have hg : ks[0]? = some ks[0] := List.getElem?_eq_getElem c
    obtain ⟨i1, o1, C1, e, g1⟩ := odd_ex 200 4 3 (by omega) (by omega) (by omega) C g i o ks[0].c0 ks[0].c1 ks[0].c2 ks[0].c3
    obtain ⟨i2, o2, C2, e2, g2⟩ := odds_loop ks hk (Rcs C) 18446744073709551615 1 i1 o1 C1 (by omega) (by omega) (g1.mono (by omega) (by decide) (by omega))
    have h0 : L31_0 18446744073709551616 (.s0 (.mk (Rtu ks) (Rcs C) i o C.length)) = some (.e1 (.mk (Rcs C) i2 o2 C2.length (Rcs C2))) := by
      rw [show (18446744073709551616 : Nat) = 18446744073709551615 + 1 from rfl, L31_0_s0]
      simp only [D31_0, PT.ev, PT.test, dite_eq_ite, hl, if_pos (show (0 : Int) < (ks.length : Int) by omega), rtu_get, hg, Option.bind_some, e, N31_0.nx]
      exact e2
    simp only [F31, D31, PT.ev, PT.test, dite_eq_ite, h0, Option.bind_some]
    exact ⟨_, i2, o2, C2, rfl, .inr rfl, g2⟩
  · have h0 : L31_0 18446744073709551616 (.s0 (.mk (Rtu ks) (Rcs C) i o C.length)) = some (.e0 (.mk (Rcs C) i o C.length)) := by
      rw [show (18446744073709551616 : Nat) = 18446744073709551615 + 1 from rfl, L31_0_s0]
      simp only [D31_0, PT.ev, PT.test, dite_eq_ite, hl, if_neg (show ¬ (0 : Int) < (ks.length : Int) by omega), N31_0.nx]
    simp only [F31, D31, PT.ev, PT.test, dite_eq_ite, h0, Option.bind_some]
    exact ⟨_, i, o, C, rfl, .inl ⟨rfl, rfl⟩, g.mono (by omega) (by omega) (by omega)⟩
end Go.Proofs.YtifalphladcdcaaGreat.H

/- PoseTells in plain Lean. Conditions: those stated. -/
namespace Go.Proofs.YtifalphladcdcaaGreat.H
open Go Go.VM
set_option maxRecDepth 100000
abbrev at31 (t : Int) : Int := w64 (w64 (↑(BitVec.toNat (BitVec.ofInt (IntKind.bits IntKind.i64) t &&& BitVec.ofInt (IntKind.bits IntKind.i64) 31))) - 4)
theorem pt_items (ls : List Ly) (h : ∀ l ∈ ls, So l.s) (hl : ls.length ≤ 1000000) (t al a : Int) (rows : List (List V)) (len k : Int) (M : Mt) (docs : List (List V)) : ∀ (n i : Nat), i ≤ ls.length → ls.length < n + i → L7_4 n (.s0 (.mk t al i a rows len k M (Rl ls) docs)) = some (.e1 (.mk t al a rows len k M docs))
  | 0, i, h1, h2 => by omega
  | n + 1, i, h1, h2 => by
    rw [L7_4_s0]
    by_cases c : i < ls.length
    · by_cases c6 : (i : Int) < 6
      · have hw : w64 ((i : Int) + 1) = ((i + 1 : Nat) : Int) := by rw [w64_in (by omega) (by omega)]; omega
        have ih := pt_items ls h hl t al a rows len k M docs n (i + 1) c (by omega)
        have it := (h _ (List.getElem_mem c)).items (at31 t) M al
        simp only [D7_4, J7_r11, D7_r11, PT.ev, PT.test, dite_eq_ite, rl_len, if_pos (show (i : Int) < (ls.length : Int) by omega), decide_eq_true c6, if_true, if_pos (show (0 : Int) ≤ (i : Int) by omega), Int.toNat_natCast, rl_get, List.getElem?_eq_getElem c, Option.map_some, Option.bind_some]
        refine (congrArg (fun o => Option.bind o _) it).trans ?_
        simp only [Option.bind_some, PT.ev, PT.test, dite_eq_ite, Bool.not_true, Bool.false_eq_true, if_false, hw, N7_4.nx]
        exact ih
      · simp only [D7_4, J7_r11, D7_r11, PT.ev, PT.test, dite_eq_ite, rl_len, if_pos (show (i : Int) < (ls.length : Int) by omega), decide_eq_false c6, Bool.false_eq_true, if_false, Option.bind_some, N7_4.nx]
    · simp only [D7_4, J7_r11, D7_r11, PT.ev, PT.test, dite_eq_ite, rl_len, if_neg (show ¬ (i : Int) < (ls.length : Int) by omega), Bool.false_eq_true, if_false, Option.bind_some, N7_4.nx]
theorem pt_comps (C : List (List Ly)) (g : Cn 300 64 10 C) (t al a : Int) (M : Mt) (docs : List (List V)) : ∀ (n i : Nat), i ≤ C.length → C.length < n + i → L7_2 n (.s0 (.mk t al a (Rcs C) C.length i M docs)) = some (.e1 (.mk t al a M docs))
  | 0, i, h1, h2 => by omega
  | n + 1, i, h1, h2 => by
    rw [L7_2_s0]
    have hk := g.len
    by_cases c : i < C.length
    · have hw : w64 ((i : Int) + 1) = ((i + 1 : Nat) : Int) := by rw [w64_in (by omega) (by omega)]; omega
      have ih := pt_comps C g t al a M docs n (i + 1) c (by omega)
      obtain ⟨gl, gy⟩ := g.ly C[i] (List.getElem_mem c)
      have st := fun (u : Int) (M : Mt) => same_true C[i] (fun l hl => (gy l hl).sm) (fun l hl => (gy l hl).mp) (by omega) u M
      have it := pt_items C[i] (fun l hl => (gy l hl).so) (by omega) t al a (Rcs C) C.length i M docs 18446744073709551616 0 (by omega) (by omega)
      rw [show ((0 : Nat) : Int) = 0 from rfl] at it
      simp only [D7_2, J7_r8, D7_r8, PT.ev, PT.test, dite_eq_ite, bnd_def, if_pos (show (i : Int) < (C.length : Int) by omega), if_pos (show (0 : Int) ≤ (i : Int) by omega), Int.toNat_natCast, rcs_get, List.getElem?_eq_getElem c, Option.map_some, Option.bind_some, st, Bool.not_true, Bool.false_eq_true, if_false, it, hw, N7_2.nx]
      exact ih
    · simp only [D7_2, PT.ev, PT.test, dite_eq_ite, if_neg (show ¬ (i : Int) < (C.length : Int) by omega), N7_2.nx]
theorem pt_docs (C C' : List (List Ly)) (g : Cn 300 64 10 C) (g' : Cn 300 64 10 C') (i o i' o' t al : Int) (M : Mt) : L7_0 18446744073709551616 (.s0 (.mk t al 0 M [[i64 i, i64 o, V.list 1 (Rcs C)], [i64 i', i64 o', V.list 1 (Rcs C')]])) = some .e1 := by
  have hg := g.len
  have hg' := g'.len
  have k1 := pt_comps C g t al 0 M [[i64 i, i64 o, V.list 1 (Rcs C)], [i64 i', i64 o', V.list 1 (Rcs C')]] 18446744073709551616 0 (by omega) (by omega)
  have k2 := pt_comps C' g' t al 1 M [[i64 i, i64 o, V.list 1 (Rcs C)], [i64 i', i64 o', V.list 1 (Rcs C')]] 18446744073709551616 0 (by omega) (by omega)
  rw [show ((0 : Nat) : Int) = 0 from rfl] at k1 k2
  have d1 : (([[i64 i, i64 o, V.list 1 (Rcs C)], [i64 i', i64 o', V.list 1 (Rcs C')]] : List (List V))[(0 : Int).toNat]?).bind W48.dec = some ⟨i, o, Rcs C⟩ := rfl
  have d2 : (([[i64 i, i64 o, V.list 1 (Rcs C)], [i64 i', i64 o', V.list 1 (Rcs C')]] : List (List V))[(1 : Int).toNat]?).bind W48.dec = some ⟨i', o', Rcs C'⟩ := rfl
  rw [show (18446744073709551616 : Nat) = 18446744073709551613 + 1 + 1 + 1 from rfl, L7_0_s0]
  rw [show (18446744073709551616 : Nat) = 18446744073709551613 + 1 + 1 + 1 from rfl] at k1 k2
  simp only [D7_0, PT.ev, PT.test, dite_eq_ite, if_pos (show (0 : Int) < 2 by decide), if_pos (show (0 : Int) ≤ 0 ∧ (0 : Int) < 2 by decide), Nat.zero_add, d1, Option.bind_some, rcs_len, k1, N7_0.nx, show w64 ((0 : Int) + 1) = 1 from rfl]
  rw [L7_0_s0]
  simp only [D7_0, PT.ev, PT.test, dite_eq_ite, if_pos (show (1 : Int) < 2 by decide), if_pos (show (0 : Int) ≤ 1 ∧ (1 : Int) < 2 by decide), Nat.zero_add, d2, Option.bind_some, rcs_len, k2, N7_0.nx, show w64 ((1 : Int) + 1) = 2 from rfl]
  rw [L7_0_s0]
  simp only [D7_0, PT.ev, PT.test, dite_eq_ite, if_neg (show ¬ (2 : Int) < 2 by decide), N7_0.nx]
theorem Gy.sn {k c m : Int} {ah : Bool} {l : Ly} (g : Gy k c m ah l) : Sn 200 l := ⟨by have := g.x.len; omega, g.sm, g.so, g.mp⟩
theorem poseTells_plain (T : List W3) (hT : (T.length : Int) ≤ 9223372036854775807) (ks : List W133) (hk : (ks.length : Int) ≤ 9223372036854775807) (t : Int) (M : Mt) (al : Int) : F7 (Rt T) (Rtu ks) t M al = some (.a0 true) := by
  obtain ⟨i, o, C, e, _, _, _, _, d1, d2, g⟩ := doc_ex T hT
  have g0 : Cn 200 4 3 C := ⟨d2, fun c hc => by
    obtain ⟨j, hj, rfl⟩ := List.mem_iff_getElem.1 hc
    obtain ⟨⟨g1, g2⟩, g3⟩ := g j hj
    exact ⟨by omega, fun l hl => by
      obtain ⟨y, hy, rfl⟩ := List.mem_iff_getElem.1 hl
      exact (g2 y hy).sn⟩⟩
  obtain ⟨r, i', o', C', er, hr, g'⟩ := odds_ex ks hk i o C g0
  have L := pt_docs C C' (g0.mono (by omega) (by omega) (by omega)) g' i o i' o' t al M
  rcases hr with ⟨rfl, rfl⟩ | rfl
  · simp only [F7, D7, PT.ev, PT.test, dite_eq_ite, e, er, Option.bind_some, rcs_len, Nat.zero_add, Nat.le_refl, if_true, rcs_take, L, known21]
  · simp only [F7, D7, PT.ev, PT.test, dite_eq_ite, e, er, Option.bind_some, rcs_len, Nat.zero_add, Nat.le_refl, if_true, rcs_take, L, known21]
end Go.Proofs.YtifalphladcdcaaGreat.H
