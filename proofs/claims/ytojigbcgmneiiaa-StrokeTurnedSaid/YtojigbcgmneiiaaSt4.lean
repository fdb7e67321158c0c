/- Chapter 12: outlines by the program and by the document. Plain Lean over what the functions compute. Conditions: those stated. -/
import Derived.Test.YtojigbcgmneiiaaSt3
import Derived.KernelRfl
set_option linter.unusedVariables false
set_option linter.unusedSimpArgs false
namespace Go.Proofs.Ytojigbcgmneiiaa.H
open Go Go.VM
set_option maxRecDepth 100000
theorem rp_app (a b : List W25) : Rp a ++ Rp b = Rp (a ++ b) := by simp
theorem t2 (a b : W25) : List.take 2 (Rp [a, b]) = Rp [a, b] := rfl
theorem joints_loop (c : Bool) {q : List W65} (hq : ∀ s ∈ q, Sd s) (hL : q.length ≤ 1000) {h : Int} (hh : 0 ≤ h ∧ h ≤ 67108864) (rows : List (List V)) : ∀ (m n i : Nat) (out : List W25), 1 ≤ i → (i + m = q.length ∨ (q.length < i ∧ m = 0)) → m < n → out.length + 2 * m ≤ 4000 → (∀ p ∈ out, Pg p) →
    ∃ out' : List W25, L16_2 n h q.length out.length i c rows (R6 q) (Rp out) = some (.e0 h q.length out'.length c (R6 q) (Rp out')) ∧
      L47_2 n q.length out.length i c rows (R8 (q.map (phi h))) (Rp out) = some (.e0 q.length out'.length c (R8 (q.map (phi h))) (Rp out')) ∧ (∀ p ∈ out', Pg p) ∧ out'.length = out.length + 2 * m
  | _, 0, _, _, _, _, h, _, _ => by omega
  | 0, n + 1, i, out, h1, hi, _, ho, hp => ⟨out, by rw [L16_2, if_neg (by omega)], by rw [L47_2, if_neg (by omega)], hp, by omega⟩
  | m + 1, n + 1, i, out, h1, hi, hn, ho, hp => by
    have hiq : i < q.length := by omega
    have hiq' : i - 1 < q.length := by omega
    have hw : w64 ((i : Int) + 1) = ((i + 1 : Nat) : Int) := wsucc (by omega)
    have hw' : w64 ((i : Int) - 1) = ((i - 1 : Nat) : Int) := by rw [w64_in (by omega) (by omega)]; omega
    have g6 : ((R6 q)[0 + Int.toNat (i : Int)]?).bind W65.dec = some q[i] := by rw [show 0 + Int.toNat (i : Int) = i by omega, r6_get, List.getElem?_eq_getElem hiq]
    have g6' : ((R6 q)[0 + Int.toNat ((i - 1 : Nat) : Int)]?).bind W65.dec = some q[i - 1] := by rw [show 0 + Int.toNat ((i - 1 : Nat) : Int) = i - 1 by omega, r6_get, List.getElem?_eq_getElem hiq']
    have g8 : ((R8 (q.map (phi h)))[0 + Int.toNat (i : Int)]?).bind W86.dec = some (phi h q[i]) := by rw [show 0 + Int.toNat (i : Int) = i by omega, r8_get, List.getElem?_map, List.getElem?_eq_getElem hiq]; rfl
    have g8' : ((R8 (q.map (phi h)))[0 + Int.toNat ((i - 1 : Nat) : Int)]?).bind W86.dec = some (phi h q[i - 1]) := by rw [show 0 + Int.toNat ((i - 1 : Nat) : Int) = i - 1 by omega, r8_get, List.getElem?_map, List.getElem?_eq_getElem hiq']; rfl
    have hs := hq q[i] (List.getElem_mem hiq)
    have hs' := hq q[i - 1] (List.getElem_mem hiq')
    generalize q[i] = t at *
    generalize q[i - 1] = s at *
    have ih := joints_loop c hq hL hh rows m n (i + 1) (out ++ [pg (J1 s t h), pg (J2 s t h)]) (by omega) (by omega) (by omega) (by simp; omega) (fun p hp' => by
      rw [List.mem_append] at hp'
      rcases hp' with hp' | hp'
      · exact hp p hp'
      · simp only [List.mem_cons, List.not_mem_nil, or_false] at hp'
        rcases hp' with rfl | rfl
        · exact ⟨_, .inl rfl, rfl⟩
        · exact ⟨_, .inl rfl, rfl⟩)
    have hn2 : (out ++ [pg (J1 s t h), pg (J2 s t h)]).length = out.length + 2 := by simp
    rw [hn2] at ih
    have l2 : (Rp [pg (J1 s t h), pg (J2 s t h)]).length = 2 := rfl
    refine ih.imp fun out' ⟨a1, a2, a3, a4⟩ => ⟨?_, ?_, a3, by omega⟩
    · rw [L16_2, if_pos (by omega), hw', if_pos (by omega), g6', Option.bind_some, if_pos (by omega), g6, Option.bind_some, joint1 hs' hs hh, Option.bind_some]
      dsimp only
      rw [if_pos (by rw [l2]; omega), if_pos (by rw [t2, l2, rp_len]; omega), t2, l2, rp_all, rp_app, hw]
      exact a1
    · rw [L47_2, if_pos (by omega), hw', if_pos (by omega), g8', Option.bind_some, if_pos (by omega), g8, Option.bind_some, joint2 s t h, Option.bind_some]
      dsimp only
      rw [if_pos (by rw [l2]; omega), if_pos (by rw [t2, l2, rp_len]; omega), t2, l2, rp_all, rp_app, hw]
      exact a2
def cnt (c : Bool) (n : Nat) : Nat := n + 2 * (n - 1) + (if c = true ∧ 2 ≤ n then 2 else 0)
theorem stroke2 (c : Bool) {l : List W43} (hL : l.length ≤ 1000) (w z : Int) : ∃ Q : List W25, F16 c (Rw l) w z = some (.a0 Q.length (Rp Q)) ∧ F47 c (Rw l) w z = some (.a0 Q.length (Rp Q)) ∧ (∀ p ∈ Q, Pg p) ∧ Q.length ≤ 4000 ∧
    (cl (Int.fdiv w 2) 0 67108864 = 0 → Q = []) ∧ (cl (Int.fdiv w 2) 0 67108864 ≠ 0 → ∃ q : List W65, F38 c (Rw l) = some (.a0 q.length (R6 q)) ∧ Q.length = cnt c q.length) := by
  have hh := cl_bd (Int.fdiv w 2) 0 67108864 (by decide)
  have e37 : F37 (Int.fdiv w 2) 0 67108864 = cl (Int.fdiv w 2) 0 67108864 := rfl
  have e67 : F67 (Int.fdiv w 2) 0 67108864 = cl (Int.fdiv w 2) 0 67108864 := rfl
  generalize cl (Int.fdiv w 2) 0 67108864 = h at *
  by_cases h0 : (h == 0) = true
  · refine ⟨[], ?_, ?_, by simp, by simp, fun _ => rfl, fun hn => absurd (by rwa [beq_iff_eq] at h0) hn⟩
    · unfold F16; rw [e37, bnd_def, if_pos h0]; rfl
    · unfold F47; rw [e67, bnd_def, if_pos h0]; rfl
  · obtain ⟨q, s1, s2, s3, s4⟩ := sides2 c hL hh
    have hns := ns_le c l
    obtain ⟨out1, b1, b2, b3, b4⟩ := bodies_loop z c s3 (by omega) hh (Rw l) q.length 18446744073709551616 0 [] (by omega) (by omega) rfl (by simp)
    obtain ⟨out2, c1, c2, c3, c4⟩ := joints_loop c s3 (by omega) hh (Rw l) (q.length - 1) 18446744073709551616 1 out1 (by omega) (by omega) (by omega) (by omega) b3
    rw [show ((0 : Nat) : Int) = 0 by rfl] at b1 b2
    rw [show ((1 : Nat) : Int) = 1 by rfl] at c1 c2
    have b1' : L16_0 18446744073709551616 h q.length (ends z c) 0 q.length 0 c (Rw l) (R6 q) [] = some (.e0 h q.length out1.length c (Rw l) (R6 q) (Rp out1)) := b1
    have b2' : L47_0 18446744073709551616 z q.length 0 0 c (Rw l) (R8 (q.map (phi h))) [] = some (.e0 q.length out1.length c (Rw l) (R8 (q.map (phi h))) (Rp out1)) := b2
    generalize hfd : (if hx : c = true ∧ 2 ≤ q.length then out2 ++ [pg (J1 (q[q.length - 1]'(by omega)) (q[0]'(by omega)) h), pg (J2 (q[q.length - 1]'(by omega)) (q[0]'(by omega)) h)] else out2 : List W25) = fin
    replace hfd := hfd.symm
    have l2 : ∀ a b : W25, (Rp [a, b]).length = 2 := fun _ _ => rfl
    refine ⟨fin, ?_, ?_, ?_, ?_, fun hz => absurd (by rw [beq_iff_eq]; exact hz) h0, fun _ => ⟨q, s1, ?_⟩⟩
    · unfold F16
      rw [e37, bnd_def, if_neg h0, s1, Option.bind_some]
      dsimp only
      by_cases z1 : (z == 1) = true
      · have he : ends z c = !c := by unfold ends; rw [if_pos z1]
        rw [he] at b1'
        rw [if_pos z1, b1', Option.bind_some]
        dsimp only
        rw [c1, Option.bind_some]
        dsimp only
        by_cases hc : c = true
        · rw [if_pos hc]
          by_cases h2 : (q.length : Int) ≥ 2
          · have hl : w64 ((q.length : Int) - 1) = ((q.length - 1 : Nat) : Int) := by rw [w64_in (by omega) (by omega)]; omega
            have hlt : q.length - 1 < q.length := by omega
            have h0 : 0 < q.length := by omega
            have gl := (show ((R6 q)[0 + Int.toNat ((q.length - 1 : Nat) : Int)]?).bind W65.dec = some q[q.length - 1] by rw [show 0 + Int.toNat ((q.length - 1 : Nat) : Int) = q.length - 1 by omega, r6_get, List.getElem?_eq_getElem hlt])
            have g0 := (show ((R6 q)[(0 : Nat)]?).bind W65.dec = some q[0] by rw [r6_get, List.getElem?_eq_getElem h0])
            rw [if_pos h2, hl, if_pos (by omega), gl, Option.bind_some, if_pos (by omega), g0, Option.bind_some, joint1 (s3 _ (List.getElem_mem hlt)) (s3 _ (List.getElem_mem h0)) hh, Option.bind_some]
            dsimp only
            rw [if_pos (by simp), if_pos (by rw [rp_len, t2]; simp; omega), t2, rp_len, rp_all, rp_app]
            have hn : (out2 ++ [pg (J1 q[q.length - 1] q[0] h), pg (J2 q[q.length - 1] q[0] h)]).length = out2.length + 2 := by simp
            have hfin : fin = out2 ++ [pg (J1 q[q.length - 1] q[0] h), pg (J2 q[q.length - 1] q[0] h)] := by rw [hfd, dif_pos ⟨hc, by omega⟩]
            rw [hfin, hn]
            rfl
          · rw [if_neg h2]
            have hfin : fin = out2 := by rw [hfd, dif_neg (fun h => h2 (by have := h.2; omega))]
            rw [hfin]
        · rw [if_neg hc]
          have hfin : fin = out2 := by rw [hfd, dif_neg (fun h => hc h.1)]
          rw [hfin]
      · have he : ends z c = false := by unfold ends; rw [if_neg z1]
        rw [he] at b1'
        rw [if_neg z1, b1', Option.bind_some]
        dsimp only
        rw [c1, Option.bind_some]
        dsimp only
        by_cases hc : c = true
        · rw [if_pos hc]
          by_cases h2 : (q.length : Int) ≥ 2
          · have hl : w64 ((q.length : Int) - 1) = ((q.length - 1 : Nat) : Int) := by rw [w64_in (by omega) (by omega)]; omega
            have hlt : q.length - 1 < q.length := by omega
            have h0 : 0 < q.length := by omega
            have gl := (show ((R6 q)[0 + Int.toNat ((q.length - 1 : Nat) : Int)]?).bind W65.dec = some q[q.length - 1] by rw [show 0 + Int.toNat ((q.length - 1 : Nat) : Int) = q.length - 1 by omega, r6_get, List.getElem?_eq_getElem hlt])
            have g0 := (show ((R6 q)[(0 : Nat)]?).bind W65.dec = some q[0] by rw [r6_get, List.getElem?_eq_getElem h0])
            rw [if_pos h2, hl, if_pos (by omega), gl, Option.bind_some, if_pos (by omega), g0, Option.bind_some, joint1 (s3 _ (List.getElem_mem hlt)) (s3 _ (List.getElem_mem h0)) hh, Option.bind_some]
            dsimp only
            rw [if_pos (by simp), if_pos (by rw [rp_len, t2]; simp; omega), t2, rp_len, rp_all, rp_app]
            have hn : (out2 ++ [pg (J1 q[q.length - 1] q[0] h), pg (J2 q[q.length - 1] q[0] h)]).length = out2.length + 2 := by simp
            have hfin : fin = out2 ++ [pg (J1 q[q.length - 1] q[0] h), pg (J2 q[q.length - 1] q[0] h)] := by rw [hfd, dif_pos ⟨hc, by omega⟩]
            rw [hfin, hn]
            rfl
          · rw [if_neg h2]
            have hfin : fin = out2 := by rw [hfd, dif_neg (fun h => h2 (by have := h.2; omega))]
            rw [hfin]
        · rw [if_neg hc]
          have hfin : fin = out2 := by rw [hfd, dif_neg (fun h => hc h.1)]
          rw [hfin]
    · unfold F47
      rw [e67, bnd_def, if_neg h0, s2, Option.bind_some]
      dsimp only
      rw [b2', Option.bind_some]
      dsimp only
      rw [c2, Option.bind_some]
      dsimp only
      by_cases hc : c = true
      · rw [if_pos hc]
        by_cases h2 : (q.length : Int) ≥ 2
        · have hl : w64 ((q.length : Int) - 1) = ((q.length - 1 : Nat) : Int) := by rw [w64_in (by omega) (by omega)]; omega
          have hlt : q.length - 1 < q.length := by omega
          have h0 : 0 < q.length := by omega
          have gl := (show ((R8 (q.map (phi h)))[0 + Int.toNat ((q.length - 1 : Nat) : Int)]?).bind W86.dec = some (phi h q[q.length - 1]) by rw [show 0 + Int.toNat ((q.length - 1 : Nat) : Int) = q.length - 1 by omega, r8_get, List.getElem?_map, List.getElem?_eq_getElem hlt]; rfl)
          have g0 := (show ((R8 (q.map (phi h)))[(0 : Nat)]?).bind W86.dec = some (phi h q[0]) by rw [r8_get, List.getElem?_map, List.getElem?_eq_getElem h0]; rfl)
          rw [if_pos h2, hl, if_pos (by omega), gl, Option.bind_some, if_pos (by omega), g0, Option.bind_some, joint2 _ _ h, Option.bind_some]
          dsimp only
          rw [if_pos (by simp), if_pos (by rw [rp_len, t2]; simp; omega), t2, rp_len, rp_all, rp_app]
          have hn : (out2 ++ [pg (J1 q[q.length - 1] q[0] h), pg (J2 q[q.length - 1] q[0] h)]).length = out2.length + 2 := by simp
          have hfin : fin = out2 ++ [pg (J1 q[q.length - 1] q[0] h), pg (J2 q[q.length - 1] q[0] h)] := by rw [hfd, dif_pos ⟨hc, by omega⟩]
          rw [hfin, hn]
          rfl
        · rw [if_neg h2]
          have hfin : fin = out2 := by rw [hfd, dif_neg (fun h => h2 (by have := h.2; omega))]
          rw [hfin]
      · rw [if_neg hc]
        have hfin : fin = out2 := by rw [hfd, dif_neg (fun h => hc h.1)]
        rw [hfin]
    · intro p hp
      rw [hfd] at hp
      split at hp
      · rw [List.mem_append] at hp
        rcases hp with hp | hp
        · exact c3 p hp
        · simp only [List.mem_cons, List.not_mem_nil, or_false] at hp
          rcases hp with rfl | rfl
          · exact ⟨_, .inl rfl, rfl⟩
          · exact ⟨_, .inl rfl, rfl⟩
      · exact c3 p hp
    · rw [hfd]; split <;> (try rw [List.length_append]) <;> (try simp only [List.length_cons, List.length_nil]) <;> omega
    · rw [hfd]
      unfold cnt
      by_cases hx : c = true ∧ 2 ≤ q.length
      · rw [dif_pos hx, if_pos hx]; simp; omega
      · rw [dif_neg hx, if_neg hx]; omega
/-- Chapter 12, of any line. -/
theorem same12 (c : Bool) {l : List W43} (hL : l.length ≤ 1000) (w z : Int) : F27 c (Rw l) w z = some (.a0 true) := by
  obtain ⟨Q, e1, e2, e3, e4, _, _⟩ := stroke2 c hL w z
  obtain ⟨a1, a2⟩ := area_eq (l := l) (by omega)
  have t1 := turned1 (l := l) (by omega)
  have t2 := turned2 (l := l) (by omega)
  have ht := turn_len l
  have tk : List.take l.length (Rw (turn l)) = Rw (turn l) := by rw [← ht]; exact rw_all _
  unfold F27
  rw [e1, Option.bind_some]
  dsimp only
  rw [e2, Option.bind_some]
  dsimp only
  rw [if_pos (by rw [rp_len]; omega), if_pos (by rw [rp_len]; omega), rp_all, polys_same Q (fun p hp => pg_gd (e3 p hp)) (by omega), Option.bind_some]
  dsimp only
  rw [if_pos rfl, a1, Option.bind_some]
  dsimp only
  rw [a2, Option.bind_some]
  dsimp only
  rw [if_pos (by rw [beq_iff_eq]), t1, Option.bind_some]
  dsimp only
  rw [t2, Option.bind_some]
  dsimp only
  rw [if_pos (by rw [rw_len, ht]; omega), if_pos (by rw [rw_len, ht]; omega), tk, points_same (turn l) (by omega), Option.bind_some]
theorem known12 : F20 = some (.a0 true) := by kernel_rfl
end Go.Proofs.Ytojigbcgmneiiaa.H
