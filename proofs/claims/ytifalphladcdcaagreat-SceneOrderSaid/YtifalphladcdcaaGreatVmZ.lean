/- The machine over plain values: slice literals, make. No condition beyond those stated. -/
import Derived.Test.YtifalphladcdcaaGreatVmY
set_option linter.unusedVariables false
set_option linter.unusedSimpArgs false
namespace Go.VM
section
variable {P : Program} {D : Dir} {Γ : Nat → Prop} {σ : Store} {w : World}

theorem setElems_inv {wz : List V} {sz : Nat} {r : V × List (Nat × Ob)} : ∀ {ps : List (Nat × V)} {xs : List (List V)} {k : List (List V) → List (Nat × Ob) → M}, (∀ x ∈ xs, x.length = sz) → (setElems wz sz xs ps k).run σ = some r →
    ∃ xs' ws, (k xs' ws).run σ = some r ∧ Frz σ ws ∧ xs'.length = xs.length ∧ (∀ x ∈ xs', x.length = sz) ∧
      ∀ σ' : Store, (∀ p ∈ ws, σ'[p.1]? = some p.2) → (∀ (id sz : Nat) (xs : List (List V)), σ[id]? = some (.cells false true sz xs) → σ'[id]? = some (.cells false true sz xs)) →
        ∀ (D : Dir) (Γ : Nat → Prop) (H : Array Obj) (arr : Array Value) (qs : List (Nat × Value)), SR D Γ σ' H → arr.size = xs.length * sz →
          (∀ (k : Nat) (c : V) (v : Value), xs.flatten[k]? = some c → arr[k]? = some v → PR Γ H c v) → ps.length = qs.length →
          (∀ (k i j : Nat) (c : V) (v : Value), ps[k]? = some (i, c) → qs[k]? = some (j, v) → i = j ∧ VR D Γ H c v) →
          ∃ arr', Instr.fill (fun i => some (i * sz, sz)) arr qs = some arr' ∧ arr'.size = xs.length * sz ∧ ∀ (k : Nat) (c : V) (v : Value), xs'.flatten[k]? = some c → arr'[k]? = some v → PR Γ H c v
  | [], xs, k, hx, h => by
    refine ⟨xs, [], h, Frz.nil σ, rfl, hx, fun σ' _ _ D Γ H arr qs hs hl hh hq hv => ?_⟩
    have : qs = [] := List.eq_nil_of_length_eq_zero (by simpa using hq.symm)
    subst this
    exact ⟨arr, rfl, hl, hh⟩
  | (i, c) :: ps, xs, k, hx, h => by
    simp only [setElems] at h
    split at h
    · rename_i vc hc
      split at h
      · rename_i hle
        obtain ⟨hvl, hi⟩ := hle
        obtain ⟨vc', ws1, h, f1, l1, p1⟩ := purW_inv wz (fun vc' ws => setElems wz sz (xs.set i vc') ps fun xs' ws' => k xs' (ws ++ ws')) h
        have hx1 : ∀ x ∈ xs.set i vc', x.length = sz := by
          intro x hx'
          rcases List.mem_or_eq_of_mem_set hx' with hx' | rfl
          · exact hx x hx'
          · omega
        obtain ⟨xs', ws2, h, f2, l2, hx2, rest⟩ := setElems_inv hx1 h
        refine ⟨xs', ws1 ++ ws2, h, f1.append f2, by simpa using l2, hx2, fun σ' k1 k2 D Γ H arr qs hs hl hh hq hv => ?_⟩
        cases qs with
        | nil => simp at hq
        | cons q qs =>
          obtain ⟨j, v⟩ := q
          obtain ⟨rfl, hcv⟩ := hv 0 i j c v rfl rfl
          obtain ⟨m1, m2⟩ := hcv.cells hc
          have hin : i * sz + sz ≤ xs.length * sz := by
            have : (i + 1) * sz ≤ xs.length * sz := Nat.mul_le_mul_right _ hi
            rw [Nat.add_mul] at this; omega
          simp only [Instr.fill]
          rw [if_neg (by simp only [ne_eq, Bool.or_eq_true, decide_eq_true_eq, not_or]; exact ⟨fun hn => hn (by omega), by omega⟩), fold_cells]
          have := rest σ' (fun p hp => k1 p (by simp [hp])) k2 D Γ H ((v.cells.toList.zipIdx 0).foldl (fun cs (p : Value × Nat) => cs.setIfInBounds (i * sz + p.2) p.1) arr) qs hs (by rw [fold_size]; simpa using hl)
            (fun k c' u h1 h2 => by
              rw [fold_get _ _ _ _ _ (by simp; omega)] at h2
              simp only [Nat.add_zero, Array.length_toList] at h2
              obtain ⟨j, r', y, rfl, hr, hy, hc'⟩ := flatten_inv hx1 h1
              rcases set_get hy with ⟨e, rfl⟩ | ⟨e, hy⟩
              · subst e
                rw [if_pos (by omega), Array.getElem?_toList, Nat.add_sub_cancel_left] at h2
                have hlt : r' < vc.length := by omega
                exact p1 r' _ c' (List.getElem?_eq_getElem hlt) hc' σ' (fun p hp => k1 p (by simp [hp])) k2 D Γ H u hs (m2 _ _ _ (List.getElem?_eq_getElem hlt) h2)
              · rw [if_neg ?_] at h2
                · exact hh _ c' u (by rw [flatten_row hx hy hr]; exact hc') h2
                · rcases Nat.lt_or_gt_of_ne e with h3 | h3
                  · have : (i + 1) * sz ≤ j * sz := Nat.mul_le_mul_right _ h3
                    rw [Nat.add_mul] at this; omega
                  · have := row_lt hr h3
                    omega)
            (by simpa using hq) (fun k i j c v h1 h2 => hv (k + 1) i j c v (by simpa using h1) (by simpa using h2))
          simpa using this
      · exact (run_fail h).elim
    · exact (run_fail h).elim

/-- Zeros, over and over. -/
theorem zeros_get {H : Array Obj} {z : Value} {l : List V} {sz : Nat} (hl : z.cells.size = l.length) (hsz : l.length = sz) (hp : ∀ (k : Nat) (c : V) (v : Value), l[k]? = some c → z.cells[k]? = some v → PR Γ H c v) (n m : Nat) (hnm : n ≤ m) :
    ∀ (k : Nat) (c : V), (List.replicate n l).flatten[k]? = some c → ∃ v, ((Array.range (m * sz)).map (z.cells[· % z.cells.size]!))[k]? = some v ∧ PR Γ H c v := by
  intro k c h
  obtain ⟨j, r, y, rfl, hr, hy, hc⟩ := flatten_inv (sz := sz) (fun x hx => by rw [(List.mem_replicate.1 hx).2, hsz]) h
  have hj : j < n := by have := (List.getElem?_eq_some_iff.1 hy).1; simpa using this
  have hyl : y = l := (List.mem_replicate.1 (List.mem_of_getElem? hy)).2
  subst hyl
  have hlt : j * sz + r < m * sz := by
    have : (j + 1) * sz ≤ m * sz := Nat.mul_le_mul_right _ (by omega)
    rw [Nat.add_mul] at this; omega
  have hmod : (j * sz + r) % z.cells.size = r := by rw [hl, hsz, Nat.add_comm, Nat.add_mul_mod_self_right, Nat.mod_eq_of_lt hr]
  have hr' : r < z.cells.size := by omega
  refine ⟨z.cells[r], ?_, hp r c _ hc (Array.getElem?_eq_getElem hr')⟩
  simp [hlt, hmod, hr']

theorem wid_zero {H : Array Obj} {l : List V} {vs : Array Value} (w : List V) (h : ∀ (k : Nat) (c : V) (v : Value), l[k]? = some c → vs[k]? = some v → PR Γ H c v) : ∀ (k : Nat) (c : V) (v : Value), (wid w l)[k]? = some c → vs[k]? = some v → PR Γ H c v := by
  intro k c v h1 h2
  obtain ⟨u, d, e1, rfl⟩ := wid_get h1
  exact (h k d v e1 h2).wid1 u

theorem buildSlice_ok {X : Cx} (hX : X.OK P) (hs : SR D Γ σ w.heap) {T : List V} {a : Act} (hT : TR D Γ w.heap T a.tmps) {nid : Nat} {o : Oper} {t len : Nat} {ps : Array (Nat × Operand)} (ho : o.op = .buildSlice t len ps) : OpOK P D Γ σ w X T a nid o := by
  intro v ws hr
  simp only [op1, ho] at hr
  split at hr
  · rename_i sz0 by0 p0 z0 e hti
    have ht := kind_slice (hX.ty _ _ hti) rfl
    split at hr
    · rename_i te hte
      split at hr
      · rename_i hle
        obtain ⟨h24, hzs, hpos⟩ := hle
        obtain ⟨i, d, z, hi, hd, hz, hzl, hsz, hb, hk⟩ := tiOf_some (hX.ty _ _ hte)
        obtain ⟨xs', ws1, hr, f1, l1, hx1, rest⟩ := setElems_inv (sz := te.size) (fun x hx => by rw [(List.mem_replicate.1 hx).2, wid_len, hzs]) hr
        obtain ⟨hn, hr⟩ := alloc1_inv hr
        cases hr
        obtain ⟨D1, Γ1, hs1, e1⟩ := hs.frz f1
        obtain ⟨k1, k2⟩ := lay_frz f1
        obtain ⟨p1, p2⟩ := parts_ok hT ps
        obtain ⟨z1, z2⟩ := leafs_ok (Γ := Γ1) (H := w.heap) hzl
        have z3 := wid_zero (X.wz e) z2
        have hlen : (List.replicate len (wid (X.wz e) te.zero)).length = len := by simp
        obtain ⟨arr', g1, g2, g3⟩ := rest (lay σ ws1) k1 k2 D1 Γ1 w.heap ((Array.range (len * te.size)).map (z.cells[· % z.cells.size]!)) _ hs1 (by simp)
          (fun k c v h1 h2 => by
            obtain ⟨u, hu, hp⟩ := zeros_get (sz := te.size) (by rw [wid_len]; exact z1) (by rw [wid_len]; exact hzs) z3 len len (Nat.le_refl _) k c h1
            rw [hu] at h2; cases h2; exact hp) p1 (fun k i j c v h1 h2 => ⟨(p2 k i j c v h1 h2).1, e1.vr hs (p2 k i j c v h1 h2).2⟩)
        rw [hlen] at g2
        have hn1 : (lay σ ws1)[nid]? = some .vir := by
          rw [lay_other fun p hp e => ?_]
          · exact hn
          · obtain ⟨own, sz, xs, q1, _⟩ := f1 p hp
            rw [e, hn] at q1; cases q1
        have hxl : xs'.length = len := by rw [l1, hlen]
        obtain ⟨s2, e2⟩ := hs1.alloc hn1 true te.size xs' arr' e hx1 (by rw [hxl, g2]; exact Nat.le_refl _) (fun h0 => by
          rw [g2] at h0
          have : len = 0 := by
            rcases Nat.mul_eq_zero.1 h0 with h | h
            · exact h
            · omega
          exact List.eq_nil_of_length_eq_zero (by omega)) (fun k c hk => by
            have hlt : k < arr'.size := by
              have := (List.getElem?_eq_some_iff.1 hk).1
              rw [flatten_len hx1, hxl] at this; omega
            exact ⟨arr'[k], Array.getElem?_eq_getElem hlt, by simp only [if_true]; exact g3 k c _ hk (Array.getElem?_eq_getElem hlt)⟩)
        refine ⟨.slice (some ⟨w.heap.size, 0, none⟩) len len, w.alloc (.cells arr' e), ⟨⟨rfl, rfl, rfl⟩, .inl ?_⟩, _, Γ1, .one (.leaf (.hs (get_set (hs1.virD hn1)) (Nat.le_refl _) fun _ => ⟨by simp, by rw [g2]; simp⟩)), ?_, e1.trans e2⟩
        · simp only [execOp, ho, Instr.buildSlice, Sem.run_bind, run_und ht, Result.andThen_ok, run_sizeOf hi]
          rw [hsz]
          rw [if_neg (by omega)]
          by_cases h0 : len * te.size = 0
          · rw [if_pos h0]
            have hl0 : len = 0 := by
              rcases Nat.mul_eq_zero.1 h0 with h | h
              · exact h
              · omega
            subst hl0
            simp only [Sem.run_bind, Sem.run_pure, Result.andThen_ok]
            have e0 : ((Array.range (0 * te.size)).map ((#[] : Array Value)[· % (#[] : Array Value).size]!)) = ((Array.range (0 * te.size)).map (z.cells[· % z.cells.size]!)) := by simp
            rw [e0, g1]
            rfl
          · rw [if_neg h0]
            simp only [Sem.run_bind, run_zeroValue hi hz, Result.andThen_ok, Sem.run_pure, g1]
            rfl
        · rw [lay_append]; exact s2
      · exact (run_fail hr).elim
    · exact (run_fail hr).elim
  · exact (run_fail hr).elim

theorem makeSlice_ok {X : Cx} (hX : X.OK P) (hs : SR D Γ σ w.heap) {T : List V} {a : Act} (hT : TR D Γ w.heap T a.tmps) {nid : Nat} {o : Oper} {t : Nat} {l c : Operand} (ho : o.op = .makeSlice t l c) : OpOK P D Γ σ w X T a nid o := by
  intro v ws hr
  simp only [op1, ho] at hr
  have hL := hT.ev l
  have hC := hT.ev c
  split at hr
  · rename_i sz0 by0 p0 z0 e n m hti hev1 hev2
    have ht := kind_slice (hX.ty _ _ hti) rfl
    rw [hev1] at hL; rw [hev2] at hC
    split at hr
    · rename_i te hte
      split at hr
      · rename_i hle
        obtain ⟨h1, h2, h3, h4, hzs, hpos⟩ := hle
        obtain ⟨i, d, z, hi, hd, hz, hzl, hsz, hb, hk⟩ := tiOf_some (hX.ty _ _ hte)
        obtain ⟨hn, hr⟩ := alloc1_inv hr
        cases hr
        obtain ⟨z1, z2⟩ := leafs_ok (Γ := Γ) (H := w.heap) hzl
        have z3 := wid_zero (X.wz e) z2
        have hbytes : (i.bytes : Int) * m ≤ 281474976710656 := by
          rw [hb, Int.mul_comm]
          exact Int.le_trans h4 (by decide)
        have hrun := run_make (P := P) w t e i z ht hi hz .i64 .i64 n m h1 h2 hbytes (Int.le_trans h3 (by decide))
        rw [hsz] at hrun
        have hsize : (madeCells z.cells (m.toNat * te.size)).size = m.toNat * te.size := size_madeCells _ _
        obtain ⟨s2, e2⟩ := hs.alloc hn true te.size (List.replicate n.toNat (wid (X.wz e) te.zero)) (madeCells z.cells (m.toNat * te.size)) e (fun x hx => by rw [(List.mem_replicate.1 hx).2, wid_len, hzs])
          (by rw [hsize, List.length_replicate]; exact Nat.mul_le_mul_right _ (by omega)) (fun h0 => by
            rw [hsize] at h0
            have : m.toNat = 0 := by
              rcases Nat.mul_eq_zero.1 h0 with h | h
              · exact h
              · omega
            have : n.toNat = 0 := by omega
            rw [this]; rfl) (fun k c hk => by
            simp only [if_true]
            exact zeros_get (sz := te.size) (by rw [wid_len]; exact z1) (by rw [wid_len]; exact hzs) z3 n.toNat m.toNat (by omega) k c hk)
        refine ⟨.slice (some ⟨w.heap.size, 0, none⟩) n.toNat m.toNat, w.alloc (.cells (madeCells z.cells (m.toNat * te.size)) e), ⟨⟨rfl, rfl, rfl⟩, .inl (by simp only [execOp, ho, hL.int, hC.int, Sem.run_bind, hrun, Result.andThen_ok, Sem.run_pure])⟩, _, Γ, .one (.leaf (.hs (get_set (hs.virD hn)) (by omega) fun _ => ⟨by simp, by rw [hsize]; simp⟩)), s2, e2⟩
      · exact (run_fail hr).elim
    · exact (run_fail hr).elim
  · exact (run_fail hr).elim
end
end Go.VM
