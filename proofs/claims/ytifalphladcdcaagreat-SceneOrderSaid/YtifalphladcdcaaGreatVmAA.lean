/- The machine over plain values: append. No condition beyond those stated. -/
import Derived.Test.YtifalphladcdcaaGreatVmZ
set_option linter.unusedVariables false
set_option linter.unusedSimpArgs false
namespace Go.VM
section
variable {P : Program} {D : Dir} {Γ : Nat → Prop} {σ : Store} {w : World}

theorem run_append_in {t t' ty e e' : TypeId} (ht : P.underlying t = some (.slice e)) (ht' : P.underlying t' = some (.slice e')) {i : TypeInfo} (hi : P.info? e = some i)
    (a : Option Addr) (sLen sCap : Nat) (xa : Option Addr) (n xc : Nat) (news : List Value) (hnews : ∀ w' : World, w'.heap = w.heap → (Builtin.firstCells i.size n (.slice xa n xc)).run P w' = .ok news.toArray w')
    (hroom : sLen + n ≤ sCap) : (Builtin.append_ #[t, t'] ty #[.slice a sLen sCap, .slice xa n xc]).run P w = match a with
      | some ad => ((storeCells (ad.add (sLen * i.size)) news).run P w).andThen fun _ w' => .ok (.slice (some ad) (sLen + n) sCap) w'
      | none => .ok (.slice none (sLen + n) sCap) w := by
  have hf := hnews w rfl
  cases a <;> simp [Builtin.append_, run_underlying ht, run_underlying ht', sizeOf, typeInfo, hi, Builtin.lenOf, hroom, hf]

theorem run_append_grow' {t t' ty e e' : TypeId} (ht : P.underlying t = some (.slice e)) (ht' : P.underlying t' = some (.slice e')) {i : TypeInfo} {z : Value} (hi : P.info? e = some i) (hz : i.zero = some z)
    (a : Option Addr) (sLen sCap : Nat) (xa : Option Addr) (n xc : Nat) (olds news : List Value) (holds : ∀ w' : World, w'.heap = w.heap → (Builtin.firstCells i.size sLen (.slice a sLen sCap)).run P w' = .ok olds.toArray w')
    (hnews : ∀ w' : World, w'.heap = w.heap → (Builtin.firstCells i.size n (.slice xa n xc)).run P w' = .ok news.toArray w')
    (hg : sCap < sLen + n) (h63 : ((sLen + n : Nat) : Int) ≤ 9223372036854775807) (hfit : Builtin.nextslicecap (sLen + n) sCap * i.bytes ≤ 281474976710656) :
    (Builtin.append_ #[t, t'] ty #[.slice a sLen sCap, .slice xa n xc]).run P w =
      .ok (.slice (some ⟨w.heap.size, 0, none⟩) (sLen + n) (grownCap w (sLen + n) sCap e))
        (w.drew.alloc (.cells (olds.toArray ++ news.toArray ++ Builtin.zeroCells z.cells (grownCap w (sLen + n) sCap e - (sLen + n))) e)) := by
  have hn : ¬ (sLen + n ≤ sCap) := by omega
  have h63' : ¬ (9223372036854775807 < ((sLen : Int) + (n : Int))) := by omega
  have h48' : ¬ (281474976710656 < Builtin.nextslicecap (sLen + n) sCap * i.bytes) := by omega
  have hf := hnews w.drew rfl
  have hfo := holds w.drew rfl
  simp [Builtin.append_, run_underlying ht, run_underlying ht', sizeOf, typeInfo, zeroValue, hi, hz, Builtin.lenOf, hn, h63', h48', Question.forced, hf, hfo, newRow, grownCap]
  congr 2
  rw [← Array.append_assoc]; simp

/-- The elements of a slice that is read. -/
theorem elems_inv {sz : Nat} {v : V} {k : List (List V) → M} {r : V × List (Nat × Ob)} (h : (elems sz v k).run σ = some r) (hs : SR D Γ σ w.heap) {x : Value} (hx : VR D Γ w.heap v x) :
    ∃ new : List (List V), (k new).run σ = some r ∧ (∀ y ∈ new, y.length = sz) ∧ ∃ xa xc, x = .slice xa new.length xc ∧ ∃ vals : List Value, vals.length = new.length * sz ∧
      (∀ w' : World, w'.heap = w.heap → (Builtin.firstCells sz new.length x).run P w' = .ok vals.toArray w') ∧ ∀ (k : Nat) (c : V) (v : Value), new.flatten[k]? = some c → vals[k]? = some v → PR Γ w.heap c v := by
  have hempty : ∀ (xa : Option Addr) (xc : Nat) (w' : World), (Builtin.firstCells sz 0 (.slice xa 0 xc)).run P w' = .ok #[] w' := by
    intro xa xc w'
    cases xa with
    | none => simp [Builtin.firstCells]
    | some ad => simp [Builtin.firstCells, loadCells, loadCellsFrom]
  have hnil : ∀ (xa : Option Addr) (xc : Nat), x = .slice xa 0 xc → (k []).run σ = some r → ∃ new : List (List V), (k new).run σ = some r ∧ (∀ y ∈ new, y.length = sz) ∧ ∃ xa xc, x = .slice xa new.length xc ∧ ∃ vals : List Value, vals.length = new.length * sz ∧
      (∀ w' : World, w'.heap = w.heap → (Builtin.firstCells sz new.length x).run P w' = .ok vals.toArray w') ∧ ∀ (k : Nat) (c : V) (v : Value), new.flatten[k]? = some c → vals[k]? = some v → PR Γ w.heap c v := by
    intro xa xc e hk
    subst e
    exact ⟨[], hk, by simp, xa, xc, rfl, [], by simp, fun w' _ => hempty xa xc w', fun k c v h => by simp at h⟩
  have hcells : ∀ (new : List (List V)) (blk off xc : Nat) (cells : Array Value) (T fz) (vals : List Value), w.heap[blk]? = some (.cells cells T fz) → vals.length = new.length * sz → (∀ k, k < vals.length → cells[off + k]? = vals[k]?) → x = .slice (some ⟨blk, off, none⟩) new.length xc →
      ∀ w' : World, w'.heap = w.heap → (Builtin.firstCells sz new.length x).run P w' = .ok vals.toArray w' := by
    intro new blk off xc cells T fz vals hb hl hc e w' hw
    subst e
    have := run_loadCells_list (P := P) w' ⟨blk, off, none⟩ vals (fun j u hj => by
      have hlt := (List.getElem?_eq_some_iff.1 hj).1
      rw [Addr.add_mid]
      simp only [World.cell?, hw, hb]
      rw [if_neg (by simp), hc j hlt, hj])
    rw [hl] at this
    simpa [Builtin.firstCells] using this
  unfold elems at h
  split at h
  · rename_i id off len
    obtain ⟨ob, hob, h7⟩ := run_get h
    split at h7
    · rename_i own sz' xs
      split at h7
      · rename_i hle
        obtain ⟨rfl, hle⟩ := hle
        obtain ⟨blk, base, tot, hd, hor⟩ := hs.live hob
        obtain ⟨ad, cap, rfl, hc, hcap⟩ := (hx.hs).hs_inv hd
        have hnl : ((xs.drop off).take len).length = len := by simp; omega
        by_cases h0 : len = 0
        · subst h0
          rw [List.take_zero] at h7
          exact hnil _ _ rfl h7
        · obtain ⟨hx', hor⟩ := hor
          rcases hor with ⟨_, h9⟩ | ⟨g0, cells, T, fz, g1, g2, g3, g4, g5, g6, g7⟩
          · subst h9; simp at hle; omega
          · obtain ⟨rfl, hbnd⟩ := hcap (by omega)
            have hmul : (off + len) * sz' ≤ xs.length * sz' := Nat.mul_le_mul_right _ hle
            rw [Nat.add_mul] at hmul
            have hvl : ((cells.toList.drop (base + off * sz')).take (len * sz')).length = len * sz' := by simp; omega
            refine ⟨_, h7, fun y hy => hx' y (List.mem_of_mem_drop (List.mem_of_mem_take hy)), _, _, by rw [hnl], (cells.toList.drop (base + off * sz')).take (len * sz'), by rw [hvl, hnl], ?_, fun k c v h1 h2 => ?_⟩
            · refine hcells ((xs.drop off).take len) blk (base + off * sz') cap cells T fz _ g1 (by rw [hvl, hnl]) (fun k hk => ?_) (by rw [hnl])
              rw [hvl] at hk
              rw [List.getElem?_take_of_lt hk, List.getElem?_drop, Array.getElem?_toList]
            · have hk : k < len * sz' := by have := (List.getElem?_eq_some_iff.1 h2).1; omega
              rw [flatten_take len (fun x hm => hx' x (List.mem_of_mem_drop hm)), flatten_drop off hx', List.getElem?_take_of_lt hk, List.getElem?_drop] at h1
              obtain ⟨u, hu, hp⟩ := g5 _ _ h1
              simp only [if_true] at hp
              rw [List.getElem?_take_of_lt hk, List.getElem?_drop, Array.getElem?_toList, Nat.add_assoc, hu] at h2
              cases h2; exact hp
      · exact (run_fail h7).elim
    · exact (run_fail h7).elim
  · rename_i sz' xs
    split at h
    · rename_i e
      subst e
      have hpl := hx.list
      cases hpl with
      | list0 => exact hnil _ _ rfl h
      | list _ _ blk off cap cells T fz vals hx' hcap hO hb hlen hcell hp =>
        exact ⟨xs, h, hx', _, _, rfl, vals, hlen, hcells xs blk off cap cells T fz vals hb hlen hcell rfl, hp⟩
    · exact (run_fail h).elim
  · exact hnil none 0 hx.nilS h
  · obtain ⟨ad, e⟩ := hx.emp; exact hnil ad 0 e h
  · cases hx with | one hx => cases hx with | leaf hx => cases hx with | pr hx => cases hx with | ne ad cap => exact hnil _ _ rfl h
  · exact (run_fail h).elim

theorem zeroCells_size (z : Array Value) (n : Nat) : (Builtin.zeroCells z n).size = n * z.size := size_zeroCells z n

/-- A row that is grown into a new block. -/
theorem SR.grown (hs : SR D Γ σ w.heap) {nid : Nat} (hn : σ[nid]? = some .vir) {sz : Nat} (hpos : 0 < sz) {all : List (List V)} (hall : ∀ y ∈ all, y.length = sz) {vals : List Value} (hl : vals.length = all.length * sz)
    (hp : ∀ (k : Nat) (c : V) (v : Value), all.flatten[k]? = some c → vals[k]? = some v → PR Γ w.heap c v) (T : TypeId) {zeros : Array Value} {cap : Nat} (hz : zeros.size = (cap - all.length) * sz) (hcap : all.length ≤ cap) :
    Post D Γ σ w.heap (.hs nid 0 all.length) [(nid, .cells true true sz all)] (.slice (some ⟨w.heap.size, 0, none⟩) all.length cap) (w.heap.push (.cells (vals.toArray ++ zeros) T)) := by
  have hsize : (vals.toArray ++ zeros).size = cap * sz := by
    simp [hl, hz]
    rw [← Nat.add_mul]; congr 1; omega
  obtain ⟨s2, e2⟩ := hs.alloc hn true sz all (vals.toArray ++ zeros) T hall (by rw [hsize]; exact Nat.mul_le_mul_right _ hcap) (fun h0 => by
    rw [hsize] at h0
    have : cap = 0 := by
      rcases Nat.mul_eq_zero.1 h0 with h | h
      · exact h
      · omega
    exact List.eq_nil_of_length_eq_zero (by omega)) (fun k c hk => by
      have hlt : k < vals.length := by
        have := (List.getElem?_eq_some_iff.1 hk).1
        rw [flatten_len hall] at this; omega
      refine ⟨vals[k], ?_, by simp only [if_true]; exact hp k c _ hk (List.getElem?_eq_getElem hlt)⟩
      rw [Array.getElem?_append_left (by simpa using hlt)]
      simp [hlt])
  exact ⟨_, _, .one (.leaf (.hs (get_set (hs.virD hn)) hcap fun _ => ⟨by simp, by rw [hsize]; simp⟩)), s2, e2⟩

theorem append_ok {X : Cx} (hX : X.OK P) (hs : SR D Γ σ w.heap) {T : List V} {a : Act} (hT : TR D Γ w.heap T a.tmps) {nid : Nat} {o : Oper} {args : Array Operand} {tys : Array TypeId} (ho : o.op = .call ⟨.builtin .append, args, tys⟩) : OpOK P D Γ σ w X T a nid o := by
  intro v ws hr
  simp only [op1, ho] at hr
  split at hr
  · rename_i s x t t' e1 e2
    have ea : args = #[s, x] := by rw [← Array.toArray_toList (xs := args), e1]
    have et : tys = #[t, t'] := by rw [← Array.toArray_toList (xs := tys), e2]
    subst ea; subst et
    split at hr
    · rename_i sz0 by0 p0 z0 e sz1 by1 p1 z1 e' hti hti'
      have ht := kind_slice (hX.ty _ _ hti) rfl
      have ht' := kind_slice (hX.ty _ _ hti') rfl
      split at hr
      · rename_i te hte
        obtain ⟨i, d, z, hi, hd, hz, hzl, hsz, hb, hk⟩ := tiOf_some (hX.ty _ _ hte)
        obtain ⟨zl, _⟩ := leafs_ok (Γ := Γ) (H := w.heap) hzl
        have hS := hT.ev s
        have hXv := hT.ev x
        unfold appendM at hr
        obtain ⟨new, hr, hnew, xa, xc, hxe, vals, hvl, hvrun, hvp⟩ := elems_inv (P := P) hr hs hXv
        obtain ⟨ob, hob, hr⟩ := run_get hr
        have run1 : ∀ {u : Value} {w' : World}, (Builtin.append_ #[t, t'] o.type #[a.eval s, a.eval x]).run P w = .ok u w' → Kept w w' → Gives P a o w u w' := by
          intro u w' h hkp
          refine ⟨hkp, .inl ?_⟩
          simp only [execOp, ho, resolve, invoke, builtin, Sem.run_bind, Sem.run_pure, Result.andThen_ok, List.map_toArray, List.map_cons, List.map_nil, h]
        rw [hxe] at run1
        have hnews : ∀ w' : World, w'.heap = w.heap → (Builtin.firstCells i.size new.length (.slice xa new.length xc)).run P w' = .ok vals.toArray w' := by
          rw [hsz, ← hxe]; exact hvrun
        split at hr
        · -- from nothing
          have nilcase : ∀ (sa : Option Addr), a.eval s = .slice sa 0 0 → 0 < te.size → te.zero.length = te.size → new.length * te.bytes ≤ 2 ^ 47 → new.length ≤ 2 ^ 47 → ∃ x w', Gives P a o w x w' ∧ Post D Γ σ w.heap (.hs nid 0 new.length) [(nid, .cells true true te.size new)] x w'.heap := by
            intro sa he hpos hzs hby hlen
            rw [he] at run1
            by_cases h0 : new.length = 0
            · have hn0 : new = [] := List.eq_nil_of_length_eq_zero h0
              subst hn0
              have hv0 : vals = [] := List.eq_nil_of_length_eq_zero (by simpa using hvl)
              subst hv0
              have hrun := run_append_in (P := P) (w := w) ht ht' (ty := o.type) hi sa 0 0 xa 0 xc [] hnews (by omega)
              have hrun' : (Builtin.append_ #[t, t'] o.type #[.slice sa 0 0, .slice xa 0 xc]).run P w = .ok (.slice sa 0 0) w := by
                rw [hrun]; cases sa <;> simp [storeCells]
              obtain ⟨s2, o2, sl2⟩ := hs.take hob true te.size [] (blk := 0) (base := 0) (tot := 0) ⟨by simp, .inl ⟨rfl, rfl⟩⟩ (fun _ _ _ _ _ _ h => by omega) (B := fun _ => False) (fun h => by omega)
              refine ⟨_, w, run1 hrun' ⟨rfl, rfl, rfl⟩, _, Γ, .one (.leaf (.hs (get_set (hs.virD hob)) (Nat.le_refl _) fun h => absurd rfl h)), s2, ⟨sl2, Nat.le_refl _, fun _ _ _ => rfl, fun _ h => h, fun b hb => .inl ((o2 b hb).resolve_right fun h => h), fun _ h => .inl h⟩⟩
            · have hfit : Builtin.nextslicecap (0 + new.length) 0 * i.bytes ≤ 281474976710656 := by
                rw [Nat.zero_add, nextslicecap_zero (by omega), hb]; omega
              have hrun := run_append_grow' (P := P) (w := w) ht ht' (ty := o.type) hi hz sa 0 0 xa new.length xc [] vals (fun w' _ => by cases sa <;> simp [Builtin.firstCells, loadCells, loadCellsFrom]) hnews (by omega) (by omega) hfit
              simp only [Nat.zero_add] at hrun
              have hge := grownCap_ge w new.length 0 e
              have := SR.grown (T := e) hs hob hpos hnew hvl hvp (zeros := Builtin.zeroCells z.cells (grownCap w new.length 0 e - new.length)) (cap := grownCap w new.length 0 e) (by rw [zeroCells_size, zl, hzs]) hge
              have e0 : (([] : List Value).toArray ++ vals.toArray) = vals.toArray := by simp
              rw [e0] at hrun
              exact ⟨_, _, run1 hrun ⟨rfl, rfl, rfl⟩, this⟩
          split at hr
          · rename_i hev
            rw [hev] at hS
            split at hr
            · rename_i hle
              cases run_done hr
              exact nilcase none hS.nilS hle.1 hle.2.1 hle.2.2.1 hle.2.2.2
            · exact (run_fail hr).elim
          · rename_i hev
            rw [hev] at hS
            split at hr
            · rename_i hle
              cases run_done hr
              obtain ⟨sa, he⟩ := hS.emp
              exact nilcase sa he hle.1 hle.2.1 hle.2.2.1 hle.2.2.2
            · exact (run_fail hr).elim
          · rename_i id off len hev
            rw [hev] at hS
            obtain ⟨ob2, hob2, hr⟩ := run_get hr
            split at hr
            · rename_i sz xs
              split at hr
              · rename_i hle
                obtain ⟨hpos, hzs, rfl, hol, hby, hlen, hne⟩ := hle
                cases run_done hr
                obtain ⟨blk, base, tot, hd2, hor⟩ := hs.live hob2
                obtain ⟨sa, cap, he, hc, hcap⟩ := (hS.hs).hs_inv hd2
                rw [he] at run1
                have hnl : ((xs.drop off).take len).length = len := by simp; omega
                have hxs := hor.1
                have hold : ∀ y ∈ (xs.drop off).take len, y.length = te.size := fun y hy => hxs y (List.mem_of_mem_drop (List.mem_of_mem_take hy))
                have hall : ∀ y ∈ (xs.drop off).take len ++ new, y.length = te.size := by
                  intro y hy
                  rcases List.mem_append.1 hy with hy | hy
                  · exact hold y hy
                  · exact hnew y hy
                have hlen2 : ((xs.drop off).take len ++ new).length = len + new.length := by rw [List.length_append, hnl]
                have hne' : id ≠ nid := hne
                by_cases hroom : len + new.length ≤ cap
                · have hrun := run_append_in (P := P) (w := w) ht ht' (ty := o.type) hi sa len cap xa new.length xc vals hnews hroom
                  by_cases hc0 : cap = 0
                  · -- no memory at all
                    have hl0 : len = 0 := by omega
                    have hn0 : new = [] := List.eq_nil_of_length_eq_zero (by omega)
                    subst hl0; subst hn0; subst hc0
                    have hv0 : vals = [] := List.eq_nil_of_length_eq_zero (by simpa using hvl)
                    subst hv0
                    simp only [List.length_nil, Nat.add_zero] at hrun run1
                    have hrun' : (Builtin.append_ #[t, t'] o.type #[.slice sa 0 0, .slice xa 0 xc]).run P w = .ok (.slice sa 0 0) w := by
                      rw [hrun]; cases sa <;> simp [storeCells]
                    obtain ⟨s1, e1'⟩ := hs.kill hob2
                    have hn1 : (σ.set id .dead)[nid]? = some .vir := by rw [List.getElem?_set_ne hne']; exact hob
                    obtain ⟨s2, o2, sl2⟩ := s1.take hn1 true te.size [] (blk := 0) (base := 0) (tot := 0) ⟨by simp, .inl ⟨rfl, rfl⟩⟩ (fun _ _ _ _ _ _ h => by omega) (B := fun _ => False) (fun h => by omega)
                    refine ⟨_, w, run1 hrun' ⟨rfl, rfl, rfl⟩, _, Γ, .one (.leaf (.hs (get_set (s1.virD hn1)) (Nat.le_refl _) fun h => absurd rfl h)), ?_, e1'.trans ⟨sl2, Nat.le_refl _, fun _ _ _ => rfl, fun _ h => h, fun b hb => .inl ((o2 b hb).resolve_right fun h => h), fun _ h => .inl h⟩⟩
                    simpa [lay] using s2
                  · -- room behind it
                    obtain ⟨rfl, hbnd⟩ := hcap hc0
                    have hbig : 0 < (off + cap) * te.size := Nat.mul_pos (by omega) hpos
                    rcases hor with ⟨_, ⟨h9, _⟩ | ⟨g0, cells, T0, fz, g1, g2, g3, g4, g5, g6, g7⟩⟩
                    · omega
                    · have hfz := g3 rfl
                      subst hfz
                      have hm1 : (off + len + new.length) * te.size ≤ (off + cap) * te.size := Nat.mul_le_mul_right _ (by omega)
                      have hm2 : (off + len + new.length) * te.size = off * te.size + len * te.size + new.length * te.size := by rw [Nat.add_mul, Nat.add_mul]
                      have h1c : ∀ u ∈ vals, u.oneCell' = true := by
                        intro u hu
                        obtain ⟨k, hk', hku⟩ := List.getElem_of_mem hu
                        have hlt : k < new.flatten.length := by rw [flatten_len hnew]; omega
                        exact (hvp k _ u (List.getElem?_eq_getElem hlt) (by rw [← hku]; exact List.getElem?_eq_getElem hk')).oneCell
                      have hst := run_storeCells_at P blk (base + off * te.size + len * te.size) T0 vals 0 cells w g1 (by omega) h1c
                      simp only [Nat.add_zero] at hst
                      have hrun' : (Builtin.append_ #[t, t'] o.type #[.slice (some ⟨blk, base + off * te.size, none⟩) len cap, .slice xa new.length xc]).run P w = .ok (.slice (some ⟨blk, base + off * te.size, none⟩) (len + new.length) cap)
                          (w.setRow blk (cells.toList.take (base + off * te.size + len * te.size) ++ vals ++ cells.toList.drop (base + off * te.size + len * te.size + vals.length)).toArray) := by
                        rw [hrun]; simp only [hsz, Addr.add_mid, hst, Result.andThen_ok]
                      have htk : ((cells.toList.take (base + off * te.size + len * te.size))).length = base + off * te.size + len * te.size := by simp; omega
                      have hlt2 : (xs.take (off + len)).length = off + len := by simp; omega
                      obtain ⟨s1, e1'⟩ := SR.write hs (H' := (w.setRow blk (cells.toList.take (base + off * te.size + len * te.size) ++ vals ++ cells.toList.drop (base + off * te.size + len * te.size + vals.length)).toArray).heap) hob2 hd2 g1
                        (cells' := (cells.toList.take (base + off * te.size + len * te.size) ++ vals ++ cells.toList.drop (base + off * te.size + len * te.size + vals.length)).toArray) (T := T0) (fz := (0, 0)) (xs' := xs.take (off + len) ++ new) (by simp; omega) g0
                        (fun y hy => by
                          rcases List.mem_append.1 hy with hy | hy
                          · exact hxs y (List.mem_of_mem_take hy)
                          · exact hnew y hy)
                        (by rw [List.length_append, hlt2]; omega)
                        (fun k c hk => by
                          simp only [if_true]
                          rw [List.flatten_append] at hk
                          have hfl : (xs.take (off + len)).flatten.length = (off + len) * te.size := by rw [flatten_len (fun y hy => hxs y (List.mem_of_mem_take hy)), hlt2]
                          rw [Nat.add_mul] at hfl
                          simp only [List.getElem?_toArray]
                          by_cases hk2 : k < off * te.size + len * te.size
                          · rw [List.getElem?_append_left (by omega), flatten_take _ hxs, List.getElem?_take_of_lt (by rw [Nat.add_mul]; exact hk2)] at hk
                            obtain ⟨u, hu, hp⟩ := g5 k c hk
                            simp only [if_true] at hp
                            refine ⟨u, ?_, hp⟩
                            rw [List.append_assoc, List.getElem?_append_left (by omega), List.getElem?_take_of_lt (by omega), Array.getElem?_toList]; exact hu
                          · rw [List.getElem?_append_right (by omega), hfl] at hk
                            have hlt : k - (off * te.size + len * te.size) < vals.length := by
                              have := (List.getElem?_eq_some_iff.1 hk).1
                              rw [flatten_len hnew] at this; omega
                            refine ⟨vals[k - (off * te.size + len * te.size)], ?_, hvp _ c _ hk (List.getElem?_eq_getElem hlt)⟩
                            rw [List.getElem?_append_left (by rw [List.length_append, htk]; omega), List.getElem?_append_right (by omega), htk,
                              show base + k - (base + off * te.size + len * te.size) = k - (off * te.size + len * te.size) by omega, List.getElem?_eq_getElem hlt])
                        (fun b hb => setRow_other w blk b _ hb) (setRow_heap w blk cells _ T0 (0, 0) g1) (by simp [World.setRow])
                      have hi1 := get_set (a := Ob.cells true true te.size (xs.take (off + len) ++ new)) hob2
                      obtain ⟨s2, e2'⟩ := s1.kill hi1
                      rw [List.set_set] at s2
                      obtain ⟨blk3, base3, tot3, hd3, hor3⟩ := s1.live hi1
                      rw [hd2] at hd3; cases hd3
                      have hor4 := hor3.mono s1 e2' (fun _ => rfl) (fun _ _ hg => s1.ownNot _ hg ⟨id, base, te.size, tot, hd2, g0⟩)
                      have hdrop : (xs.take (off + len) ++ new).drop off = (xs.drop off).take len ++ new := by
                        rw [List.drop_append, hlt2, show off - (off + len) = 0 by omega, List.drop_zero, List.drop_take, Nat.add_sub_cancel_left]
                      have hor5 : OR (D.set id .dead) Γ (w.setRow blk (cells.toList.take (base + off * te.size + len * te.size) ++ vals ++ cells.toList.drop (base + off * te.size + len * te.size + vals.length)).toArray).heap blk (base + off * te.size) tot true true te.size ((xs.drop off).take len ++ new) := by
                        refine ⟨hall, .inr ?_⟩
                        rcases hor4 with ⟨hx4, ⟨h9, _⟩ | ⟨_, c4, T4, f4, q1, q2, q3, q4, q5, q6, q7⟩⟩
                        · omega
                        · refine ⟨g0, c4, T4, f4, q1, q2, q3, ?_, fun k c hk => ?_, q6, q7⟩
                          · rw [hlen2, Nat.add_mul]; omega
                          · rw [← hdrop, flatten_drop off hx4, List.getElem?_drop] at hk
                            rw [Nat.add_assoc]; exact q5 _ c hk
                      have hn1 : (σ.set id .dead)[nid]? = some .vir := by rw [List.getElem?_set_ne hne']; exact hob
                      obtain ⟨s3, o3, sl3⟩ := s2.take hn1 true te.size _ hor5 (fun j base' sz' tot' hj ht' _ => by
                        rcases set_get hj with ⟨_, e⟩ | ⟨e, e'⟩
                        · cases e
                        · exact e (hs.apart _ _ _ _ _ _ _ _ _ hd2 e' g0 ht')) (B := fun b => b = blk) (fun _ => rfl)
                      refine ⟨_, _, run1 hrun' ⟨rfl, rfl, rfl⟩, _, Γ, .one (.leaf (LR.hs (blk := blk) (base := base + off * te.size) (sz := te.size) (tot := tot) (own := true) (get_set (s2.virD hn1)) hroom fun _ => ⟨by simp, ?_⟩)), s3, ⟨fun j sl hj => ?_, e1'.size, e1'.same, fun _ h => h, fun b hb => ?_, fun _ h => .inl h⟩⟩
                      · rw [Nat.zero_add]; rw [Nat.add_mul] at hbnd; omega
                      · obtain ⟨sl', j1, j2⟩ := e2'.slot j sl hj
                        obtain ⟨sl'', j3, j4⟩ := sl3 j sl' j1
                        refine ⟨sl'', j3, ?_⟩
                        by_cases hv : sl = .vir
                        · subst hv; trivial
                        · exact slotLe_trans hv j2 j4
                      · rcases o3 b hb with h | rfl
                        · exact (e2'.own b h).imp (fun h => h) fun h => Nat.le_trans e1'.size h
                        · exact .inl ⟨id, base, te.size, tot, hd2, g0⟩
                · -- into a new block
                  obtain ⟨old, ho', _, xa2, xc2, he2, ovals, ovl, ovrun, ovp⟩ := elems_inv (P := P) (w := w) (sz := te.size) (v := .hs id off len) (k := fun xs => .done (.list te.size xs) []) (r := (.list te.size ((xs.drop off).take len), [])) (σ := σ) (by
                    simp only [elems, M.run, hob2]
                    rw [if_pos ⟨trivial, hol⟩]; rfl) hs (x := .slice sa len cap) (by rw [← he]; exact hS)
                  have ho2 := run_done ho'
                  simp only [Prod.mk.injEq, V.list.injEq, true_and, and_true] at ho2
                  subst ho2
                  rw [hnl] at ovl ovrun
                  have hfit := growslice_fits (need := len + new.length) (old := cap) (bytes := i.bytes) (by omega) (by rw [hb]; exact Nat.le_trans hby (by decide))
                  have hrun := run_append_grow' (P := P) (w := w) ht ht' (ty := o.type) hi hz sa len cap xa new.length xc ovals vals (by rw [hsz]; exact ovrun) hnews (by omega) (by omega) hfit
                  have hge := grownCap_ge w (len + new.length) cap e
                  obtain ⟨s1, e1'⟩ := hs.kill hob2
                  have hn1 : (σ.set id .dead)[nid]? = some .vir := by rw [List.getElem?_set_ne hne']; exact hob
                  have := SR.grown (T := e) s1 hn1 hpos hall (vals := ovals ++ vals) (by rw [List.length_append, hlen2, ovl, hvl, Nat.add_mul])
                    (fun k c v h1 h2 => by
                      rw [List.flatten_append] at h1
                      have hfl : ((xs.drop off).take len).flatten.length = len * te.size := by rw [flatten_len hold, hnl]
                      by_cases hk2 : k < len * te.size
                      · rw [List.getElem?_append_left (by omega)] at h1 h2
                        exact ovp k c v h1 h2
                      · rw [List.getElem?_append_right (by omega)] at h1 h2
                        rw [hfl] at h1; rw [ovl] at h2
                        exact hvp _ c v h1 h2) (zeros := Builtin.zeroCells z.cells (grownCap w (len + new.length) cap e - (len + new.length))) (cap := grownCap w (len + new.length) cap e) (by rw [zeroCells_size, zl, hzs, hlen2]) (by rw [hlen2]; exact hge)
                  rw [hlen2] at this
                  have e0 : (ovals.toArray ++ vals.toArray) = (ovals ++ vals).toArray := by simp
                  rw [e0] at hrun
                  obtain ⟨D5, Γ5, v5, s5, e5⟩ := this
                  exact ⟨_, _, run1 hrun ⟨rfl, rfl, rfl⟩, D5, Γ5, v5, s5, e1'.trans e5⟩
              · exact (run_fail hr).elim
            · exact (run_fail hr).elim
          · exact (run_fail hr).elim
        · exact (run_fail hr).elim
      · exact (run_fail hr).elim
    · exact (run_fail hr).elim
  · exact (run_fail hr).elim
end
end Go.VM
