/- The machine over plain values: fields, elements, cuts, lengths, functions. No condition beyond those stated. -/
import Derived.Test.YtifalphladcdcaaGreatVmV
set_option linter.unusedVariables false
set_option linter.unusedSimpArgs false
namespace Go.VM
section
variable {P : Program} {D : Dir} {Γ : Nat → Prop} {σ : Store} {w : World}

theorem PR.pp_drop {H : Array Obj} {cs : List V} {v : Value} (h : PR Γ H (.pp cs) v) : ∃ blk off, v = .pointer (some ⟨blk, off, none⟩) ∧ ∀ n, PR Γ H (.pp (cs.drop n)) (.pointer (some ⟨blk, off + n, none⟩)) := by
  cases h with
  | pp _ blk off cells T fz vals hO hb hlen hcell hp =>
    refine ⟨blk, off, rfl, fun n => ?_⟩
    refine .pp _ blk (off + n) cells T fz (vals.drop n) hO hb (by simp [hlen]) (fun k hk => ?_) (fun k c v h1 h2 => ?_)
    · simp at hk
      rw [Nat.add_assoc, hcell (n + k) (by omega), List.getElem?_drop]
    · rw [List.getElem?_drop] at h1 h2
      exact hp _ _ _ h1 h2

theorem ptr_of (hs : SR D Γ σ w.heap) {id i off : Nat} {x : Value} (h : VR D Γ w.heap (.ptr id i off) x) {own pure : Bool} {sz : Nat} {xs : List (List V)} (hob : σ[id]? = some (.cells own pure sz xs)) :
    ∃ blk b0, x = .pointer (some ⟨blk, b0, none⟩) ∧ ∀ j n m, j * sz + n = i * sz + off + m → VR D Γ w.heap (.ptr id j n) (.pointer (some ⟨blk, b0 + m, none⟩)) := by
  obtain ⟨blk, base, tot, hd, _⟩ := hs.live hob
  refine ⟨blk, base + i * sz + off, (h.ptr).ptr_inv hd, fun j n m e => ?_⟩
  have := LR.ptr (D := D) (Γ := Γ) (H := w.heap) (id := id) (i := j) (off := n) hd
  rw [show base + j * sz + n = base + i * sz + off + m by omega] at this
  exact .one (.leaf this)

theorem nilCheck_ok {X : Cx} (hs : SR D Γ σ w.heap) {T : List V} {a : Act} (hT : TR D Γ w.heap T a.tmps) {nid : Nat} {o : Oper} {x : Operand} (ho : o.op = .nilCheck x) : OpOK P D Γ σ w X T a nid o := by
  intro v ws hr
  simp only [op1, ho] at hr
  have hx := hT.ev x
  split at hr
  · rename_i id i off e
    rw [e] at hx
    obtain ⟨own, pure, sz, xs, hob, hr⟩ := live_inv hr
    cases run_done hr
    obtain ⟨blk, b0, e2, _⟩ := ptr_of hs hx hob
    refine still (x := .pointer (some ⟨blk, b0, none⟩)) (by simp [execOp, ho, e2]) hs ?_
    rw [← e2]; exact hx
  · rename_i cs e
    rw [e] at hx
    cases run_done hr
    obtain ⟨blk, off, e2, _⟩ := hx.pp.pp_drop
    refine still (x := .pointer (some ⟨blk, off, none⟩)) (by simp [execOp, ho, e2]) hs ?_
    rw [← e2]; exact hx
  · rename_i f cs e
    rw [e] at hx
    cases run_done hr
    obtain ⟨arr, e2, _, _⟩ := hx.fn
    refine still (x := .func (.func f) #[] arr) (by simp [execOp, ho, e2]) hs ?_
    rw [← e2]; exact hx
  · exact (run_fail hr).elim

theorem fieldAddr_ok {X : Cx} (hX : X.OK P) (hs : SR D Γ σ w.heap) {T : List V} {a : Act} (hT : TR D Γ w.heap T a.tmps) {nid : Nat} {o : Oper} {s f : Nat} {x : Operand} (ho : o.op = .fieldAddr s x f) : OpOK P D Γ σ w X T a nid o := by
  intro v ws hr
  simp only [op1, ho] at hr
  have hx := hT.ev x
  split at hr
  · rename_i sz0 by0 p0 z0 fs hti
    obtain ⟨gs, hgs, rfl⟩ := kind_struct (hX.ty _ _ hti) rfl
    have go : ∀ {off t blk b0 : Nat}, (gs.toList.map fun f => (f.offset, f.type))[f]? = some (off, t) → (X.ty t).any (0 < ·.size) = true → a.eval x = .pointer (some ⟨blk, b0, none⟩) →
        (execOp a.eval o).run P w = .ok (.value (.pointer (some ⟨blk, b0 + off, none⟩))) w := by
      intro off t blk b0 hf ht he
      rw [List.getElem?_map] at hf
      cases hg : gs.toList[f]? with
      | none => rw [hg] at hf; simp at hf
      | some g =>
        rw [hg] at hf
        simp only [Option.map_some, Option.some.injEq, Prod.mk.injEq] at hf
        obtain ⟨h1, h2⟩ := hf
        rw [Array.getElem?_toList] at hg
        cases hti2 : X.ty t with
        | none => rw [hti2] at ht; simp at ht
        | some ti =>
          rw [hti2] at ht
          simp at ht
          obtain ⟨i, d, z, hi, hd, hz, hzl, hsz, hb, hk⟩ := tiOf_some (hX.ty _ _ hti2)
          have hne : i.size ≠ 0 := by omega
          subst h1; subst h2
          simp [execOp, ho, Instr.fieldAt, Instr.sureAddr, run_und hgs, hg, he, fieldPlace, run_sizeOf hi, hne, Addr.add_mid]
    split at hr
    · rename_i off t id i o' hf hev
      rw [hev] at hx
      split at hr
      · rename_i ht
        obtain ⟨own, pure, sz, xs, hob, hr⟩ := live_inv hr
        cases run_done hr
        obtain ⟨blk, b0, e2, hh⟩ := ptr_of hs hx hob
        exact still (go hf ht e2) hs (hh i (o' + off) off (by omega))
      · exact (run_fail hr).elim
    · rename_i off t cs hf hev
      rw [hev] at hx
      split at hr
      · rename_i ht
        cases run_done hr
        obtain ⟨blk, b0, e2, hh⟩ := hx.pp.pp_drop
        exact still (go hf ht e2) hs (vr_pr (hh off))
      · exact (run_fail hr).elim
    · exact (run_fail hr).elim
  · exact (run_fail hr).elim

theorem field_ok {X : Cx} (hX : X.OK P) (hs : SR D Γ σ w.heap) {T : List V} {a : Act} (hT : TR D Γ w.heap T a.tmps) {nid : Nat} {o : Oper} {s f : Nat} {x : Operand} (ho : o.op = .field s x f) : OpOK P D Γ σ w X T a nid o := by
  intro v ws hr
  simp only [op1, ho] at hr
  have hx := hT.ev x
  split at hr
  · rename_i sz0 by0 p0 z0 fs cs hti hev
    obtain ⟨gs, hgs, rfl⟩ := kind_struct (hX.ty _ _ hti) rfl
    rw [hev] at hx
    split at hr
    · rename_i off t hf
      split at hr
      · rename_i ti hti2
        obtain ⟨u, hu, hr⟩ := mDone_inv hr
        cases hr
        obtain ⟨arr, e2, hl, hh⟩ := hx.agg
        obtain ⟨y, hy, hv⟩ := part_ok (P := P) (w := w) (D := D) (Γ := Γ) (H := w.heap) (hX.ty _ _ hti2) hu hl hh
        rw [List.getElem?_map] at hf
        cases hg : gs.toList[f]? with
        | none => rw [hg] at hf; simp at hf
        | some g =>
          rw [hg] at hf
          simp only [Option.map_some, Option.some.injEq, Prod.mk.injEq] at hf
          obtain ⟨h1, h2⟩ := hf
          rw [Array.getElem?_toList] at hg
          subst h1; subst h2
          exact still (x := y) (by simp [execOp, ho, Instr.field, run_und hgs, hg, e2, asAgg, hy]) hs hv
      · exact (run_fail hr).elim
    · exact (run_fail hr).elim
  · exact (run_fail hr).elim

theorem extract_ok {X : Cx} (hs : SR D Γ σ w.heap) {T : List V} {a : Act} (hT : TR D Γ w.heap T a.tmps) {nid : Nat} {o : Oper} {x : Operand} {i : Nat} (ho : o.op = .extract x i) : OpOK P D Γ σ w X T a nid o := by
  intro v ws hr
  simp only [op1, ho] at hr
  have hx := hT.ev x
  split at hr
  · rename_i vs e
    rw [e] at hx
    obtain ⟨u, hu, hr⟩ := mDone_inv hr
    cases hr
    obtain ⟨arr, e2, hl, hh⟩ := hx.tup_inv
    have hlt : i < arr.size := by have := (List.getElem?_eq_some_iff.1 hu).1; omega
    have e3 : arr[i]? = some arr[i] := Array.getElem?_eq_getElem hlt
    exact still (x := arr[i]) (by simp [execOp, ho, Instr.extract, e2, e3]) hs (.one (hh _ _ _ hu e3))
  · exact (run_fail hr).elim

theorem index_ok {X : Cx} (hX : X.OK P) (hs : SR D Γ σ w.heap) {T : List V} {a : Act} (hT : TR D Γ w.heap T a.tmps) {nid : Nat} {o : Oper} {t : Nat} {x ix : Operand} (ho : o.op = .index t x ix) : OpOK P D Γ σ w X T a nid o := by
  intro v ws hr
  simp only [op1, ho] at hr
  have hx := hT.ev x
  have hi := hT.ev ix
  split at hr
  · rename_i sz0 by0 p0 z0 n e cs k i hti hev1 hev2
    have ht := kind_array (hX.ty _ _ hti) rfl
    rw [hev1] at hx; rw [hev2] at hi
    split at hr
    · rename_i te hte
      split at hr
      · rename_i hle
        obtain ⟨u, hu, hr⟩ := mDone_inv hr
        cases hr
        obtain ⟨arr, e2, hl, hh⟩ := hx.agg
        obtain ⟨y, hy, hv⟩ := part_ok (P := P) (w := w) (D := D) (Γ := Γ) (H := w.heap) (hX.ty _ _ hte) hu hl hh
        obtain ⟨inf, d, z, hinf, hd, hz, hzl, hsz, hb, hk⟩ := tiOf_some (hX.ty _ _ hte)
        exact still (x := y) (by simp [execOp, ho, Instr.index, e2, hi.int, asIntOf, run_und ht, hle, run_sizeOf hinf, hsz, hy]) hs hv
      · exact (run_fail hr).elim
    · exact (run_fail hr).elim
  · rename_i s k i hev1 hev2
    rw [hev1] at hx; rw [hev2] at hi
    split at hr
    · rename_i ht
      split at hr
      · rename_i hle
        cases hr
        have hb : s[i.toNat]? = some s[i.toNat] := getElem?_pos s i.toNat hle.2
        refine still (x := .int .u8 (byteAt s i.toNat)) ?_ hs (.one (.leaf (.pr (.int _ _))))
        simp [execOp, ho, Instr.index, hx.str, hi.int, asIntOf, run_und ht, hle.1, hb, byteAt]
      · exact (run_fail hr).elim
    · exact (run_fail hr).elim
  · exact (run_fail hr).elim

theorem indexAddr_ok {X : Cx} (hX : X.OK P) (hs : SR D Γ σ w.heap) {T : List V} {a : Act} (hT : TR D Γ w.heap T a.tmps) {nid : Nat} {o : Oper} {t : Nat} {x ix : Operand} (ho : o.op = .indexAddr t x ix) : OpOK P D Γ σ w X T a nid o := by
  intro v ws hr
  simp only [op1, ho] at hr
  have hx := hT.ev x
  have hi := hT.ev ix
  split at hr
  · rename_i sz0 by0 p0 z0 e k i hti hev2
    have ht := kind_slice (hX.ty _ _ hti) rfl
    rw [hev2] at hi
    have hi := hi.int
    have go : ∀ {te : TI} {ad : Addr} {len cap : Nat}, X.ty e = some te → a.eval x = .slice (some ad) len cap → 0 ≤ i → i < len →
        (execOp a.eval o).run P w = .ok (.value (.pointer (some (ad.add (i.toNat * te.size))))) w := by
      intro te ad len cap hte he h1 h2
      obtain ⟨inf, d, z, hinf, hd, hz, hzl, hsz, hb, hk⟩ := tiOf_some (hX.ty _ _ hte)
      simp [execOp, ho, Instr.indexAt, hi, asIntOf, run_und ht, he, h1, h2, run_sizeOf hinf, hsz]
    split at hr
    · rename_i te id off len hte hev
      rw [hev] at hx
      split at hr
      · rename_i hle
        obtain ⟨h1, h2, h3⟩ := hle
        obtain ⟨ob, hob, hr⟩ := run_get hr
        split at hr
        · rename_i own pure sz xs
          split at hr
          · rename_i hsz
            subst hsz
            cases run_done hr
            obtain ⟨blk, base, tot, hd, _⟩ := hs.live hob
            obtain ⟨ad, cap, e2, hc, hcap⟩ := (hx.hs).hs_inv hd
            obtain ⟨rfl, _⟩ := hcap (by omega)
            have h4 : i.toNat < len := by omega
            refine still (go hte e2 h1 h2) hs ?_
            rw [Addr.add_mid]
            have := LR.ptr (D := D) (Γ := Γ) (H := w.heap) (id := id) (i := off + i.toNat) (off := 0) hd
            rw [show base + (off + i.toNat) * te.size + 0 = base + off * te.size + i.toNat * te.size by rw [Nat.add_mul]; omega] at this
            exact .one (.leaf this)
          · exact (run_fail hr).elim
        · exact (run_fail hr).elim
      · exact (run_fail hr).elim
    · rename_i te sz xs hte hev
      rw [hev] at hx
      split at hr
      · rename_i hle
        obtain ⟨h1, h2, h3⟩ := hle
        subst h2
        split at hr
        · rename_i y hy
          cases run_done hr
          have hlt : i.toNat < xs.length := (List.getElem?_eq_some_iff.1 hy).1
          have hpl := hx.list
          cases hq : a.eval x with
          | slice ad len cap =>
            rw [hq] at hpl
            cases hpl with
            | list0 => simp at hlt
            | list _ _ blk off _ cells T' fz vals hx' hcap hO hb hlen hcell hp =>
              have hyl : y.length = te.size := hx' y (List.mem_of_getElem? hy)
              have hin : i.toNat * te.size + te.size ≤ xs.length * te.size := by
                have : (i.toNat + 1) * te.size ≤ xs.length * te.size := Nat.mul_le_mul_right _ hlt
                rw [Nat.add_mul] at this; omega
              refine still (go hte hq h1 (by omega)) hs ?_
              rw [Addr.add_mid]
              refine vr_pr (.pp y blk _ cells T' fz ((vals.drop (i.toNat * te.size)).take te.size) hO hb (by simp; omega) (fun k hk => ?_) (fun k c v h4 h5 => ?_))
              · simp at hk
                rw [Nat.add_assoc, hcell _ (by omega), List.getElem?_take_of_lt (by omega), List.getElem?_drop]
              · have hk : k < te.size := by have := (List.getElem?_eq_some_iff.1 h4).1; omega
                rw [List.getElem?_take_of_lt hk, List.getElem?_drop] at h5
                exact hp _ _ _ (by rw [flatten_row hx' hy hk]; exact h4) h5
          | _ => rw [hq] at hpl; cases hpl
        · exact (run_fail hr).elim
      · exact (run_fail hr).elim
    · exact (run_fail hr).elim
  · rename_i sz0 by0 p0 z0 n e k i hti hev2
    have ht := kind_array (hX.ty _ _ hti) rfl
    rw [hev2] at hi
    have hi := hi.int
    have go : ∀ {te : TI} {blk b0 : Nat}, X.ty e = some te → a.eval x = .pointer (some ⟨blk, b0, none⟩) → 0 ≤ i → i < n →
        (execOp a.eval o).run P w = .ok (.value (.pointer (some ⟨blk, b0 + i.toNat * te.size, none⟩))) w := by
      intro te blk b0 hte he h1 h2
      obtain ⟨inf, d, z, hinf, hd, hz, hzl, hsz, hb, hk⟩ := tiOf_some (hX.ty _ _ hte)
      simp [execOp, ho, Instr.indexAt, Instr.sureAddr, hi, asIntOf, run_und ht, he, h1, h2, run_sizeOf hinf, hsz, Addr.add_mid]
    split at hr
    · rename_i te id j off hte hev
      rw [hev] at hx
      split at hr
      · rename_i hle
        obtain ⟨h1, h2, h3⟩ := hle
        obtain ⟨own, pure, sz, xs, hob, hr⟩ := live_inv hr
        cases run_done hr
        obtain ⟨blk, b0, e2, hh⟩ := ptr_of hs hx hob
        exact still (go hte e2 h1 h2) hs (hh j _ _ (by omega))
      · exact (run_fail hr).elim
    · rename_i te cs hte hev
      rw [hev] at hx
      split at hr
      · rename_i hle
        obtain ⟨h1, h2, h3⟩ := hle
        cases run_done hr
        obtain ⟨blk, b0, e2, hh⟩ := hx.pp.pp_drop
        exact still (go hte e2 h1 h2) hs (vr_pr (hh _))
      · exact (run_fail hr).elim
    · exact (run_fail hr).elim
  · exact (run_fail hr).elim
end
end Go.VM
