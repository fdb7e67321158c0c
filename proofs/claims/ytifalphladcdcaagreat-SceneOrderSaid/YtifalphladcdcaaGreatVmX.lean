/- The machine over plain values: cuts, lengths, signs, kinds, function values, new rows and variables. No condition beyond those stated. -/
import Derived.Test.YtifalphladcdcaaGreatVmW
set_option linter.unusedVariables false
set_option linter.unusedSimpArgs false
namespace Go.VM
section
variable {P : Program} {D : Dir} {Γ : Nat → Prop} {σ : Store} {w : World}

theorem bounds_run {T : List V} {a : Act} (hT : TR D Γ w.heap T a.tmps) {lo hi : Option Operand} {len cap l h : Nat} (hb : bounds? len (lo.map (ev T)) (hi.map (ev T)) = some (l, h)) (hc : len ≤ cap) :
    (Instr.sliceBounds true len cap (lo.map a.eval) (hi.map a.eval) none).run P w = .ok (l, h, cap) w ∧ l ≤ h ∧ h ≤ len := by
  unfold bounds? at hb
  have geti : ∀ {x : Operand} {n : Int}, intOf? (ev T x) = some n → ∃ k, a.eval x = .int k n := by
    intro x n hn
    have := hT.ev x
    cases hv : ev T x with
    | int k m =>
      rw [hv] at hn this
      simp only [intOf?, Option.some.injEq] at hn
      subst hn
      exact ⟨k, this.int⟩
    | _ => rw [hv] at hn; simp [intOf?] at hn
  split at hb
  · rename_i hn ln h1 h2
    split at hb
    · rename_i hle
      simp only [Option.some.injEq, Prod.mk.injEq] at hb
      obtain ⟨rfl, rfl⟩ := hb
      refine ⟨?_, by omega, by omega⟩
      have hH : (match hi.map a.eval with | some v => Instr.sliceBound v cap .sliceAcap | none => pure len : Sem Nat).run P w = .ok hn.toNat w := by
        cases hi with
        | none => simp only [Option.map_none, Option.some.injEq] at h1; subst h1; simp
        | some x =>
          simp only [Option.map_some] at h1
          obtain ⟨k, hk⟩ := geti h1
          have c1 : 0 ≤ hn := by omega
          have c2 : hn ≤ (cap : Int) := by omega
          simp only [Option.map_some, Instr.sliceBound, hk, asIntOf, Sem.run_bind, Sem.run_pure, Result.andThen_ok]
          rw [if_pos ⟨c1, c2⟩]; rfl
      have hL : (match lo.map a.eval with | some v => Instr.sliceBound v hn.toNat .sliceB | none => pure 0 : Sem Nat).run P w = .ok ln.toNat w := by
        cases lo with
        | none => simp only [Option.map_none, Option.some.injEq] at h2; subst h2; simp
        | some x =>
          simp only [Option.map_some] at h2
          obtain ⟨k, hk⟩ := geti h2
          have c1 : 0 ≤ ln := by omega
          have c2 : ln ≤ (hn.toNat : Int) := by omega
          simp only [Option.map_some, Instr.sliceBound, hk, asIntOf, Sem.run_bind, Sem.run_pure, Result.andThen_ok]
          rw [if_pos ⟨c1, c2⟩]; rfl
      unfold Instr.sliceBounds
      cases hi with
      | none =>
        simp only [Option.map_none] at hH ⊢
        cases lo with
        | none => simp at hH hL ⊢; simp [hH, hL]
        | some x => simp at hH hL ⊢; simp [hH, hL]
      | some y =>
        simp only [Option.map_some] at hH ⊢
        cases lo with
        | none => simp at hH hL ⊢; simp [hH, hL]
        | some x => simp at hH hL ⊢; simp [hH, hL]
    · cases hb
  · cases hb

theorem slice_ok {X : Cx} (hX : X.OK P) (hs : SR D Γ σ w.heap) {T : List V} {a : Act} (hT : TR D Γ w.heap T a.tmps) {nid : Nat} {o : Oper} {t : Nat} {x : Operand} {lo hi : Option Operand} (ho : o.op = .slice t x lo hi none) : OpOK P D Γ σ w X T a nid o := by
  intro v ws hr
  simp only [op1, ho] at hr
  have hx := hT.ev x
  unfold sliceM at hr
  split at hr
  · rename_i sz0 by0 p0 z0 e hti
    have ht := kind_slice (hX.ty _ _ hti) rfl
    have go : ∀ {te : TI} {ad : Option Addr} {len cap l h : Nat}, X.ty e = some te → a.eval x = .slice ad len cap → len ≤ cap → bounds? len (lo.map (ev T)) (hi.map (ev T)) = some (l, h) →
        (execOp a.eval o).run P w = .ok (.value (.slice (if cap = l then ad else ad.map (·.add (l * te.size))) (h - l) (cap - l))) w ∧ l ≤ h ∧ h ≤ len := by
      intro te ad len cap l h hte he hc hb
      obtain ⟨inf, d, z, hinf, hd, hz, hzl, hsz, hb', hk⟩ := tiOf_some (hX.ty _ _ hte)
      obtain ⟨h1, h2, h3⟩ := bounds_run (P := P) hT hb hc
      exact ⟨by simp [execOp, ho, Instr.sliceAt, Instr.slice, run_und ht, he, h1, run_sizeOf hinf, hsz], h2, h3⟩
    split at hr
    · rename_i te id off len hte hev
      rw [hev] at hx
      split at hr
      · rename_i l h hb
        obtain ⟨ob, hob, hr⟩ := run_get hr
        split at hr
        · rename_i own pure sz xs
          split at hr
          · rename_i hsz
            subst hsz
            cases run_done hr
            obtain ⟨blk, base, tot, hd, _⟩ := hs.live hob
            obtain ⟨ad, cap, e2, hc, hcap⟩ := (hx.hs).hs_inv hd
            obtain ⟨h1, h2, h3⟩ := go hte e2 hc hb
            refine still h1 hs (.one (.leaf (.hs hd (by omega) fun hne => ?_)))
            obtain ⟨rfl, hb2⟩ := hcap (by omega)
            rw [if_neg (by omega)]
            refine ⟨by simp only [Option.map_some, Addr.add_mid]; rw [Nat.add_mul, Nat.add_assoc], ?_⟩
            rw [show off + l + (cap - l) = off + cap by omega]; exact hb2
          · exact (run_fail hr).elim
        · exact (run_fail hr).elim
      · exact (run_fail hr).elim
    · rename_i te sz xs hte hev
      rw [hev] at hx
      split at hr
      · rename_i l h hb
        split at hr
        · rename_i hsz
          subst hsz
          cases run_done hr
          have hpl := hx.list
          cases hq : a.eval x with
          | slice ad len cap =>
            rw [hq] at hpl
            cases hpl with
            | list0 _ _ _ hn0 =>
              obtain ⟨h1, h2, h3⟩ := go hte hq (by simp) hb
              have hl0 : l = 0 := by simp at h3; omega
              have hh0 : h = 0 := by simp at h3; omega
              subst hl0; subst hh0
              refine still h1 hs (vr_pr ?_)
              simp
              refine .list0 _ _ _ fun e => ?_
              split at e
              · exact hn0 e
              · exact hn0 (by simpa using e)
            | list _ _ blk off _ cells T' fz vals hx' hcap hO hb2 hlen hcell hp =>
              obtain ⟨h1, h2, h3⟩ := go hte hq hcap hb
              refine still h1 hs (vr_pr ?_)
              have hxs : ((xs.drop l).take (h - l)).length = h - l := by simp; omega
              by_cases h0 : h - l = 0
              · rw [h0, List.take_zero]
                refine .list0 _ _ _ fun e => ?_
                split at e
                · cases e
                · simp at e
              · rw [if_neg (by omega)]
                simp only [Option.map_some, Addr.add_mid]
                have hx2 : ∀ y ∈ (xs.drop l).take (h - l), y.length = te.size := fun y hm => hx' y (List.mem_of_mem_drop (List.mem_of_mem_take hm))
                have hmul : (l + (h - l)) * te.size ≤ xs.length * te.size := Nat.mul_le_mul_right _ (by omega)
                rw [Nat.add_mul] at hmul
                have hfl : ∀ k, k < (h - l) * te.size → ((xs.drop l).take (h - l)).flatten[k]? = xs.flatten[l * te.size + k]? := by
                  intro k hk
                  rw [flatten_take _ (fun x hm => hx' x (List.mem_of_mem_drop hm)), flatten_drop l hx', List.getElem?_take_of_lt hk, List.getElem?_drop]
                have := PR.list (Γ := Γ) (H := w.heap) te.size ((xs.drop l).take (h - l)) blk (off + l * te.size) (cap - l) cells T' fz ((vals.drop (l * te.size)).take ((h - l) * te.size)) hx2 (by omega) hO hb2
                  (by simp [hxs]; omega)
                  (fun k hk => by
                    simp at hk
                    rw [Nat.add_assoc, hcell _ (by omega), List.getElem?_take_of_lt (by omega), List.getElem?_drop])
                  (fun k c v h4 h5 => by
                    have hk : k < (h - l) * te.size := by
                      have := (List.getElem?_eq_some_iff.1 h4).1
                      rw [flatten_len hx2, hxs] at this; exact this
                    rw [hfl k hk] at h4
                    rw [List.getElem?_take_of_lt hk, List.getElem?_drop] at h5
                    exact hp _ _ _ h4 h5)
                rw [hxs] at this
                exact this
          | _ => rw [hq] at hpl; cases hpl
        · exact (run_fail hr).elim
      · exact (run_fail hr).elim
    · rename_i te hte hev
      rw [hev] at hx
      split at hr
      · rename_i lh hb
        obtain ⟨l, h⟩ := lh
        cases run_done hr
        obtain ⟨h1, h2, h3⟩ := go hte hx.nilS (Nat.le_refl _) hb
        have hl0 : l = 0 := by omega
        have hh0 : h = 0 := by omega
        subst hl0; subst hh0
        exact still h1 hs (vr_pr (by simp; exact .nilS))
      · exact (run_fail hr).elim
    · exact (run_fail hr).elim
  · exact (run_fail hr).elim

theorem len_ok {X : Cx} (hX : X.OK P) (hs : SR D Γ σ w.heap) {T : List V} {a : Act} (hT : TR D Γ w.heap T a.tmps) {nid : Nat} {o : Oper} {args : Array Operand} {tys : Array TypeId} (ho : o.op = .call ⟨.builtin .len, args, tys⟩) : OpOK P D Γ σ w X T a nid o := by
  intro v ws hr
  simp only [op1, ho] at hr
  split at hr
  · rename_i x t e1 e2
    have ea : args = #[x] := by rw [← Array.toArray_toList (xs := args), e1]
    have et : tys = #[t] := by rw [← Array.toArray_toList (xs := tys), e2]
    subst ea; subst et
    split at hr
    · rename_i hk
      cases hti : X.ty t with
      | none => rw [hti] at hk; simp at hk
      | some ti =>
        rw [hti] at hk
        simp only [Option.any_some] at hk
        have : ∃ e, ti.kind = .slice e := by
          cases hkk : ti.kind <;> rw [hkk] at hk <;> first | exact ⟨_, rfl⟩ | cases hk
        obtain ⟨e, hke⟩ := this
        have ht := kind_slice (hX.ty _ _ hti) hke
        have hx := hT.ev x
        have fin : ∀ {ad : Option Addr} {n cap : Nat}, a.eval x = .slice ad n cap → (execOp a.eval o).run P w = .ok (.value (.int .i64 n)) w := by
          intro ad n cap he
          simp [execOp, ho, resolve, invoke, builtin, Builtin.len_, run_und ht, he, goInt]
        unfold lenM at hr
        split at hr
        · rename_i id off n hev
          rw [hev] at hx
          obtain ⟨own, pure, sz, xs, hob, hr⟩ := live_inv hr
          cases run_done hr
          obtain ⟨blk, base, tot, hd, _⟩ := hs.live hob
          obtain ⟨ad, cap, e2, _⟩ := (hx.hs).hs_inv hd
          exact still (fin e2) hs (vr_pr (.int _ _))
        · rename_i sz xs hev
          rw [hev] at hx
          cases run_done hr
          have hpl := hx.list
          cases hq : a.eval x with
          | slice ad len cap =>
            rw [hq] at hpl
            have e3 := fin hq
            cases hpl with
            | list0 => exact still e3 hs (vr_pr (.int _ _))
            | list => exact still e3 hs (vr_pr (.int _ _))
          | _ => rw [hq] at hpl; cases hpl
        · rename_i hev; rw [hev] at hx; cases run_done hr; exact still (fin hx.nilS) hs (vr_pr (.int _ _))
        · rename_i hev; rw [hev] at hx; cases run_done hr
          obtain ⟨ad, e3⟩ := hx.emp
          exact still (fin e3) hs (vr_pr (.int _ _))
        · rename_i hev; rw [hev] at hx; cases run_done hr
          cases hx with | one hx => cases hx with | leaf hx => cases hx with | pr hx =>
            cases hq : a.eval x with
            | slice ad len cap =>
              rw [hq] at hx
              have e3 := fin hq
              cases hx with | ne => exact still e3 hs (vr_pr (.int _ _))
            | _ => rw [hq] at hx; cases hx
        · exact (run_fail hr).elim
    · exact (run_fail hr).elim
  · exact (run_fail hr).elim

theorem unOp_ok {X : Cx} (hs : SR D Γ σ w.heap) {T : List V} {a : Act} (hT : TR D Γ w.heap T a.tmps) {nid : Nat} {o : Oper} {op : UnOp} {t : Nat} {x : Operand} (ho : o.op = .unOp op t x) : OpOK P D Γ σ w X T a nid o := by
  intro v ws hr
  simp only [op1, ho] at hr
  have hx := hT.ev x
  split at hr
  · rename_i k n hev
    rw [hev] at hx
    cases run_done hr
    exact still (x := .int k (k.wrap (0 - n))) (by simp [execOp, ho, Op.unary, hx.int, Op.intArith]) hs (vr_pr (.int _ _))
  · rename_i b hev
    rw [hev] at hx
    cases run_done hr
    exact still (x := .bool !b) (by simp [execOp, ho, Op.unary, hx.bool]) hs (vr_pr (.bool _))
  · exact (run_fail hr).elim

theorem convert_ok {X : Cx} (hX : X.OK P) (hs : SR D Γ σ w.heap) {T : List V} {a : Act} (hT : TR D Γ w.heap T a.tmps) {nid : Nat} {o : Oper} {src dst : Nat} {x : Operand} (ho : o.op = .convert src dst x) : OpOK P D Γ σ w X T a nid o := by
  intro v ws hr
  simp only [op1, ho] at hr
  have hx := hT.ev x
  split at hr
  · rename_i sz0 by0 p0 z0 k k' n hti hev
    rw [hev] at hx
    split at hr
    · rename_i hsrc
      cases run_done hr
      have ht := kind_int (hX.ty _ _ hti) rfl
      cases hts : X.ty src with
      | none => rw [hts] at hsrc; simp at hsrc
      | some ts =>
        obtain ⟨i, d, z, hi, hd, _⟩ := tiOf_some (hX.ty _ _ hts)
        exact still (x := .int k (k.wrap n)) (by simp [execOp, ho, convert, run_und hd, run_und ht, hx.int, Conv.intToInt]) hs (vr_pr (.int _ _))
    · exact (run_fail hr).elim
  · exact (run_fail hr).elim

theorem minmax_ok {X : Cx} (hs : SR D Γ σ w.heap) {T : List V} {a : Act} (hT : TR D Γ w.heap T a.tmps) {nid : Nat} {o : Oper} {args : Array Operand} {tys : Array TypeId} (ho : o.op = .call ⟨.builtin .min, args, tys⟩ ∨ o.op = .call ⟨.builtin .max, args, tys⟩) : OpOK P D Γ σ w X T a nid o := by
  intro v ws hr
  have key : ∀ {k k' : IntKind} {x y : Int}, args.toList.map (ev T) = [.int k x, .int k' y] → args.map a.eval = #[.int k x, .int k' y] := by
    intro k k' x y h
    have hl : args.toList.length = 2 := by have := congrArg List.length h; simpa using this
    match hq : args.toList, hl with
    | [p, q], _ =>
      rw [hq] at h
      simp only [List.map_cons, List.map_nil, List.cons.injEq, and_true] at h
      have ea : args = #[p, q] := by rw [← Array.toArray_toList (xs := args), hq]
      subst ea
      have h1 := hT.ev p
      have h2 := hT.ev q
      rw [h.1] at h1; rw [h.2] at h2
      simp [h1.int, h2.int]
  rcases ho with ho | ho
  · simp only [op1, ho] at hr
    split at hr
    · rename_i k x k' y e
      split at hr
      · rename_i hk
        subst hk
        cases run_done hr
        exact still (x := .int k (if y < x then y else x)) (by simp [execOp, ho, resolve, invoke, builtin, Builtin.min_, key e, Builtin.min2]) hs (vr_pr (.int _ _))
      · exact (run_fail hr).elim
    · exact (run_fail hr).elim
  · simp only [op1, ho] at hr
    split at hr
    · rename_i k x k' y e
      split at hr
      · rename_i hk
        subst hk
        cases run_done hr
        exact still (x := .int k (if y > x then y else x)) (by simp [execOp, ho, resolve, invoke, builtin, Builtin.max_, key e, Builtin.max2]) hs (vr_pr (.int _ _))
      · exact (run_fail hr).elim
    · exact (run_fail hr).elim
end
end Go.VM
