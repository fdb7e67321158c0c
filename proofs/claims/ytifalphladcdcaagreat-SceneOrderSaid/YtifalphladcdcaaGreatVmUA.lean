/- The machine over plain values: structs and arrays that are the same. No condition beyond those stated. -/
import Derived.Test.YtifalphladcdcaaGreatVmU
import Derived.Laws.StructEq
import Derived.ChangeKeysEq
set_option linter.unusedVariables false
set_option linter.unusedSimpArgs false
namespace Go.VM
section
variable {P : Program} {D : Dir} {Γ : Nat → Prop} {H : Array Obj}

theorem eqFs_ok {X : Cx} (hX : X.OK P) {eq : Nat → V → V → Option Bool} {d : Nat} {w : World}
    (heq : ∀ (t : Nat) (x y : V) (r : Bool) (a b : Value), eq t x y = some r → VR D Γ H x a → VR D Γ H y b → (Op.equalIn d t a b).run P w = .ok r w)
    {xs ys : List V} {as bs : Array Value} (hl : as.size = xs.length) (ha : ∀ (k : Nat) (c : V) (v : Value), xs[k]? = some c → as[k]? = some v → LR D Γ H c v)
    (hl' : bs.size = ys.length) (hb : ∀ (k : Nat) (c : V) (v : Value), ys[k]? = some c → bs[k]? = some v → LR D Γ H c v) :
    ∀ (fs : List Field) {r : Bool}, eqFs X eq xs ys fs = some r → (Op.eqFields d as bs fs).run P w = .ok r w
  | [], r, h => by simp only [eqFs, Option.some.injEq] at h; subst h; simp [Op.eqFields]
  | f :: fs, r, h => by
    simp only [eqFs] at h
    split at h
    · cases h
    · rename_i hn
      split at h
      · cases h
      · rename_i ti hti
        split at h
        · rename_i a b h1 h2
          split at h
          · rename_i r1 s1 h3 h4
            cases h
            obtain ⟨x, hx, hxv⟩ := part_ok (w := w) (hX.ty _ _ hti) h1 hl ha
            obtain ⟨y, hy, hyv⟩ := part_ok (w := w) (hX.ty _ _ hti) h2 hl' hb
            have e := heq _ _ _ _ _ _ h3 hxv hyv
            have ih := eqFs_ok hX heq hl ha hl' hb fs h4
            rw [Op.eqFields]
            simp only [ne_eq, hn, not_false_eq_true, if_true, Sem.run_bind, hx, hy, e, Result.andThen_ok]
            cases r1
            · simp
            · simpa using ih
          · cases h
        · cases h

theorem eqIs_ok {X : Cx} (hX : X.OK P) {e : Nat} {te : TI} (hte : X.ty e = some te) {eq : V → V → Option Bool} {d : Nat} {w : World}
    (heq : ∀ (x y : V) (r : Bool) (a b : Value), eq x y = some r → VR D Γ H x a → VR D Γ H y b → (Op.equalIn d e a b).run P w = .ok r w)
    {xs ys : List V} {as bs : Array Value} (hl : as.size = xs.length) (ha : ∀ (k : Nat) (c : V) (v : Value), xs[k]? = some c → as[k]? = some v → LR D Γ H c v)
    (hl' : bs.size = ys.length) (hb : ∀ (k : Nat) (c : V) (v : Value), ys[k]? = some c → bs[k]? = some v → LR D Γ H c v) :
    ∀ (is : List Nat) {r : Bool}, eqIs te eq xs ys is = some r → (Op.eqItems d e te.size as bs is).run P w = .ok r w
  | [], r, h => by simp only [eqIs, Option.some.injEq] at h; subst h; simp [Op.eqItems]
  | i :: is, r, h => by
    simp only [eqIs] at h
    split at h
    · rename_i a b h1 h2
      split at h
      · rename_i r1 s1 h3 h4
        cases h
        obtain ⟨x, hx, hxv⟩ := part_ok (w := w) (hX.ty _ _ hte) h1 hl ha
        obtain ⟨y, hy, hyv⟩ := part_ok (w := w) (hX.ty _ _ hte) h2 hl' hb
        have e := heq _ _ _ _ _ h3 hxv hyv
        have ih := eqIs_ok hX hte heq hl ha hl' hb is h4
        rw [Op.eqItems]
        simp only [Sem.run_bind, hx, hy, e, Result.andThen_ok]
        cases r1
        · simp
        · simpa using ih
      · cases h
    · cases h

theorem eqV_ok {X : Cx} (hX : X.OK P) (w : World) : ∀ (d t : Nat) (x y : V) {r : Bool} {a b : Value}, eqV P X d t x y = some r → VR D Γ H x a → VR D Γ H y b → ∀ m, (Op.equalIn (d + m) t a b).run P w = .ok r w
  | 0, t, x, y, r, a, b, h, _, _, _ => by simp [eqV] at h
  | d + 1, t, x, y, r, a, b, h, ha, hb, m => by
    rw [show d + 1 + m = (d + m) + 1 by omega]
    unfold eqV at h
    split at h
    · rename_i k0 k i k' j hu
      split at h
      · rename_i hk
        subst hk
        cases h
        have e1 := ha.int
        have e2 := hb.int
        subst e1; subst e2
        exact run_equalIn_int w _ _ _ _ _ _ hu
      · cases h
    · rename_i i j hu
      cases h
      have e1 := ha.bool
      have e2 := hb.bool
      subst e1; subst e2
      exact run_equalIn_bool' w _ _ _ _ hu
    · rename_i fs xs ys hu
      obtain ⟨as, rfl, h1, h2⟩ := ha.agg
      obtain ⟨bs, rfl, h3, h4⟩ := hb.agg
      split at h
      · cases h
      · rename_i hst
        have hf : P.fieldsOf t = fs := by unfold Program.fieldsOf; rw [hu]
        rw [run_equalIn_struct w _ _ _ _ (by rw [hf]; exact hu) hst, hf]
        exact eqFs_ok hX (fun t x y r a b h ha hb => eqV_ok hX w d t x y h ha hb m) h1 h2 h3 h4 _ h
    · rename_i n e xs ys hu
      obtain ⟨as, rfl, h1, h2⟩ := ha.agg
      obtain ⟨bs, rfl, h3, h4⟩ := hb.agg
      split at h
      · rename_i te hte
        obtain ⟨i, d', z, hi, hd, hz, hzl, hs, _, _⟩ := tiOf_some (hX.ty _ _ hte)
        have hc : P.cellsOf e = te.size := by unfold Program.cellsOf; rw [hi]; simpa using hs
        rw [run_equalIn_array w _ _ _ hu hi, hc]
        exact eqIs_ok hX hte (fun x y r a b h ha hb => eqV_ok hX w d e x y h ha hb m) h1 h2 h3 h4 _ h
      · cases h
    · cases h
end
end Go.VM
