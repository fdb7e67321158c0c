/- Paths, on: the document's morph, mapped paths, keys of paths, the path at a tick: the program's and the document's tell the same. Conditions: those stated. -/
import Derived.Test.YtifalphladcdcaaPath5
set_option linter.unusedVariables false
set_option linter.unusedSimpArgs false
namespace Go.Proofs.Ytifalphladcdcaa.H
open Go Go.VM
set_option maxRecDepth 100000
theorem push_rp (res : List Pt) (i : Nat) (h : i < res.length) : List.take i (Rp (res.take i)) ++ [(res[i]).cells] = Rp (res.take (i + 1)) := by
  rw [List.take_of_length_le (by rw [rp_len, List.length_take]; omega), List.take_add_one, List.getElem?_eq_getElem h, Option.toList_some]
  simp only [Rp, List.map_append, List.map_cons, List.map_nil]
theorem morph_len (c : Bool) (ps : List Pt) (d : Bool) (qs : List Pt) (t : Int) : (morphv c ps d qs t).length = ps.length := by
  unfold morphv
  split
  · rename_i h
    unfold fitsv at h
    rw [Bool.and_eq_true] at h
    have := of_decide_eq_true h.1
    rw [List.length_zipWith]; omega
  · rfl
theorem rmorph_loop (c : Bool) (ps : List Pt) (d : Bool) (qs : List Pt) (t : Int) (hl : (ps.length : Int) * 16 ≤ 140737488355328) : ∀ (n i : Nat), i ≤ ps.length → ps.length < n + i →
    L30_0 n (.s0 t i c (Rp ps) d (Rp qs) i (Rp ((morphv c ps d qs t).take i))) = some (.e0 c ps.length (Rp (morphv c ps d qs t)))
  | 0, i, h1, h2 => by omega
  | n + 1, i, h1, h2 => by
    rw [L30_0_s0]
    have hm := morph_len c ps d qs t
    by_cases h : i < ps.length
    · have hres : i < (morphv c ps d qs t).length := by omega
      have hpush := push_rp (morphv c ps d qs t) i hres
      have hchk : 0 + i ≤ (Rp ((morphv c ps d qs t).take i)).length ∧ (i + 1) * 16 ≤ 140737488355328 ∧ i + 1 ≤ 140737488355328 := by rw [rp_len, List.length_take]; omega
      simp only [D30_0, PT.ev, PT.test, dite_eq_ite, rp_len, if_pos (show (i : Int) < (ps.length : Int) by omega), if_pos (show (0 : Int) ≤ (i : Int) by omega), Int.toNat_natCast, rp_get, List.getElem?_eq_getElem h, Option.bind_some, bnd_def, rfits]
      rw [rp_len] at hchk
      cases hf : fitsv c ps d qs with
      | true =>
        have he : ps.length = qs.length := by
          unfold fitsv at hf
          rw [Bool.and_eq_true] at hf
          exact of_decide_eq_true hf.1
        have h' : i < qs.length := by omega
        have hx : (morphv c ps d qs t)[i] = mp t ps[i] qs[i] := by
          have : morphv c ps d qs t = List.zipWith (mp t) ps qs := by unfold morphv; rw [if_pos hf]
          simp only [this, List.getElem_zipWith]
        rw [hx] at hpush
        simp only [if_true, List.getElem?_eq_getElem h', Option.bind_some, rmid']
        rw [if_pos hchk, N30_0.nx_s0, wi (by omega)]
        change L30_0 n (.s0 t _ c (Rp ps) d (Rp qs) (i + 1) (List.take i (Rp ((morphv c ps d qs t).take i)) ++ [(mp t ps[i] qs[i]).cells])) = _
        rw [hpush]
        exact rmorph_loop c ps d qs t hl n (i + 1) h (by omega)
      | false =>
        have hx : (morphv c ps d qs t)[i] = ps[i] := by
          have : morphv c ps d qs t = ps := by unfold morphv; rw [if_neg (by rw [hf]; decide)]
          simp only [this]
        rw [hx] at hpush
        simp only [Bool.false_eq_true, if_false]
        rw [if_pos hchk, N30_0.nx_s0, wi (by omega)]
        change L30_0 n (.s0 t _ c (Rp ps) d (Rp qs) (i + 1) (List.take i (Rp ((morphv c ps d qs t).take i)) ++ [(ps[i]).cells])) = _
        rw [hpush]
        exact rmorph_loop c ps d qs t hl n (i + 1) h (by omega)
    · simp only [D30_0, PT.ev, PT.test, dite_eq_ite, rp_len, if_neg (show ¬ (i : Int) < (ps.length : Int) by omega), N30_0.nx_e0]
      rw [List.take_of_length_le (by omega), show i = ps.length by omega]
theorem rmorph (c : Bool) (ps : List Pt) (d : Bool) (qs : List Pt) (t : Int) (hl : (ps.length : Int) * 16 ≤ 140737488355328) :
    F30 c (Rp ps) d (Rp qs) t = some (.a0 c ps.length (Rp (morphv c ps d qs t))) := by
  have h := rmorph_loop c ps d qs t hl 18446744073709551616 0 (by omega) (by omega)
  rw [List.take_zero, show ((0 : Nat) : Int) = 0 from rfl] at h
  simp only [F30, D30, PT.ev, PT.test, dite_eq_ite]
  rw [show ([] : List (List V)) = Rp [] from rfl, h]
  rfl
/-! ### Mapped -/
def apm (a b c d e f : Int) (p : Pt) : Pt := ⟨ap a p.c0 c p.c1 e, ap b p.c0 d p.c1 f⟩
theorem set_map (g : Pt → Pt) (ps : List Pt) (i : Nat) (h : i < ps.length) : ((ps.map g).take i ++ ps.drop i).set i (g ps[i]) = (ps.map g).take (i + 1) ++ ps.drop (i + 1) := by
  have hz : i < (ps.map g).length := by rw [List.length_map]; omega
  have hlt : ((ps.map g).take i).length = i := by rw [List.length_take]; omega
  rw [List.set_append_right _ _ (by omega), hlt, Nat.sub_self, List.drop_eq_getElem_cons h, List.set_cons_zero, List.take_add_one, List.getElem?_eq_getElem hz, List.getElem_map]
  simp
theorem qmap_loop (A B C D E F : Int) (c : Bool) (ps : List Pt) (hl : (ps.length : Int) < 4611686018427387904) : ∀ (n i : Nat), i ≤ ps.length → ps.length < n + i →
    L23_0 n (.s0 ps.length ps.length i A B C D E F c (Rp ((ps.map (apm A B C D E F)).take i ++ ps.drop i))) = some (.e0 c ps.length (Rp (ps.map (apm A B C D E F))))
  | 0, i, h1, h2 => by omega
  | n + 1, i, h1, h2 => by
    rw [L23_0_s0]
    by_cases h : i < ps.length
    · have hm : i < ((ps.map (apm A B C D E F)).take i ++ ps.drop i).length := by
        rw [List.length_append, List.length_take, List.length_drop, List.length_map]; omega
      have hx : ((ps.map (apm A B C D E F)).take i ++ ps.drop i)[i] = ps[i] := by
        rw [List.getElem_append_right (by rw [List.length_take]; omega)]
        simp [List.getElem_drop, List.length_take, Nat.min_eq_left (Nat.le_of_lt h)]
      have hc : (0 : Int) ≤ (i : Int) ∧ (i : Int) < (ps.length : Int) := by omega
      simp only [D23_0, PT.ev, PT.test, dite_eq_ite, if_pos (show (i : Int) < (ps.length : Int) by omega), if_pos hc, Int.toNat_natCast, Nat.zero_add, rp_get, List.getElem?_eq_getElem hm, hx, Option.bind_some, apply_q, N23_0.nx_s0]
      rw [wi (by omega)]
      have e : List.set (Rp ((ps.map (apm A B C D E F)).take i ++ ps.drop i)) i [i64 (ap A ps[i].c0 C ps[i].c1 E), i64 (ap B ps[i].c0 D ps[i].c1 F)] = Rp ((ps.map (apm A B C D E F)).take (i + 1) ++ ps.drop (i + 1)) := by
        rw [← set_map (apm A B C D E F) ps i h]; exact (List.map_set (f := W26.cells) (a := apm A B C D E F ps[i])).symm
      rw [e]
      exact qmap_loop A B C D E F c ps hl n (i + 1) h (by omega)
    · simp only [D23_0, PT.ev, PT.test, dite_eq_ite, if_neg (show ¬ (i : Int) < (ps.length : Int) by omega), N23_0.nx_e0]
      rw [List.drop_eq_nil_of_le (by omega), List.append_nil, List.take_of_length_le (by rw [List.length_map]; omega)]
theorem qmap (A B C D E F : Int) (c : Bool) (ps : List Pt) (hl : (ps.length : Int) * 16 ≤ 140737488355328) : F23 A B C D E F c (Rp ps) = some (.a0 c ps.length (Rp (ps.map (apm A B C D E F)))) := by
  have h := qmap_loop A B C D E F c ps (by omega) 18446744073709551616 0 (by omega) (by omega)
  rw [List.drop_zero, List.take_zero, List.nil_append, show ((0 : Nat) : Int) = 0 from rfl] at h
  simp only [F23, D23, F59, D59, PT.ev, PT.test, dite_eq_ite, clone_eq ps hl, Option.bind_some, rp_len, h]
theorem rmap_loop (A B C D E F : Int) (ps : List Pt) (hl : (ps.length : Int) * 16 ≤ 140737488355328) : ∀ (n i : Nat), i ≤ ps.length → ps.length < n + i →
    L32_0 n (.s0 (Rp ps) i i A B C D E F (Rp ((ps.map (apm A B C D E F)).take i))) = some (.e0 ps.length (Rp (ps.map (apm A B C D E F))))
  | 0, i, h1, h2 => by omega
  | n + 1, i, h1, h2 => by
    rw [L32_0_s0]
    by_cases h : i < ps.length
    · have hres : i < (ps.map (apm A B C D E F)).length := by rw [List.length_map]; omega
      have hpush := push_rp (ps.map (apm A B C D E F)) i hres
      rw [List.getElem_map] at hpush
      have hchk : 0 + i ≤ ((ps.map (apm A B C D E F)).take i).length ∧ (i + 1) * 16 ≤ 140737488355328 ∧ i + 1 ≤ 140737488355328 := by rw [List.length_take]; omega
      simp only [D32_0, PT.ev, PT.test, dite_eq_ite, rp_len, if_pos (show (i : Int) < (ps.length : Int) by omega), if_pos (show (0 : Int) ≤ (i : Int) by omega), Int.toNat_natCast, rp_get, List.getElem?_eq_getElem h, Option.bind_some, apply_r]
      rw [if_pos hchk, N32_0.nx_s0, wi (by omega)]
      change L32_0 n (.s0 (Rp ps) (i + 1) _ A B C D E F (List.take i (Rp ((ps.map (apm A B C D E F)).take i)) ++ [(apm A B C D E F ps[i]).cells])) = _
      rw [hpush]
      exact rmap_loop A B C D E F ps hl n (i + 1) h (by omega)
    · simp only [D32_0, PT.ev, PT.test, dite_eq_ite, rp_len, if_neg (show ¬ (i : Int) < (ps.length : Int) by omega), N32_0.nx_e0]
      rw [List.take_of_length_le (by rw [List.length_map]; omega), show i = ps.length by omega]
theorem rmap (A B C D E F : Int) (ps : List Pt) (hl : (ps.length : Int) * 16 ≤ 140737488355328) : F32 A B C D E F (Rp ps) = some (.a0 ps.length (Rp (ps.map (apm A B C D E F)))) := by
  have h := rmap_loop A B C D E F ps hl 18446744073709551616 0 (by omega) (by omega)
  rw [List.take_zero, show ((0 : Nat) : Int) = 0 from rfl] at h
  simp only [F32, D32, PT.ev, PT.test, dite_eq_ite]
  rw [show ([] : List (List V)) = Rp [] from rfl, h]
  rfl
/-! ### The law's first half -/
theorem same_ok (c : Bool) (ps : List Pt) (d : Bool) (qs : List Pt) (t A B C D E F : Int) (hl : (ps.length : Int) * 16 ≤ 140737488355328) :
    F8 c (Rp ps) d (Rp qs) t A B C D E F = some (.a0 true) := by
  have hm := morph_len c ps d qs t
  have hml : (List.map (apm A B C D E F) ps).length = ps.length := List.length_map ..
  have t1 : List.take ps.length (Rp (morphv c ps d qs t)) = Rp (morphv c ps d qs t) := by rw [← hm]; exact take_rp _
  have t2 : List.take ps.length (Rp (ps.map (apm A B C D E F))) = Rp (ps.map (apm A B C D E F)) := by rw [← hml]; exact take_rp _
  have k1 : 0 + ps.length ≤ (Rp (morphv c ps d qs t)).length := by rw [rp_len]; omega
  have k2 : 0 + ps.length ≤ (Rp (ps.map (apm A B C D E F))).length := by rw [rp_len]; omega
  simp only [F8, D8, PT.ev, PT.test, dite_eq_ite, bnd_def, qmap A B C D E F c ps hl, rmap A B C D E F ps hl, qright c ps (by omega), rright c ps (by omega), qfits, rfits, qempty, rp_len, qmorph c ps d qs t hl, rmorph c ps d qs t hl, Option.bind_some, beq_self_eq_true, if_true]
  rw [if_pos (by rw [beq_iff_eq]; exact (leneq ps.length 0).symm)]
  rw [rp_len] at k1 k2
  simp only [if_pos k1, if_pos k2, t1, t2, PT.ev, PT.test, dite_eq_ite, qsame _ _ _ _ (show ((morphv c ps d qs t).length : Int) < 4611686018427387904 by omega), qsame c ps d qs (by omega), rsame c ps d qs (by omega), Option.bind_some, beq_self_eq_true, if_true,
    rpoints _ _ (show ((List.map (apm A B C D E F) ps).length : Int) < 4611686018427387904 by omega), eqs_refl, samev, Bool.and_self]
end Go.Proofs.Ytifalphladcdcaa.H
