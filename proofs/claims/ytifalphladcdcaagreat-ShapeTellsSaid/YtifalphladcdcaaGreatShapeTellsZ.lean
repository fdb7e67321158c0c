/- ShapeTells in plain Lean. Conditions: those stated. -/
import Derived.Test.YtifalphladcdcaaGreatSame13Z
set_option linter.unusedVariables false
set_option linter.unusedSimpArgs false
namespace Go.Proofs.YtifalphladcdcaaGreat.H
open Go Go.VM
set_option maxRecDepth 100000
theorem known13 : F18 = some (.a0 true) := by kernel_rfl
theorem same13' (s : Shp) (g : Gl s) (r : Gr s) (fo n t : Int) : F14 fo n (Rn s.w) (Rn s.h) (Rk s.ps) s.f s.rule s.p0 s.p1 s.p2 s.p3 s.p4 s.p5 s.p6 s.p7 s.p8 s.p9 s.p10 s.p11 s.p12 s.p13 (Rc s.cs) s.st (Rn s.wd) s.s0 s.s1 s.s2 s.s3 s.cap (Rd s.ds) (Rn s.fr) (Rn s.to_) t = some (.a0 true) :=
  same13 { s with form := fo, n := n } ⟨g.w, g.h, g.ps, g.gk⟩ ⟨r.w, r.h, r.ps, r.gw, r.cs, r.wd, r.ds, r.fr, r.to_⟩ t
theorem right_cut (s : Shp) (r : Gr s) (P : List PK) (hP : P.length ≤ s.ps.length) (hg : ∀ k ∈ P, Gw k) : ∃ b, F15 s.form s.n (Rn s.w) (Rn s.h) (Rk P) s.f s.rule s.p0 s.p1 s.p2 s.p3 s.p4 s.p5 s.p6 s.p7 s.p8 s.p9 s.p10 s.p11 s.p12 s.p13 (Rc s.cs) s.st (Rn s.wd) s.s0 s.s1 s.s2 s.s3 s.cap (Rd s.ds) (Rn s.fr) (Rn s.to_) = some (.a0 b) ∧ F16 s.form s.n (Rn s.w) (Rn s.h) (Rk P) s.f s.rule s.p0 s.p1 s.p2 s.p3 s.p4 s.p5 s.p6 s.p7 s.p8 s.p9 s.p10 s.p11 s.p12 s.p13 (Rc s.cs) s.st (Rn s.wd) s.s0 s.s1 s.s2 s.s3 s.cap (Rd s.ds) (Rn s.fr) (Rn s.to_) = some (.a0 b) :=
  right_same { s with ps := P } ⟨r.w, r.h, (by have := r.ps; show (P.length : Int) < _; omega), hg, r.cs, r.wd, r.ds, r.fr, r.to_⟩
theorem shapeTells_plain (tape : List W3) (hl : (tape.length : Int) ≤ 9223372036854775807) (t w h n form : Int) (r : Shp) (gr : Gr r) : F3 (Rt tape) t w h n r.form r.n (Rn r.w) (Rn r.h) (Rk r.ps) r.f r.rule r.p0 r.p1 r.p2 r.p3 r.p4 r.p5 r.p6 r.p7 r.p8 r.p9 r.p10 r.p11 r.p12 r.p13 (Rc r.cs) r.st (Rn r.wd) r.s0 r.s1 r.s2 r.s3 r.cap (Rd r.ds) (Rn r.fr) (Rn r.to_) form = some (.a0 true) := by
  obtain ⟨s, at', e, _, g⟩ := shape_ex tape hl 0 (Int.le_refl 0)
  have q1 := fun u => same13 s g.gl g.gr u
  have q2 := fun u => same13' s g.gl g.gr form s.n u
  have tk : ∀ xs : List PK, List.take xs.length (Rk xs) = Rk xs := fun xs => List.take_of_length_le (by rw [rk_len]; exact Nat.le_refl _)
  have tc : ∀ xs : List Ck, List.take xs.length (Rc xs) = Rc xs := fun xs => List.take_of_length_le (by rw [rc_len]; exact Nat.le_refl _)
  have td : ∀ xs : List Dn, List.take xs.length (Rd xs) = Rd xs := fun xs => List.take_of_length_le (by rw [rd_len]; exact Nat.le_refl _)
  have z : ∀ n : Nat, 0 + n ≤ n := fun n => by omega
  by_cases hc : (r.ps.length : Int) > 3
  · obtain ⟨b, b1, b2⟩ := right_cut r gr (r.ps.take 3) (by rw [List.length_take]; omega) (fun k hk => gr.gw k (List.mem_of_mem_take hk))
    have ht : List.take 3 (Rk r.ps) = Rk (r.ps.take 3) := by simp only [Rk, List.map_take]
    simp only [F3, D3, J3_c29, D3_c29, PT.ev, PT.test, dite_eq_ite, e, Option.bind_some, rk_len, decide_eq_true hc, if_true, if_pos (show (0 : Int) ≤ 0 ∧ (0 : Int) ≤ 3 ∧ (3 : Int) ≤ (r.ps.length : Int) by omega), ht,
      rn_len, rc_len, rd_len, if_pos (z _), take_rn, tk, tc, td, q1, q2, b1, b2, beq_self_eq_true, forms_ok, known13]
  · obtain ⟨b, b1, b2⟩ := right_same r gr
    simp only [F3, D3, J3_c29, D3_c29, PT.ev, PT.test, dite_eq_ite, e, Option.bind_some, rk_len, decide_eq_false hc, Bool.false_eq_true, if_false,
      rn_len, rc_len, rd_len, if_pos (z _), take_rn, tk, tc, td, q1, q2, b1, b2, beq_self_eq_true, forms_ok, known13, if_true]
end Go.Proofs.YtifalphladcdcaaGreat.H
