/- The call of ShapeTells. No condition beyond those stated. -/
import Derived.Test.YtifalphladcdcaaGreatShapeTellsZ
import Derived.Test.YtifalphladcdcaaGreatOpZ
import Derived.Test.YtifalphladcdcaaGreatVmAR
set_option linter.unusedVariables false
set_option linter.unusedSimpArgs false
namespace Go.Proofs.YtifalphladcdcaaGreat.H
open Go Go.VM
theorem tape_len {ks : List W3} (h : (Rt ks).length ≤ maxLen) : (ks.length : Int) ≤ 9223372036854775807 := by
  unfold maxLen at h
  simp only [List.length_map] at h
  omega
theorem shapeTells_call {xs : List (List V)} {us : List V} (hl : xs.length ≤ maxLen ∧ xs.length * 8 ≤ reachBytes) (g : ∀ x ∈ xs, x.length = 1 ∧ pred3 x) (t w h n : Int) (gs : pred34 us) (form : Int) :
    UU 3 [.list 1 xs, .int .i64 t, .int .i64 w, .int .i64 h, .int .i64 n, .agg us, .int .i64 form] [] = some (.bool true, []) := by
  obtain ⟨ks, rfl, _⟩ := rows3 g
  obtain ⟨k, rfl, p⟩ := open34 gs
  obtain ⟨W, eW, ⟨_, lW⟩, _⟩ := p.h2
  obtain ⟨H, eH, ⟨_, lH⟩, _⟩ := p.h3
  obtain ⟨P, eP, ⟨_, lP⟩, gP⟩ := p.h4
  obtain ⟨C, eC, ⟨_, lC⟩, _⟩ := p.h21
  obtain ⟨B, eB, ⟨_, lB⟩, _⟩ := p.h23
  obtain ⟨Q, eQ, ⟨_, lQ⟩, _⟩ := p.h29
  obtain ⟨Y, eY, ⟨_, lY⟩, _⟩ := p.h30
  obtain ⟨Z, eZ, ⟨_, lZ⟩, _⟩ := p.h31
  unfold reachBytes at lW lH lP lC lB lQ lY lZ
  have gw : ∀ q ∈ P, Gw q := fun q hq => by
    obtain ⟨ps, e, ⟨_, l⟩, _⟩ := (gP q hq).h2
    unfold reachBytes at l
    exact ⟨ps, e, by omega⟩
  refine F3_ok (Rt ks) t w h n k.c0 k.c1 k.c2 k.c3 k.c4 k.c5 k.c6 k.c7 k.c8 k.c9 k.c10 k.c11 k.c12 k.c13 k.c14 k.c15 k.c16 k.c17 k.c18 k.c19 k.c20 k.c21 k.c22 k.c23 k.c24 k.c25 k.c26 k.c27 k.c28 k.c29 k.c30 k.c31 form (.a0 true) ?_
  rw [eW, eH, eP, eC, eB, eQ, eY, eZ]
  exact shapeTells_plain ks (tape_len hl.1) t w h n form ⟨k.c0, k.c1, W, H, P, k.c5, k.c6, k.c7, k.c8, k.c9, k.c10, k.c11, k.c12, k.c13, k.c14, k.c15, k.c16, k.c17, k.c18, k.c19, k.c20, C, k.c22, B, k.c24, k.c25, k.c26, k.c27, k.c28, Q, Y, Z⟩
    ⟨by show (W.length : Int) < _; omega, by show (H.length : Int) < _; omega, by show (P.length : Int) < _; omega, gw, by show (C.length : Int) < _; omega, by show (B.length : Int) < _; omega, by show (Q.length : Int) < _; omega, by show (Y.length : Int) < _; omega, by show (Z.length : Int) < _; omega⟩
end Go.Proofs.YtifalphladcdcaaGreat.H
