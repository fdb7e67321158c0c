/- What the functions compute, and that they do so over the machine of plain values (printed by this session's program wip/vm/Walk.lean). No condition beyond those stated. -/
import Derived.Test.YthohhdcngdmbeaaWk
import Derived.Test.YthohhdcngdmbeaaP2b
set_option linter.unusedVariables false
set_option linter.unusedSimpArgs false
namespace Go.Proofs.Ythohhdcngdmbeaa.H
open Go Go.VM
set_option maxRecDepth 100000
/-! ## 25 -/
inductive A25 where
  | a0 (b1975 : Bool)
@[reducible] def A25.out : A25 → V × Store
  | .a0 b1975 => (vb b1975, [])
def F25 : Option A25 :=
  (F24 (false) ([[i64 0, i64 0], [i64 16, i64 0]]) (2) (5)).bind fun r => match r with
  | .a0 b1963 k1964 l1965 =>
   (F23 (false) ([[i64 0, i64 0], [i64 16, i64 0]])).bind fun r => match r with
   | .a0 z1966 =>
    if (z1966 == 16) = true then
     bnd (F26 (false) ([[i64 0, i64 0], [i64 16, i64 0]])) fun z1967 =>
     if (z1967 == 1) = true then
      if ((↑k1964 : Int) == 2) = true then
       if (0 : Int) ≤ (0 : Int) ∧ (0 : Int) < (↑k1964 : Int) then
        ((l1965[(0 : Nat)]?).bind W34.dec).bind fun e1968 =>
        if (e1968.c0 == 2) = true then
         if (0 : Int) ≤ (1 : Int) ∧ (1 : Int) < (↑k1964 : Int) then
          ((l1965[(1 : Nat)]?).bind W34.dec).bind fun e1969 =>
          if (e1969.c0 == 5) = true then
           (F24 (false) ([[i64 0, i64 0], [i64 16, i64 0]]) (5) (5)).bind fun r => match r with
           | .a0 b1970 k1971 l1972 =>
            if ((↑k1971 : Int) == 0) = true then
             (F39 (0) (0) (8) (0) (9) (4)).bind fun r => match r with
             | .a0 z1973 z1974 =>
              some (A25.a0 (z1973 == 8 && (z1974 == 0 && true)))
            else
             some (A25.a0 (false))
          else
           some (A25.a0 (false))
         else
          none -- none
        else
         some (A25.a0 (false))
       else
        none -- none
      else
       some (A25.a0 (false))
     else
      some (A25.a0 (false))
    else
     some (A25.a0 (false))
theorem F25_ok (m : Nat) (r : A25) (h : F25 = some r) : call Try.prog X O0 18446744073709551616 (m + 7) 25 ([]) ([]) = some r.out := by
  unfold F25 at h
  obtain ⟨r0, h0, h⟩ := Option.bind_eq_some_iff.mp h
  have h0 := F24_ok (m + 0) (false) ([[i64 0, i64 0], [i64 16, i64 0]]) (2) (5) r0 h0
  cases r0 with
  | a0 b1963 k1964 l1965 =>
    obtain ⟨r1, h1, h⟩ := Option.bind_eq_some_iff.mp h
    have h1 := F23_ok (m + 1) (false) ([[i64 0, i64 0], [i64 16, i64 0]]) r1 h1
    cases r1 with
    | a0 z1966 =>
      rcases ite_eq h with ⟨h2, h⟩ | ⟨h2, h⟩
      · skip
        obtain ⟨z1967, h3, h⟩ := bnd_eq h
        rcases ite_eq h with ⟨h4, h⟩ | ⟨h4, h⟩
        · skip
          rcases ite_eq h with ⟨h5, h⟩ | ⟨h5, h⟩
          · skip
            rcases ite_eq h with ⟨h6, h⟩ | ⟨h6, h⟩
            · skip
              obtain ⟨e1968, h7, h⟩ := Option.bind_eq_some_iff.mp h
              rcases ite_eq h with ⟨h8, h⟩ | ⟨h8, h⟩
              · skip
                rcases ite_eq h with ⟨h9, h⟩ | ⟨h9, h⟩
                · skip
                  obtain ⟨e1969, h10, h⟩ := Option.bind_eq_some_iff.mp h
                  rcases ite_eq h with ⟨h11, h⟩ | ⟨h11, h⟩
                  · skip
                    obtain ⟨r12, h12, h⟩ := Option.bind_eq_some_iff.mp h
                    have h12 := F24_ok (m + 0) (false) ([[i64 0, i64 0], [i64 16, i64 0]]) (5) (5) r12 h12
                    cases r12 with
                    | a0 b1970 k1971 l1972 =>
                      rcases ite_eq h with ⟨h13, h⟩ | ⟨h13, h⟩
                      · skip
                        obtain ⟨r14, h14, h⟩ := Option.bind_eq_some_iff.mp h
                        have h14 := F39_ok (m + 1) (0) (0) (8) (0) (9) (4) r14 h14
                        cases r14 with
                        | a0 z1973 z1974 =>
                          cases h
                          exact call_pathL (gs := [.a, .a, .a, .an (V.agg [vb b1963, V.hs 0 0 k1964]) [Ob.cells true true 2 l1965], .a, .a, .a, .an (i64 z1966) [], .t, .a, .t, .a, .an (i64 z1967) [], .t, .t, .t, .t, .a, .t, .t, .t, .t, .t, .a, .t, .t, .t, .t, .el (W34.cells e1968), .t, .t, .t, .t, .a, .t, .t, .t, .t, .el (W34.cells e1969), .t, .t, .t, .a, .t, .a, .an (V.agg [vb b1970, V.hs 0 0 k1971]) [Ob.cells true true 2 l1972], .t, .t, .t, .t, .t, .t, .t, .an (V.agg [i64 z1973, i64 z1974]) [], .t, .t, .t]) (notIn []) rfl rfl (by kernel_rfl) (And.intro h0 (And.intro h1 (And.intro h2 (And.intro h2 (And.intro (F26_ok (m + 5) (false) ([[i64 0, i64 0], [i64 16, i64 0]]) z1967 h3) (And.intro h2 (And.intro h2 (And.intro h4 (And.intro h4 (And.intro h4 (And.intro h4 (And.intro h4 (And.intro h5 (And.intro h5 (And.intro h5 (And.intro (decide_eq_true h6) (And.intro h5 (And.intro h5 (And.intro (W34.dec_ok h7) (And.intro h5 (And.intro h5 (And.intro h8 (And.intro h8 (And.intro h8 (And.intro (decide_eq_true h9) (And.intro h8 (And.intro h8 (And.intro (W34.dec_ok h10) (And.intro h8 (And.intro h8 (And.intro h11 (And.intro h11 (And.intro h12 (And.intro h11 (And.intro h11 (And.intro h11 (And.intro h11 (And.intro h13 (And.intro h13 (And.intro h13 (And.intro h14 (And.intro h13 (And.intro h13 (And.intro h13 True.intro))))))))))))))))))))))))))))))))))))))))))))
                      · skip
                        cases h
                        exact call_pathL (gs := [.a, .a, .a, .an (V.agg [vb b1963, V.hs 0 0 k1964]) [Ob.cells true true 2 l1965], .a, .a, .a, .an (i64 z1966) [], .t, .a, .t, .a, .an (i64 z1967) [], .t, .t, .t, .t, .a, .t, .t, .t, .t, .t, .a, .t, .t, .t, .t, .el (W34.cells e1968), .t, .t, .t, .t, .a, .t, .t, .t, .t, .el (W34.cells e1969), .t, .t, .t, .a, .t, .a, .an (V.agg [vb b1970, V.hs 0 0 k1971]) [Ob.cells true true 2 l1972], .t, .t, .t, .t, .f, .f, .f, .f, .f, .f]) (notIn []) rfl rfl (by kernel_rfl) (And.intro h0 (And.intro h1 (And.intro h2 (And.intro h2 (And.intro (F26_ok (m + 5) (false) ([[i64 0, i64 0], [i64 16, i64 0]]) z1967 h3) (And.intro h2 (And.intro h2 (And.intro h4 (And.intro h4 (And.intro h4 (And.intro h4 (And.intro h4 (And.intro h5 (And.intro h5 (And.intro h5 (And.intro (decide_eq_true h6) (And.intro h5 (And.intro h5 (And.intro (W34.dec_ok h7) (And.intro h5 (And.intro h5 (And.intro h8 (And.intro h8 (And.intro h8 (And.intro (decide_eq_true h9) (And.intro h8 (And.intro h8 (And.intro (W34.dec_ok h10) (And.intro h8 (And.intro h8 (And.intro h11 (And.intro h11 (And.intro h12 (And.intro h11 (And.intro h11 (And.intro h11 (And.intro h11 (And.intro (Bool.eq_false_iff.mpr h13) (And.intro (Bool.eq_false_iff.mpr h13) (And.intro (Bool.eq_false_iff.mpr h13) (And.intro (Bool.eq_false_iff.mpr h13) (And.intro (Bool.eq_false_iff.mpr h13) (And.intro (Bool.eq_false_iff.mpr h13) True.intro)))))))))))))))))))))))))))))))))))))))))))
                  · skip
                    cases h
                    exact call_pathL (gs := [.a, .a, .a, .an (V.agg [vb b1963, V.hs 0 0 k1964]) [Ob.cells true true 2 l1965], .a, .a, .a, .an (i64 z1966) [], .t, .a, .t, .a, .an (i64 z1967) [], .t, .t, .t, .t, .a, .t, .t, .t, .t, .t, .a, .t, .t, .t, .t, .el (W34.cells e1968), .t, .t, .t, .t, .a, .t, .t, .t, .t, .el (W34.cells e1969), .t, .t, .f, .f, .f, .f, .f, .f, .a, .a, .a, .a, .a, .a]) (notIn []) rfl rfl (by kernel_rfl) (And.intro h0 (And.intro h1 (And.intro h2 (And.intro h2 (And.intro (F26_ok (m + 5) (false) ([[i64 0, i64 0], [i64 16, i64 0]]) z1967 h3) (And.intro h2 (And.intro h2 (And.intro h4 (And.intro h4 (And.intro h4 (And.intro h4 (And.intro h4 (And.intro h5 (And.intro h5 (And.intro h5 (And.intro (decide_eq_true h6) (And.intro h5 (And.intro h5 (And.intro (W34.dec_ok h7) (And.intro h5 (And.intro h5 (And.intro h8 (And.intro h8 (And.intro h8 (And.intro (decide_eq_true h9) (And.intro h8 (And.intro h8 (And.intro (W34.dec_ok h10) (And.intro h8 (And.intro h8 (And.intro (Bool.eq_false_iff.mpr h11) (And.intro (Bool.eq_false_iff.mpr h11) (And.intro (Bool.eq_false_iff.mpr h11) (And.intro (Bool.eq_false_iff.mpr h11) (And.intro (Bool.eq_false_iff.mpr h11) (And.intro (Bool.eq_false_iff.mpr h11) True.intro))))))))))))))))))))))))))))))))))))
                · skip
                  cases h
              · skip
                cases h
                exact call_pathL (gs := [.a, .a, .a, .an (V.agg [vb b1963, V.hs 0 0 k1964]) [Ob.cells true true 2 l1965], .a, .a, .a, .an (i64 z1966) [], .t, .a, .t, .a, .an (i64 z1967) [], .t, .t, .t, .t, .a, .t, .t, .t, .t, .t, .a, .t, .t, .t, .t, .el (W34.cells e1968), .t, .t, .f, .f, .f, .f, .f, .f, .f, .a, .a, .a, .a, .a, .a, .a, .a, .a, .a, .a, .a]) (notIn []) rfl rfl (by kernel_rfl) (And.intro h0 (And.intro h1 (And.intro h2 (And.intro h2 (And.intro (F26_ok (m + 5) (false) ([[i64 0, i64 0], [i64 16, i64 0]]) z1967 h3) (And.intro h2 (And.intro h2 (And.intro h4 (And.intro h4 (And.intro h4 (And.intro h4 (And.intro h4 (And.intro h5 (And.intro h5 (And.intro h5 (And.intro (decide_eq_true h6) (And.intro h5 (And.intro h5 (And.intro (W34.dec_ok h7) (And.intro h5 (And.intro h5 (And.intro (Bool.eq_false_iff.mpr h8) (And.intro (Bool.eq_false_iff.mpr h8) (And.intro (Bool.eq_false_iff.mpr h8) (And.intro (Bool.eq_false_iff.mpr h8) (And.intro (Bool.eq_false_iff.mpr h8) (And.intro (Bool.eq_false_iff.mpr h8) (And.intro (Bool.eq_false_iff.mpr h8) True.intro))))))))))))))))))))))))))))
            · skip
              cases h
          · skip
            cases h
            exact call_pathL (gs := [.a, .a, .a, .an (V.agg [vb b1963, V.hs 0 0 k1964]) [Ob.cells true true 2 l1965], .a, .a, .a, .an (i64 z1966) [], .t, .a, .t, .a, .an (i64 z1967) [], .t, .t, .t, .t, .a, .t, .t, .t, .f, .f, .f, .f, .f, .f, .f, .a, .a, .a, .a, .a, .a, .a, .a, .a, .a, .a, .a, .a, .a, .a, .a, .a, .a, .a]) (notIn []) rfl rfl (by kernel_rfl) (And.intro h0 (And.intro h1 (And.intro h2 (And.intro h2 (And.intro (F26_ok (m + 5) (false) ([[i64 0, i64 0], [i64 16, i64 0]]) z1967 h3) (And.intro h2 (And.intro h2 (And.intro h4 (And.intro h4 (And.intro h4 (And.intro h4 (And.intro h4 (And.intro (Bool.eq_false_iff.mpr h5) (And.intro (Bool.eq_false_iff.mpr h5) (And.intro (Bool.eq_false_iff.mpr h5) (And.intro (Bool.eq_false_iff.mpr h5) (And.intro (Bool.eq_false_iff.mpr h5) (And.intro (Bool.eq_false_iff.mpr h5) (And.intro (Bool.eq_false_iff.mpr h5) True.intro)))))))))))))))))))
        · skip
          cases h
          exact call_pathL (gs := [.a, .a, .a, .an (V.agg [vb b1963, V.hs 0 0 k1964]) [Ob.cells true true 2 l1965], .a, .a, .a, .an (i64 z1966) [], .t, .a, .t, .a, .an (i64 z1967) [], .t, .t, .f, .f, .f, .f, .f, .a, .a, .a, .a, .a, .a, .a, .a, .a, .a, .a, .a, .a, .a, .a, .a, .a, .a, .a, .a, .a, .a, .a, .a, .a, .a]) (notIn []) rfl rfl (by kernel_rfl) (And.intro h0 (And.intro h1 (And.intro h2 (And.intro h2 (And.intro (F26_ok (m + 5) (false) ([[i64 0, i64 0], [i64 16, i64 0]]) z1967 h3) (And.intro h2 (And.intro h2 (And.intro (Bool.eq_false_iff.mpr h4) (And.intro (Bool.eq_false_iff.mpr h4) (And.intro (Bool.eq_false_iff.mpr h4) (And.intro (Bool.eq_false_iff.mpr h4) (And.intro (Bool.eq_false_iff.mpr h4) True.intro))))))))))))
      · skip
        cases h
        exact call_pathL (gs := [.a, .a, .a, .an (V.agg [vb b1963, V.hs 0 0 k1964]) [Ob.cells true true 2 l1965], .a, .a, .a, .an (i64 z1966) [], .f, .f, .f, .f, .a, .a, .a, .a, .a, .a, .a, .a, .a, .a, .a, .a, .a, .a, .a, .a, .a, .a, .a, .a, .a, .a, .a, .a, .a, .a, .a, .a, .a, .a, .a]) (notIn []) rfl rfl (by kernel_rfl) (And.intro h0 (And.intro h1 (And.intro (Bool.eq_false_iff.mpr h2) (And.intro (Bool.eq_false_iff.mpr h2) (And.intro (Bool.eq_false_iff.mpr h2) (And.intro (Bool.eq_false_iff.mpr h2) True.intro))))))
/-! ## 9 -/
noncomputable abbrev B9 : Code := (Try.f9.body).getD .skip
inductive R9_4 where
  | e0
  | e1 (z2006 : Int) (z2007 : Int) (z2009 : Int) (b2012 : Bool) (k2013 : Nat) (l2014 : List (List V)) (l2016 : List (List V))
@[reducible] def s9_4_0 (z1991 : Int) (z1992 : Int) (z1993 : Int) (z1994 : Int) (z1995 : Int) (z1996 : Int) (b1997 : Bool) (k1998 : Nat) (b1999 : Bool) (k2000 : Nat) (b2001 : Bool) (b2002 : Bool) (l2003 : List (List V)) (l2004 : List (List V)) (l2005 : List (List V)) : S := { T := vb false :: i64 z1991 :: V.ptr 0 0 0 :: i64 z1992 :: U :: i64 z1993 :: U :: i64 z1994 :: un 19 (V.hs 1 0 10 :: i64 10 :: i64 z1995 :: un 13 (V.hs 2 0 9 :: i64 9 :: i64 z1996 :: vb b1997 :: V.ptr 2 k1998 0 :: i64 z1994 :: V.agg [vb b1999, V.hs 3 0 k2000] :: i64 z1993 :: i64 z1994 :: vb b2001 :: vb b2002 :: un 17 [])), σ := [Ob.cells true false 2 [[vb b1999, V.hs 3 0 k2000]], Ob.cells true true 1 l2003, Ob.cells true true 1 l2004, Ob.cells true true 2 l2005] }
@[reducible] def s9_4_1 (z2006 : Int) (z2007 : Int) (z2008 : Int) (z2009 : Int) (z2010 : Int) (b2011 : Bool) (b2012 : Bool) (k2013 : Nat) (l2014 : List (List V)) (l2015 : List (List V)) (l2016 : List (List V)) : S := { T := U :: i64 z2006 :: V.ptr 0 0 0 :: i64 z2007 :: U :: i64 z2008 :: un 21 (V.hs 1 0 10 :: i64 10 :: i64 z2009 :: un 13 (V.hs 2 0 9 :: i64 9 :: i64 z2010 :: vb b2011 :: un 24 [])), σ := [Ob.cells true false 2 [[vb b2012, V.hs 3 0 k2013]], Ob.cells true true 1 l2014, Ob.cells true true 1 l2015, Ob.cells true true 2 l2016] }
def R9_4.St : R9_4 → VX × S → Prop
  | .e0, p => ∃ z1991 : Int, ∃ z1992 : Int, ∃ z1993 : Int, ∃ z1994 : Int, ∃ z1995 : Int, ∃ z1996 : Int, ∃ b1997 : Bool, ∃ k1998 : Nat, ∃ b1999 : Bool, ∃ k2000 : Nat, ∃ b2001 : Bool, ∃ b2002 : Bool, ∃ l2003 : List (List V), ∃ l2004 : List (List V), ∃ l2005 : List (List V), p = (VX.ret, s9_4_0 z1991 z1992 z1993 z1994 z1995 z1996 b1997 k1998 b1999 k2000 b2001 b2002 l2003 l2004 l2005)
  | .e1 z2006 z2007 z2009 b2012 k2013 l2014 l2016, p => ∃ z2008 : Int, ∃ z2010 : Int, ∃ b2011 : Bool, ∃ l2015 : List (List V), p = (VX.exit 4, s9_4_1 z2006 z2007 z2008 z2009 z2010 b2011 b2012 k2013 l2014 l2015 l2016)
def L9_4 : Nat → Int → Int → Int → Int → Int → Bool → Nat → List (List V) → List (List V) → List (List V) → Option R9_4
  | 0, _, _, _, _, _, _, _, _, _, _ => none
  | n + 1, z1816, z1817, z1818, z1819, z1820, b1821, k1822, l1823, l1824, l1825 =>
    if z1820 < 9 then
     if 0 ≤ z1820 ∧ z1820 < 9 then
      ((l1824[(0 : Nat) + Int.toNat z1820]?).bind W2.dec).bind fun e1989 =>
      if 0 + k1822 ≤ List.length l1825 then
       (F38 (b1821) (List.take k1822 l1825) (z1818) (e1989.c0)).bind fun r => match r with
       | .a0 b1990 =>
        if (!b1990) = true then
         some (R9_4.e0)
        else
         L9_4 n (z1816) (z1817) (z1818) (z1819) (w64 (z1820 + 1)) (b1821) (k1822) (l1823) (l1824) (l1825)
      else
       none -- none
     else
      none -- none
    else
     some (R9_4.e1 (z1816) (z1817) (z1819) (b1821) (k1822) (l1823) (l1825))
theorem L9_4_ok (m : Nat) : ∀ (n : Nat) (z1816 : Int) (z1817 : Int) (z1818 : Int) (z1819 : Int) (z1820 : Int) (b1821 : Bool) (k1822 : Nat) (l1823 : List (List V)) (l1824 : List (List V)) (l1825 : List (List V)) (r : R9_4), L9_4 n z1816 z1817 z1818 z1819 z1820 b1821 k1822 l1823 l1824 l1825 = some r → ∃ st, loopFrom Try.prog X (genO X (call Try.prog X O0 18446744073709551616 (m + 9))) 9 (0) 18446744073709551616 B9 4 n ({ T := U :: i64 z1816 :: V.ptr 0 0 0 :: i64 z1817 :: U :: i64 z1818 :: un 21 (V.hs 1 0 10 :: i64 10 :: i64 z1819 :: un 13 (V.hs 2 0 9 :: i64 9 :: i64 z1820 :: un 25 [])), σ := [Ob.cells true false 2 [[vb b1821, V.hs 3 0 k1822]], Ob.cells true true 1 l1823, Ob.cells true true 1 l1824, Ob.cells true true 2 l1825] }) = some st ∧ r.St st
  | 0, _, _, _, _, _, _, _, _, _, _, r, h => by cases h
  | n + 1, z1816, z1817, z1818, z1819, z1820, b1821, k1822, l1823, l1824, l1825, r, h => by
    rw [L9_4] at h
    rcases ite_eq h with ⟨h0, h⟩ | ⟨h0, h⟩
    · skip
      rcases ite_eq h with ⟨h1, h⟩ | ⟨h1, h⟩
      · skip
        obtain ⟨e1989, h2, h⟩ := Option.bind_eq_some_iff.mp h
        rcases ite_eq h with ⟨h3, h⟩ | ⟨h3, h⟩
        · skip
          obtain ⟨r4, h4, h⟩ := Option.bind_eq_some_iff.mp h
          have h4 := F38_ok (m + 0) (b1821) (List.take k1822 l1825) (z1818) (e1989.c0) r4 h4
          cases r4 with
          | a0 b1990 =>
            rcases ite_eq h with ⟨h5, h⟩ | ⟨h5, h⟩
            · skip
              cases h
              exact ⟨_, round_out (gs := [.t, .t, .el (W2.cells e1989), .a, .t, .an (vb b1990) [], .t]) (notIn []) (by kernel_rfl) rfl (And.intro (decide_eq_true h0) (And.intro (decide_eq_true h1) (And.intro (W2.dec_ok h2) (And.intro (decide_eq_true h3) (And.intro h4 (And.intro h5 True.intro)))))) n, z1816, z1817, z1818, e1989.c0, z1819, z1820, decide (z1820 < 9), 0 + Int.toNat z1820, b1821, k1822, b1990, !b1990, l1823, l1824, l1825, rfl⟩
            · skip
              obtain ⟨st, hs, hr⟩ := L9_4_ok m n (z1816) (z1817) (z1818) (z1819) (w64 (z1820 + 1)) (b1821) (k1822) (l1823) (l1824) (l1825) r h
              exact ⟨st, (round_on (gs := [.t, .t, .el (W2.cells e1989), .a, .t, .an (vb b1990) [], .f]) (notIn []) (by kernel_rfl) (And.intro (decide_eq_true h0) (And.intro (decide_eq_true h1) (And.intro (W2.dec_ok h2) (And.intro (decide_eq_true h3) (And.intro h4 (And.intro (Bool.eq_false_iff.mpr h5) True.intro)))))) n).trans hs, hr⟩
        · skip
          cases h
      · skip
        cases h
    · skip
      cases h
      exact ⟨_, round_out (gs := [.f]) (notIn []) (by kernel_rfl) rfl (And.intro (decide_eq_false h0) True.intro) n, z1818, z1820, decide (z1820 < 9), l1824, rfl⟩
inductive R9_2 where
  | e0
  | e1 (z2058 : Int)
@[reducible] def s9_2_0 (z2032 : Int) (z2033 : Int) (z2034 : Int) (z2035 : Int) (z2036 : Int) (z2037 : Int) (b2038 : Bool) (k2039 : Nat) (b2040 : Bool) (k2041 : Nat) (b2042 : Bool) (b2043 : Bool) (l2044 : List (List V)) (l2045 : List (List V)) (l2046 : List (List V)) : S := { T := vb false :: i64 z2032 :: V.ptr 0 0 0 :: i64 z2033 :: U :: i64 z2034 :: U :: i64 z2035 :: un 19 (V.hs 1 0 10 :: i64 10 :: i64 z2036 :: un 13 (V.hs 2 0 9 :: i64 9 :: i64 z2037 :: vb b2038 :: V.ptr 2 k2039 0 :: i64 z2035 :: V.agg [vb b2040, V.hs 3 0 k2041] :: i64 z2034 :: i64 z2035 :: vb b2042 :: vb b2043 :: un 17 [])), σ := [Ob.cells true false 2 [[vb b2040, V.hs 3 0 k2041]], Ob.cells true true 1 l2044, Ob.cells true true 1 l2045, Ob.cells true true 2 l2046] }
@[reducible] def s9_2_1 (z2058 : Int) (z2059 : Int) (z2060 : Int) (b2061 : Bool) (b2062 : Bool) (k2063 : Nat) (l2064 : List (List V)) (l2065 : List (List V)) : S := { T := U :: i64 z2058 :: V.ptr 0 0 0 :: i64 z2059 :: un 23 (V.hs 1 0 10 :: i64 10 :: i64 z2060 :: vb b2061 :: un 40 []), σ := [Ob.cells true false 2 [[vb b2062, V.hs 2 0 k2063]], Ob.cells true true 1 l2064, Ob.cells true true 2 l2065] }
def R9_2.St : R9_2 → VX × S → Prop
  | .e0, p => ∃ z2032 : Int, ∃ z2033 : Int, ∃ z2034 : Int, ∃ z2035 : Int, ∃ z2036 : Int, ∃ z2037 : Int, ∃ b2038 : Bool, ∃ k2039 : Nat, ∃ b2040 : Bool, ∃ k2041 : Nat, ∃ b2042 : Bool, ∃ b2043 : Bool, ∃ l2044 : List (List V), ∃ l2045 : List (List V), ∃ l2046 : List (List V), p = (VX.ret, s9_2_0 z2032 z2033 z2034 z2035 z2036 z2037 b2038 k2039 b2040 k2041 b2042 b2043 l2044 l2045 l2046)
  | .e1 z2058, p => ∃ z2059 : Int, ∃ z2060 : Int, ∃ b2061 : Bool, ∃ b2062 : Bool, ∃ k2063 : Nat, ∃ l2064 : List (List V), ∃ l2065 : List (List V), p = (VX.exit 2, s9_2_1 z2058 z2059 z2060 b2061 b2062 k2063 l2064 l2065)
def L9_2 : Nat → Int → Int → Int → Bool → Nat → List (List V) → List (List V) → Option R9_2
  | 0, _, _, _, _, _, _, _ => none
  | n + 1, z1808, z1809, z1810, b1811, k1812, l1813, l1814 =>
    if z1810 < 10 then
     if 0 ≤ z1810 ∧ z1810 < 10 then
      ((l1813[(0 : Nat) + Int.toNat z1810]?).bind W2.dec).bind fun e1988 =>
      (L9_4 18446744073709551616 (z1808) (z1809) (e1988.c0) (z1810) (0) (b1811) (k1812) (l1813) ([[i64 (-9223372036854775808)], [i64 0], [i64 1], [i64 (w64 (Int.tdiv z1809 3))], [i64 (w64 (w64 (Int.tdiv z1809 3) + 1))], [i64 (w64 (z1809 - 1))], [i64 z1809], [i64 (w64 (z1809 + 1))], [i64 9223372036854775807]]) (l1814)).bind fun r => match r with
      | .e0 =>
       some (R9_2.e0)
      | .e1 z2047 z2048 z2050 b2053 k2054 l2055 l2057 =>
       L9_2 n (z2047) (z2048) (w64 (z2050 + 1)) (b2053) (k2054) (l2055) (l2057)
     else
      none -- none
    else
     some (R9_2.e1 (z1808))
theorem L9_2_ok (m : Nat) : ∀ (n : Nat) (z1808 : Int) (z1809 : Int) (z1810 : Int) (b1811 : Bool) (k1812 : Nat) (l1813 : List (List V)) (l1814 : List (List V)) (r : R9_2), L9_2 n z1808 z1809 z1810 b1811 k1812 l1813 l1814 = some r → ∃ st, loopFrom Try.prog X (genO X (call Try.prog X O0 18446744073709551616 (m + 9))) 9 (0) 18446744073709551616 B9 2 n ({ T := U :: i64 z1808 :: V.ptr 0 0 0 :: i64 z1809 :: un 23 (V.hs 1 0 10 :: i64 10 :: i64 z1810 :: un 41 []), σ := [Ob.cells true false 2 [[vb b1811, V.hs 2 0 k1812]], Ob.cells true true 1 l1813, Ob.cells true true 2 l1814] }) = some st ∧ r.St st
  | 0, _, _, _, _, _, _, _, r, h => by cases h
  | n + 1, z1808, z1809, z1810, b1811, k1812, l1813, l1814, r, h => by
    rw [L9_2] at h
    rcases ite_eq h with ⟨h0, h⟩ | ⟨h0, h⟩
    · skip
      rcases ite_eq h with ⟨h1, h⟩ | ⟨h1, h⟩
      · skip
        obtain ⟨e1988, h2, h⟩ := Option.bind_eq_some_iff.mp h
        obtain ⟨r3, h3, h⟩ := Option.bind_eq_some_iff.mp h
        obtain ⟨st3, h3, hr3⟩ := L9_4_ok m 18446744073709551616 (z1808) (z1809) (e1988.c0) (z1810) (0) (b1811) (k1812) (l1813) ([[i64 (-9223372036854775808)], [i64 0], [i64 1], [i64 (w64 (Int.tdiv z1809 3))], [i64 (w64 (w64 (Int.tdiv z1809 3) + 1))], [i64 (w64 (z1809 - 1))], [i64 z1809], [i64 (w64 (z1809 + 1))], [i64 9223372036854775807]]) (l1814) r3 h3
        have h3 : loopRun Try.prog X (genO X (call Try.prog X O0 18446744073709551616 (m + 9))) 9 (0) 18446744073709551616 B9 4 ({ T := U :: i64 z1808 :: V.ptr 0 0 0 :: i64 z1809 :: U :: i64 e1988.c0 :: un 21 (V.hs 1 0 10 :: i64 10 :: i64 z1810 :: vb (decide (z1810 < 10)) :: V.ptr 1 (0 + Int.toNat z1810) 0 :: i64 e1988.c0 :: i64 z1809 :: i64 (w64 (Int.tdiv z1809 3)) :: i64 z1809 :: i64 (w64 (Int.tdiv z1809 3)) :: i64 (w64 (w64 (Int.tdiv z1809 3) + 1)) :: i64 z1809 :: i64 (w64 (z1809 - 1)) :: i64 z1809 :: i64 z1809 :: i64 (w64 (z1809 + 1)) :: V.hs 3 0 9 :: i64 9 :: i64 0 :: un 25 []), σ := [Ob.cells true false 2 [[vb b1811, V.hs 2 0 k1812]], Ob.cells true true 1 l1813, Ob.cells true true 2 l1814, Ob.cells true true 1 [[i64 (-9223372036854775808)], [i64 0], [i64 1], [i64 (w64 (Int.tdiv z1809 3))], [i64 (w64 (w64 (Int.tdiv z1809 3) + 1))], [i64 (w64 (z1809 - 1))], [i64 z1809], [i64 (w64 (z1809 + 1))], [i64 9223372036854775807]]] }) = some st3 := by
          rw [loopRun_from, show pre X 9 (0) 4 ({ T := U :: i64 z1808 :: V.ptr 0 0 0 :: i64 z1809 :: U :: i64 e1988.c0 :: un 21 (V.hs 1 0 10 :: i64 10 :: i64 z1810 :: vb (decide (z1810 < 10)) :: V.ptr 1 (0 + Int.toNat z1810) 0 :: i64 e1988.c0 :: i64 z1809 :: i64 (w64 (Int.tdiv z1809 3)) :: i64 z1809 :: i64 (w64 (Int.tdiv z1809 3)) :: i64 (w64 (w64 (Int.tdiv z1809 3) + 1)) :: i64 z1809 :: i64 (w64 (z1809 - 1)) :: i64 z1809 :: i64 z1809 :: i64 (w64 (z1809 + 1)) :: V.hs 3 0 9 :: i64 9 :: i64 0 :: un 25 []), σ := [Ob.cells true false 2 [[vb b1811, V.hs 2 0 k1812]], Ob.cells true true 1 l1813, Ob.cells true true 2 l1814, Ob.cells true true 1 [[i64 (-9223372036854775808)], [i64 0], [i64 1], [i64 (w64 (Int.tdiv z1809 3))], [i64 (w64 (w64 (Int.tdiv z1809 3) + 1))], [i64 (w64 (z1809 - 1))], [i64 z1809], [i64 (w64 (z1809 + 1))], [i64 9223372036854775807]]] }) = { T := U :: i64 z1808 :: V.ptr 0 0 0 :: i64 z1809 :: U :: i64 e1988.c0 :: un 21 (V.hs 1 0 10 :: i64 10 :: i64 z1810 :: un 13 (V.hs 2 0 9 :: i64 9 :: i64 0 :: un 25 [])), σ := [Ob.cells true false 2 [[vb b1811, V.hs 3 0 k1812]], Ob.cells true true 1 l1813, Ob.cells true true 1 [[i64 (-9223372036854775808)], [i64 0], [i64 1], [i64 (w64 (Int.tdiv z1809 3))], [i64 (w64 (w64 (Int.tdiv z1809 3) + 1))], [i64 (w64 (z1809 - 1))], [i64 z1809], [i64 (w64 (z1809 + 1))], [i64 9223372036854775807]], Ob.cells true true 2 l1814] } by kernel_rfl]
          exact h3
        cases r3 with
        | e0 =>
          obtain ⟨z2017, z2018, z2019, z2020, z2021, z2022, b2023, k2024, b2025, k2026, b2027, b2028, l2029, l2030, l2031, rfl⟩ := hr3
          cases h
          exact ⟨_, round_out (gs := [.t, .t, .el (W2.cells e1988), .a, .a, .lp (VX.ret) (s9_4_0 z2017 z2018 z2019 z2020 z2021 z2022 b2023 k2024 b2025 k2026 b2027 b2028 l2029 l2030 l2031)]) (notIn []) (by kernel_rfl) rfl (And.intro (decide_eq_true h0) (And.intro (decide_eq_true h1) (And.intro (W2.dec_ok h2) (And.intro h3 True.intro)))) n, z2017, z2018, z2019, z2020, z2021, z2022, b2023, k2024, b2025, k2026, b2027, b2028, l2029, l2030, l2031, rfl⟩
        | e1 z2047 z2048 z2050 b2053 k2054 l2055 l2057 =>
          obtain ⟨z2049, z2051, b2052, l2056, rfl⟩ := hr3
          obtain ⟨st, hs, hr⟩ := L9_2_ok m n (z2047) (z2048) (w64 (z2050 + 1)) (b2053) (k2054) (l2055) (l2057) r h
          exact ⟨st, (round_on (gs := [.t, .t, .el (W2.cells e1988), .a, .a, .lp (VX.exit 4) (s9_4_1 z2047 z2048 z2049 z2050 z2051 b2052 b2053 k2054 l2055 l2056 l2057)]) (notIn []) (by kernel_rfl) (And.intro (decide_eq_true h0) (And.intro (decide_eq_true h1) (And.intro (W2.dec_ok h2) (And.intro h3 True.intro)))) n).trans hs, hr⟩
      · skip
        cases h
    · skip
      cases h
      exact ⟨_, round_out (gs := [.f]) (notIn []) (by kernel_rfl) rfl (And.intro (decide_eq_false h0) True.intro) n, z1809, z1810, decide (z1810 < 10), b1811, k1812, l1813, l1814, rfl⟩
inductive R9_0 where
  | e0
  | e1
@[reducible] def s9_0_0 (z2081 : Int) (z2082 : Int) (z2083 : Int) (z2084 : Int) (z2085 : Int) (z2086 : Int) (b2087 : Bool) (k2088 : Nat) (b2089 : Bool) (k2090 : Nat) (b2091 : Bool) (b2092 : Bool) (l2093 : List (List V)) (l2094 : List (List V)) (l2095 : List (List V)) : S := { T := vb false :: i64 z2081 :: V.ptr 0 0 0 :: i64 z2082 :: U :: i64 z2083 :: U :: i64 z2084 :: un 19 (V.hs 1 0 10 :: i64 10 :: i64 z2085 :: un 13 (V.hs 2 0 9 :: i64 9 :: i64 z2086 :: vb b2087 :: V.ptr 2 k2088 0 :: i64 z2084 :: V.agg [vb b2089, V.hs 3 0 k2090] :: i64 z2083 :: i64 z2084 :: vb b2091 :: vb b2092 :: un 17 [])), σ := [Ob.cells true false 2 [[vb b2089, V.hs 3 0 k2090]], Ob.cells true true 1 l2093, Ob.cells true true 1 l2094, Ob.cells true true 2 l2095] }
@[reducible] def s9_0_1 (z2104 : Int) (b2105 : Bool) : S := { T := U :: i64 z2104 :: un 7 (i64 z2104 :: vb b2105 :: un 60 []), σ := [] }
def R9_0.St : R9_0 → VX × S → Prop
  | .e0, p => ∃ z2081 : Int, ∃ z2082 : Int, ∃ z2083 : Int, ∃ z2084 : Int, ∃ z2085 : Int, ∃ z2086 : Int, ∃ b2087 : Bool, ∃ k2088 : Nat, ∃ b2089 : Bool, ∃ k2090 : Nat, ∃ b2091 : Bool, ∃ b2092 : Bool, ∃ l2093 : List (List V), ∃ l2094 : List (List V), ∃ l2095 : List (List V), p = (VX.ret, s9_0_0 z2081 z2082 z2083 z2084 z2085 z2086 b2087 k2088 b2089 k2090 b2091 b2092 l2093 l2094 l2095)
  | .e1, p => ∃ z2104 : Int, ∃ b2105 : Bool, p = (VX.exit 0, s9_0_1 z2104 b2105)
def L9_0 : Nat → Int → Option R9_0
  | 0, _ => none
  | n + 1, z1783 =>
    if z1783 < 40 then
     (F37 (z1783)).bind fun r => match r with
     | .a0 k1978 z1979 l1980 =>
      (F22 (k1978) (z1979) (l1980)).bind fun r => match r with
      | .a0 b1981 k1982 k1983 z1984 l1985 l1986 =>
       if 0 + k1982 ≤ List.length l1986 then
        (F29 (b1981) (List.take k1982 l1986)).bind fun r => match r with
        | .a0 z1987 =>
         (L9_2 18446744073709551616 (z1783) (z1987) (0) (b1981) (k1982) ([[i64 (-9223372036854775808)], [i64 (-5)], [i64 0], [i64 1], [i64 (w64 (Int.tdiv z1987 3))], [i64 (w64 (Int.tdiv z1987 2))], [i64 (w64 (z1987 - 1))], [i64 z1987], [i64 (w64 (z1987 + 1))], [i64 9223372036854775807]]) (l1986)).bind fun r => match r with
         | .e0 =>
          some (R9_0.e0)
         | .e1 z2096 =>
          L9_0 n (w64 (z2096 + 1))
       else
        none -- none
    else
     some (R9_0.e1)
theorem L9_0_ok (m : Nat) : ∀ (n : Nat) (z1783 : Int) (r : R9_0), L9_0 n z1783 = some r → ∃ st, loopFrom Try.prog X (genO X (call Try.prog X O0 18446744073709551616 (m + 9))) 9 (0) 18446744073709551616 B9 0 n ({ T := U :: i64 z1783 :: un 69 [], σ := [] }) = some st ∧ r.St st
  | 0, _, r, h => by cases h
  | n + 1, z1783, r, h => by
    rw [L9_0] at h
    rcases ite_eq h with ⟨h0, h⟩ | ⟨h0, h⟩
    · skip
      obtain ⟨r1, h1, h⟩ := Option.bind_eq_some_iff.mp h
      have h1 := F37_ok (m + 8) (z1783) r1 h1
      cases r1 with
      | a0 k1978 z1979 l1980 =>
        obtain ⟨r2, h2, h⟩ := Option.bind_eq_some_iff.mp h
        have h2 := F22_ok (m + 5) (k1978) (z1979) (l1980) r2 h2
        cases r2 with
        | a0 b1981 k1982 k1983 z1984 l1985 l1986 =>
          rcases ite_eq h with ⟨h3, h⟩ | ⟨h3, h⟩
          · skip
            obtain ⟨r4, h4, h⟩ := Option.bind_eq_some_iff.mp h
            have h4 := F29_ok (m + 4) (b1981) (List.take k1982 l1986) r4 h4
            cases r4 with
            | a0 z1987 =>
              obtain ⟨r5, h5, h⟩ := Option.bind_eq_some_iff.mp h
              obtain ⟨st5, h5, hr5⟩ := L9_2_ok m 18446744073709551616 (z1783) (z1987) (0) (b1981) (k1982) ([[i64 (-9223372036854775808)], [i64 (-5)], [i64 0], [i64 1], [i64 (w64 (Int.tdiv z1987 3))], [i64 (w64 (Int.tdiv z1987 2))], [i64 (w64 (z1987 - 1))], [i64 z1987], [i64 (w64 (z1987 + 1))], [i64 9223372036854775807]]) (l1986) r5 h5
              have h5 : loopRun Try.prog X (genO X (call Try.prog X O0 18446744073709551616 (m + 9))) 9 (0) 18446744073709551616 B9 2 ({ T := U :: i64 z1783 :: V.ptr 6 0 0 :: i64 z1987 :: un 5 (i64 z1783 :: vb (decide (z1783 < 40)) :: U :: U :: i64 z1783 :: V.ptr 0 0 0 :: V.agg [vb b1981, V.hs 5 0 k1982] :: V.agg [vb b1981, V.hs 5 0 k1982] :: i64 z1987 :: i64 z1987 :: i64 (w64 (Int.tdiv z1987 3)) :: i64 z1987 :: i64 (w64 (Int.tdiv z1987 2)) :: i64 z1987 :: i64 (w64 (z1987 - 1)) :: i64 z1987 :: i64 z1987 :: i64 (w64 (z1987 + 1)) :: V.hs 7 0 10 :: i64 10 :: i64 0 :: un 41 []), σ := [Ob.cells true false 2 [[V.hs 1 0 k1983, i64 z1984]], Ob.cells true true 1 l1985, Ob.vir, Ob.vir, Ob.vir, Ob.cells true true 2 l1986, Ob.cells true false 2 [[vb b1981, V.hs 5 0 k1982]], Ob.cells true true 1 [[i64 (-9223372036854775808)], [i64 (-5)], [i64 0], [i64 1], [i64 (w64 (Int.tdiv z1987 3))], [i64 (w64 (Int.tdiv z1987 2))], [i64 (w64 (z1987 - 1))], [i64 z1987], [i64 (w64 (z1987 + 1))], [i64 9223372036854775807]]] }) = some st5 := by
                rw [loopRun_from, show pre X 9 (0) 2 ({ T := U :: i64 z1783 :: V.ptr 6 0 0 :: i64 z1987 :: un 5 (i64 z1783 :: vb (decide (z1783 < 40)) :: U :: U :: i64 z1783 :: V.ptr 0 0 0 :: V.agg [vb b1981, V.hs 5 0 k1982] :: V.agg [vb b1981, V.hs 5 0 k1982] :: i64 z1987 :: i64 z1987 :: i64 (w64 (Int.tdiv z1987 3)) :: i64 z1987 :: i64 (w64 (Int.tdiv z1987 2)) :: i64 z1987 :: i64 (w64 (z1987 - 1)) :: i64 z1987 :: i64 z1987 :: i64 (w64 (z1987 + 1)) :: V.hs 7 0 10 :: i64 10 :: i64 0 :: un 41 []), σ := [Ob.cells true false 2 [[V.hs 1 0 k1983, i64 z1984]], Ob.cells true true 1 l1985, Ob.vir, Ob.vir, Ob.vir, Ob.cells true true 2 l1986, Ob.cells true false 2 [[vb b1981, V.hs 5 0 k1982]], Ob.cells true true 1 [[i64 (-9223372036854775808)], [i64 (-5)], [i64 0], [i64 1], [i64 (w64 (Int.tdiv z1987 3))], [i64 (w64 (Int.tdiv z1987 2))], [i64 (w64 (z1987 - 1))], [i64 z1987], [i64 (w64 (z1987 + 1))], [i64 9223372036854775807]]] }) = { T := U :: i64 z1783 :: V.ptr 0 0 0 :: i64 z1987 :: un 23 (V.hs 1 0 10 :: i64 10 :: i64 0 :: un 41 []), σ := [Ob.cells true false 2 [[vb b1981, V.hs 2 0 k1982]], Ob.cells true true 1 [[i64 (-9223372036854775808)], [i64 (-5)], [i64 0], [i64 1], [i64 (w64 (Int.tdiv z1987 3))], [i64 (w64 (Int.tdiv z1987 2))], [i64 (w64 (z1987 - 1))], [i64 z1987], [i64 (w64 (z1987 + 1))], [i64 9223372036854775807]], Ob.cells true true 2 l1986] } by kernel_rfl]
                exact h5
              cases r5 with
              | e0 =>
                obtain ⟨z2066, z2067, z2068, z2069, z2070, z2071, b2072, k2073, b2074, k2075, b2076, b2077, l2078, l2079, l2080, rfl⟩ := hr5
                cases h
                exact ⟨_, round_out (gs := [.t, .an (V.ptr 0 0 0) [Ob.cells true false 2 [[V.hs 1 0 k1978, i64 z1979]], Ob.cells true true 1 l1980], .an (V.agg [vb b1981, V.hs 2 0 k1982]) [Ob.cells true false 2 [[V.hs 1 0 k1983, i64 z1984]], Ob.cells true true 1 l1985, Ob.cells true true 2 l1986], .a, .a, .t, .an (i64 z1987) [], .a, .a, .lp (VX.ret) (s9_2_0 z2066 z2067 z2068 z2069 z2070 z2071 b2072 k2073 b2074 k2075 b2076 b2077 l2078 l2079 l2080)]) (notIn []) (by kernel_rfl) rfl (And.intro (decide_eq_true h0) (And.intro h1 (And.intro h2 (And.intro (decide_eq_true h3) (And.intro h4 (And.intro h5 True.intro)))))) n, z2066, z2067, z2068, z2069, z2070, z2071, b2072, k2073, b2074, k2075, b2076, b2077, l2078, l2079, l2080, rfl⟩
              | e1 z2096 =>
                obtain ⟨z2097, z2098, b2099, b2100, k2101, l2102, l2103, rfl⟩ := hr5
                obtain ⟨st, hs, hr⟩ := L9_0_ok m n (w64 (z2096 + 1)) r h
                exact ⟨st, (round_on (gs := [.t, .an (V.ptr 0 0 0) [Ob.cells true false 2 [[V.hs 1 0 k1978, i64 z1979]], Ob.cells true true 1 l1980], .an (V.agg [vb b1981, V.hs 2 0 k1982]) [Ob.cells true false 2 [[V.hs 1 0 k1983, i64 z1984]], Ob.cells true true 1 l1985, Ob.cells true true 2 l1986], .a, .a, .t, .an (i64 z1987) [], .a, .a, .lp (VX.exit 2) (s9_2_1 z2096 z2097 z2098 b2099 b2100 k2101 l2102 l2103)]) (notIn []) (by kernel_rfl) (And.intro (decide_eq_true h0) (And.intro h1 (And.intro h2 (And.intro (decide_eq_true h3) (And.intro h4 (And.intro h5 True.intro)))))) n).trans hs, hr⟩
          · skip
            cases h
    · skip
      cases h
      exact ⟨_, round_out (gs := [.f]) (notIn []) (by kernel_rfl) rfl (And.intro (decide_eq_false h0) True.intro) n, z1783, decide (z1783 < 40), rfl⟩
inductive A9 where
  | a0 (b2126 : Bool)
@[reducible] def A9.out : A9 → V × Store
  | .a0 b2126 => (vb b2126, [])
def F9 : Option A9 :=
  (L9_0 18446744073709551616 (0)).bind fun r => match r with
  | .e0 =>
   none -- false
  | .e1 =>
   (F38 (true) ([[i64 9223372036854775807, i64 (-9223372036854775808)], [i64 (-9223372036854775808), i64 0], [i64 536870912, i64 536870912], [i64 (-536870912), i64 1152921504606846976]]) (5) (1099511627776)).bind fun r => match r with
   | .a0 b2123 =>
    if (b2123) = true then
     (F38 (true) ([[i64 9223372036854775807, i64 (-9223372036854775808)], [i64 (-9223372036854775808), i64 0], [i64 536870912, i64 536870912], [i64 (-536870912), i64 1152921504606846976]]) (-1) (4611686018427387904)).bind fun r => match r with
     | .a0 b2124 =>
      if (b2124) = true then
       (F25).bind fun r => match r with
       | .a0 b2125 =>
        some (A9.a0 (b2125))
      else
       none -- false
    else
     none -- false
theorem F9_ok (m : Nat) (r : A9) (h : F9 = some r) : call Try.prog X O0 18446744073709551616 (m + 10) 9 ([]) ([]) = some r.out := by
  unfold F9 at h
  obtain ⟨r0, h0, h⟩ := Option.bind_eq_some_iff.mp h
  obtain ⟨st0, h0, hr0⟩ := L9_0_ok m 18446744073709551616 (0) r0 h0
  have h0 : loopRun Try.prog X (genO X (call Try.prog X O0 18446744073709551616 (m + 9))) 9 (0) 18446744073709551616 B9 0 ({ T := vb false :: i64 0 :: un 69 [], σ := [] }) = some st0 := by
    rw [loopRun_from, show pre X 9 (0) 0 ({ T := vb false :: i64 0 :: un 69 [], σ := [] }) = { T := U :: i64 0 :: un 69 [], σ := [] } by kernel_rfl]
    exact h0
  cases r0 with
  | e0 =>
    obtain ⟨z2106, z2107, z2108, z2109, z2110, z2111, b2112, k2113, b2114, k2115, b2116, b2117, l2118, l2119, l2120, rfl⟩ := hr0
    cases h
  | e1 =>
    obtain ⟨z2121, b2122, rfl⟩ := hr0
    obtain ⟨r1, h1, h⟩ := Option.bind_eq_some_iff.mp h
    have h1 := F38_ok (m + 0) (true) ([[i64 9223372036854775807, i64 (-9223372036854775808)], [i64 (-9223372036854775808), i64 0], [i64 536870912, i64 536870912], [i64 (-536870912), i64 1152921504606846976]]) (5) (1099511627776) r1 h1
    cases r1 with
    | a0 b2123 =>
      rcases ite_eq h with ⟨h2, h⟩ | ⟨h2, h⟩
      · skip
        obtain ⟨r3, h3, h⟩ := Option.bind_eq_some_iff.mp h
        have h3 := F38_ok (m + 0) (true) ([[i64 9223372036854775807, i64 (-9223372036854775808)], [i64 (-9223372036854775808), i64 0], [i64 536870912, i64 536870912], [i64 (-536870912), i64 1152921504606846976]]) (-1) (4611686018427387904) r3 h3
        cases r3 with
        | a0 b2124 =>
          rcases ite_eq h with ⟨h4, h⟩ | ⟨h4, h⟩
          · skip
            obtain ⟨r5, h5, h⟩ := Option.bind_eq_some_iff.mp h
            have h5 := F25_ok (m + 2) r5 h5
            cases r5 with
            | a0 b2125 =>
              cases h
              exact call_pathL (gs := [.lp (VX.exit 0) (s9_0_1 z2121 b2122), .a, .a, .a, .an (vb b2123) [], .t, .a, .t, .a, .an (vb b2124) [], .t, .t, .an (vb b2125) [], .t]) (notIn []) rfl rfl (by kernel_rfl) (And.intro h0 (And.intro h1 (And.intro h2 (And.intro h2 (And.intro h3 (And.intro h2 (And.intro h4 (And.intro h5 (And.intro h4 True.intro)))))))))
          · skip
            cases h
      · skip
        cases h
/-! ## 41 -/
noncomputable abbrev B41 : Code := (Try.f41.body).getD .skip
inductive R41_0 where
  | e0 (k2136 : Nat) (l2139 : List (List V))
@[reducible] def s41_0_0 (z2135 : Int) (k2136 : Nat) (z2137 : Int) (b2138 : Bool) (l2139 : List (List V)) : S := { T := i64 z2135 :: U :: U :: V.hs 0 0 k2136 :: i64 z2137 :: i64 z2137 :: vb b2138 :: un 20 [], σ := [Ob.cells true true 1 l2139] }
def R41_0.St : R41_0 → VX × S → Prop
  | .e0 k2136 l2139, p => ∃ z2135 : Int, ∃ z2137 : Int, ∃ b2138 : Bool, p = (VX.exit 0, s41_0_0 z2135 k2136 z2137 b2138 l2139)
def L41_0 : Nat → Int → Nat → Int → List (List V) → Option R41_0
  | 0, _, _, _, _ => none
  | n + 1, z2131, k2132, z2133, l2134 =>
    if z2133 < 60 then
     if 0 + k2132 ≤ List.length l2134 ∧ (k2132 + 1) * 8 ≤ 140737488355328 ∧ k2132 + 1 ≤ 140737488355328 then
      L41_0 n (z2131) (k2132 + 1) (w64 (z2133 + 1)) (List.take k2132 l2134 ++ [[i64 (Int.tmod (w64 (w64 (w64 (w64 (z2133 * z2133) * 11) + w64 (z2131 * 19)) + w64 (z2133 * z2131))) 103)]])
     else
      none -- none
    else
     some (R41_0.e0 (k2132) (l2134))
theorem L41_0_ok (m : Nat) : ∀ (n : Nat) (z2131 : Int) (k2132 : Nat) (z2133 : Int) (l2134 : List (List V)) (r : R41_0), L41_0 n z2131 k2132 z2133 l2134 = some r → ∃ st, loopFrom Try.prog X (genO X (call Try.prog X O0 18446744073709551616 (m + 0))) 41 (0) 18446744073709551616 B41 0 n ({ T := i64 z2131 :: U :: U :: V.hs 0 0 k2132 :: i64 z2133 :: un 22 [], σ := [Ob.cells true true 1 l2134] }) = some st ∧ r.St st
  | 0, _, _, _, _, r, h => by cases h
  | n + 1, z2131, k2132, z2133, l2134, r, h => by
    rw [L41_0] at h
    rcases ite_eq h with ⟨h0, h⟩ | ⟨h0, h⟩
    · skip
      rcases ite_eq h with ⟨h1, h⟩ | ⟨h1, h⟩
      · skip
        obtain ⟨st, hs, hr⟩ := L41_0_ok m n (z2131) (k2132 + 1) (w64 (z2133 + 1)) (List.take k2132 l2134 ++ [[i64 (Int.tmod (w64 (w64 (w64 (w64 (z2133 * z2133) * 11) + w64 (z2131 * 19)) + w64 (z2133 * z2131))) 103)]]) r h
        exact ⟨st, (round_on (gs := [.t, .a, .a, .t]) (notIn []) (by kernel_rfl) (And.intro (decide_eq_true h0) (And.intro (decide_eq_true h1) True.intro)) n).trans hs, hr⟩
      · skip
        cases h
    · skip
      cases h
      exact ⟨_, round_out (gs := [.f]) (notIn []) (by kernel_rfl) rfl (And.intro (decide_eq_false h0) True.intro) n, z2131, z2133, decide (z2133 < 60), rfl⟩
inductive A41 where
  | a0 (k2145 : Nat) (z2146 : Int) (l2147 : List (List V))
@[reducible] def A41.out : A41 → V × Store
  | .a0 k2145 z2146 l2147 => (V.ptr 0 0 0, [Ob.cells true false 2 [[V.hs 1 0 k2145, i64 z2146]], Ob.cells true true 1 l2147])
def F41 (z2128 : Int) : Option A41 :=
  (L41_0 18446744073709551616 (z2128) (0) (0) ([])).bind fun r => match r with
  | .e0 k2141 l2144 =>
   some (A41.a0 (k2141) (0) (l2144))
theorem F41_ok (m : Nat) (z2128 : Int) (r : A41) (h : F41 z2128 = some r) : call Try.prog X O0 18446744073709551616 (m + 1) 41 ([i64 z2128]) ([]) = some r.out := by
  unfold F41 at h
  obtain ⟨r0, h0, h⟩ := Option.bind_eq_some_iff.mp h
  obtain ⟨st0, h0, hr0⟩ := L41_0_ok m 18446744073709551616 (z2128) (0) (0) ([]) r0 h0
  have h0 : loopRun Try.prog X (genO X (call Try.prog X O0 18446744073709551616 (m + 0))) 41 (0) 18446744073709551616 B41 0 ({ T := i64 z2128 :: U :: V.nilP :: V.nilS :: i64 0 :: un 22 [], σ := [] }) = some st0 := by
    rw [loopRun_from, show pre X 41 (0) 0 ({ T := i64 z2128 :: U :: V.nilP :: V.nilS :: i64 0 :: un 22 [], σ := [] }) = { T := i64 z2128 :: U :: U :: V.hs 0 0 0 :: i64 0 :: un 22 [], σ := [Ob.cells true true 1 []] } by kernel_rfl]
    exact h0
  cases r0 with
  | e0 k2141 l2144 =>
    obtain ⟨z2140, z2142, b2143, rfl⟩ := hr0
    cases h
    exact call_pathL (gs := [.lp (VX.exit 0) (s41_0_0 z2140 k2141 z2142 b2143 l2144)]) (notIn []) rfl rfl (by kernel_rfl) (And.intro h0 True.intro)
/-! ## 28 -/
noncomputable abbrev B28v1 : Code := (Try.f28.body).getD .skip
inductive R28v1_0 where
  | e0 (k2227 : Nat) (z2228 : Int) (l2229 : List (List V)) (b2230 : Bool) (k2231 : Nat) (l2232 : List (List V))
@[reducible] def s28v1_0_0 (z2225 : Int) (b2226 : Bool) (k2227 : Nat) (z2228 : Int) (l2229 : List (List V)) (b2230 : Bool) (k2231 : Nat) (l2232 : List (List V)) : S := { T := V.ptr 0 0 0 :: U :: V.ptr 2 0 0 :: V.ptr 3 0 0 :: i64 z2225 :: un 7 (i64 z2225 :: vb b2226 :: un 23 []), σ := [Ob.cells true false 2 [[V.hs 1 0 k2227, i64 z2228]], Ob.cells true true 1 l2229, Ob.cells true false 2 [[vb false, V.hs 4 0 0]], Ob.cells true false 2 [[vb b2230, V.hs 5 0 k2231]], Ob.cells true true 2 [], Ob.cells true true 2 l2232] }
def R28v1_0.St : R28v1_0 → VX × S → Prop
  | .e0 k2227 z2228 l2229 b2230 k2231 l2232, p => ∃ z2225 : Int, ∃ b2226 : Bool, p = (VX.exit 0, s28v1_0_0 z2225 b2226 k2227 z2228 l2229 b2230 k2231 l2232)
def L28v1_0 : Nat → Int → Nat → Int → List (List V) → Bool → Nat → List (List V) → Option R28v1_0
  | 0, _, _, _, _, _, _, _ => none
  | n + 1, z2180, k2181, z2182, l2183, b2184, k2185, l2186 =>
    if z2180 > 0 then
     (F54v1 (-5) (20) (k2181) (z2182) (l2183)).bind fun r => match r with
     | .a0 z2213 k2214 z2215 l2216 =>
      (F54v1 (-5) (20) (k2214) (z2215) (l2216)).bind fun r => match r with
      | .a0 z2217 k2218 z2219 l2220 =>
       if 0 + k2185 ≤ List.length l2186 ∧ (k2185 + 1) * 16 ≤ 140737488355328 ∧ k2185 + 1 ≤ 140737488355328 then
        (F15v1 (6) (k2218) (z2219) (l2220)).bind fun r => match r with
        | .a0 z2221 k2222 z2223 l2224 =>
         if (z2221 == 0) = true then
          if 0 + (k2185 + 1) ≤ List.length (List.take k2185 l2186 ++ [[i64 z2213, i64 z2217]]) ∧ (k2185 + 1 + 1) * 16 ≤ 140737488355328 ∧ k2185 + 1 + 1 ≤ 140737488355328 then
           L28v1_0 n (w64 (z2180 - 1)) (k2222) (z2223) (l2224) (b2184) (k2185 + 1 + 1) (List.take (k2185 + 1) (List.take k2185 l2186 ++ [[i64 z2213, i64 z2217]]) ++ [[i64 z2213, i64 z2217]])
          else
           none -- none
         else
          L28v1_0 n (w64 (z2180 - 1)) (k2222) (z2223) (l2224) (b2184) (k2185 + 1) (List.take k2185 l2186 ++ [[i64 z2213, i64 z2217]])
       else
        none -- none
    else
     some (R28v1_0.e0 (k2181) (z2182) (l2183) (b2184) (k2185) (l2186))
theorem L28v1_0_ok (m : Nat) : ∀ (n : Nat) (z2180 : Int) (k2181 : Nat) (z2182 : Int) (l2183 : List (List V)) (b2184 : Bool) (k2185 : Nat) (l2186 : List (List V)) (r : R28v1_0), L28v1_0 n z2180 k2181 z2182 l2183 b2184 k2185 l2186 = some r → ∃ st, loopFrom Try.prog X (genO X (call Try.prog X O0 18446744073709551616 (m + 3))) 28 (2) 18446744073709551616 B28v1 0 n ({ T := V.ptr 0 0 0 :: U :: V.ptr 2 0 0 :: V.ptr 3 0 0 :: i64 z2180 :: un 32 [], σ := [Ob.cells true false 2 [[V.hs 1 0 k2181, i64 z2182]], Ob.cells true true 1 l2183, Ob.cells true false 2 [[vb false, V.hs 4 0 0]], Ob.cells true false 2 [[vb b2184, V.hs 5 0 k2185]], Ob.cells true true 2 [], Ob.cells true true 2 l2186] }) = some st ∧ r.St st
  | 0, _, _, _, _, _, _, _, r, h => by cases h
  | n + 1, z2180, k2181, z2182, l2183, b2184, k2185, l2186, r, h => by
    rw [L28v1_0] at h
    rcases ite_eq h with ⟨h0, h⟩ | ⟨h0, h⟩
    · skip
      obtain ⟨r1, h1, h⟩ := Option.bind_eq_some_iff.mp h
      have h1 := F54v1_ok (m + 0) (-5) (20) (k2181) (z2182) (l2183) r1 h1
      cases r1 with
      | a0 z2213 k2214 z2215 l2216 =>
        obtain ⟨r2, h2, h⟩ := Option.bind_eq_some_iff.mp h
        have h2 := F54v1_ok (m + 0) (-5) (20) (k2214) (z2215) (l2216) r2 h2
        cases r2 with
        | a0 z2217 k2218 z2219 l2220 =>
          rcases ite_eq h with ⟨h3, h⟩ | ⟨h3, h⟩
          · skip
            obtain ⟨r4, h4, h⟩ := Option.bind_eq_some_iff.mp h
            have h4 := F15v1_ok (m + 1) (6) (k2218) (z2219) (l2220) r4 h4
            cases r4 with
            | a0 z2221 k2222 z2223 l2224 =>
              rcases ite_eq h with ⟨h5, h⟩ | ⟨h5, h⟩
              · skip
                rcases ite_eq h with ⟨h6, h⟩ | ⟨h6, h⟩
                · skip
                  obtain ⟨st, hs, hr⟩ := L28v1_0_ok m n (w64 (z2180 - 1)) (k2222) (z2223) (l2224) (b2184) (k2185 + 1 + 1) (List.take (k2185 + 1) (List.take k2185 l2186 ++ [[i64 z2213, i64 z2217]]) ++ [[i64 z2213, i64 z2217]]) r h
                  exact ⟨st, (round_on (gs := [.t, .an (i64 z2213) [Ob.cells true false 2 [[V.hs 1 0 k2214, i64 z2215]], Ob.cells true true 1 l2216], .an (i64 z2217) [Ob.cells true false 2 [[V.hs 1 0 k2218, i64 z2219]], Ob.cells true true 1 l2220], .a, .a, .a, .a, .t, .a, .an (i64 z2221) [Ob.cells true false 2 [[V.hs 1 0 k2222, i64 z2223]], Ob.cells true true 1 l2224], .t, .a, .a, .a, .t, .a]) (notIn []) (by kernel_rfl) (And.intro (decide_eq_true h0) (And.intro h1 (And.intro h2 (And.intro (decide_eq_true h3) (And.intro h4 (And.intro h5 (And.intro (decide_eq_true h6) True.intro))))))) n).trans hs, hr⟩
                · skip
                  cases h
              · skip
                obtain ⟨st, hs, hr⟩ := L28v1_0_ok m n (w64 (z2180 - 1)) (k2222) (z2223) (l2224) (b2184) (k2185 + 1) (List.take k2185 l2186 ++ [[i64 z2213, i64 z2217]]) r h
                exact ⟨st, (round_on (gs := [.t, .an (i64 z2213) [Ob.cells true false 2 [[V.hs 1 0 k2214, i64 z2215]], Ob.cells true true 1 l2216], .an (i64 z2217) [Ob.cells true false 2 [[V.hs 1 0 k2218, i64 z2219]], Ob.cells true true 1 l2220], .a, .a, .a, .a, .t, .a, .an (i64 z2221) [Ob.cells true false 2 [[V.hs 1 0 k2222, i64 z2223]], Ob.cells true true 1 l2224], .f]) (notIn []) (by kernel_rfl) (And.intro (decide_eq_true h0) (And.intro h1 (And.intro h2 (And.intro (decide_eq_true h3) (And.intro h4 (And.intro (Bool.eq_false_iff.mpr h5) True.intro)))))) n).trans hs, hr⟩
          · skip
            cases h
    · skip
      cases h
      exact ⟨_, round_out (gs := [.f]) (notIn []) (by kernel_rfl) rfl (And.intro (decide_eq_false h0) True.intro) n, z2180, decide (z2180 > 0), rfl⟩
inductive A28v1 where
  | a0 (b2241 : Bool) (k2242 : Nat) (k2243 : Nat) (z2244 : Int) (l2245 : List (List V)) (l2246 : List (List V))
@[reducible] def A28v1.out : A28v1 → V × Store
  | .a0 b2241 k2242 k2243 z2244 l2245 l2246 => (V.agg [vb b2241, V.hs 2 0 k2242], [Ob.cells true false 2 [[V.hs 1 0 k2243, i64 z2244]], Ob.cells true true 1 l2245, Ob.cells true true 2 l2246])
def F28v1 (k2151 : Nat) (z2152 : Int) (l2153 : List (List V)) : Option A28v1 :=
  (F15v1 (2) (k2151) (z2152) (l2153)).bind fun r => match r with
  | .a0 z2205 k2206 z2207 l2208 =>
   (F15v1 (7) (k2206) (z2207) (l2208)).bind fun r => match r with
   | .a0 z2209 k2210 z2211 l2212 =>
    (L28v1_0 18446744073709551616 (z2209) (k2210) (z2211) (l2212) (z2205 == 0) (0) ([])).bind fun r => match r with
    | .e0 k2235 z2236 l2237 b2238 k2239 l2240 =>
     some (A28v1.a0 (b2238) (k2239) (k2235) (z2236) (l2237) (l2240))
theorem F28v1_ok (m : Nat) (k2151 : Nat) (z2152 : Int) (l2153 : List (List V)) (r : A28v1) (h : F28v1 k2151 z2152 l2153 = some r) : call Try.prog X O0 18446744073709551616 (m + 4) 28 ([V.ptr 0 0 0]) ([Ob.cells true false 2 [[V.hs 1 0 k2151, i64 z2152]], Ob.cells true true 1 l2153]) = some r.out := by
  unfold F28v1 at h
  obtain ⟨r0, h0, h⟩ := Option.bind_eq_some_iff.mp h
  have h0 := F15v1_ok (m + 1) (2) (k2151) (z2152) (l2153) r0 h0
  cases r0 with
  | a0 z2205 k2206 z2207 l2208 =>
    obtain ⟨r1, h1, h⟩ := Option.bind_eq_some_iff.mp h
    have h1 := F15v1_ok (m + 1) (7) (k2206) (z2207) (l2208) r1 h1
    cases r1 with
    | a0 z2209 k2210 z2211 l2212 =>
      obtain ⟨r2, h2, h⟩ := Option.bind_eq_some_iff.mp h
      obtain ⟨st2, h2, hr2⟩ := L28v1_0_ok m 18446744073709551616 (z2209) (k2210) (z2211) (l2212) (z2205 == 0) (0) ([]) r2 h2
      have h2 : loopRun Try.prog X (genO X (call Try.prog X O0 18446744073709551616 (m + 3))) 28 (2) 18446744073709551616 B28v1 0 ({ T := V.ptr 0 0 0 :: U :: V.ptr 2 0 0 :: V.ptr 3 0 0 :: i64 z2209 :: U :: V.ptr 0 0 0 :: i64 z2205 :: vb (z2205 == 0) :: V.agg [vb (z2205 == 0), V.nilS] :: V.ptr 0 0 0 :: i64 z2209 :: un 25 [], σ := [Ob.cells true false 2 [[V.hs 1 0 k2210, i64 z2211]], Ob.cells true true 1 l2212, Ob.cells true false 2 [[vb false, V.nilS]], Ob.cells true false 2 [[vb (z2205 == 0), V.nilS]]] }) = some st2 := by
        rw [loopRun_from, show pre X 28 (2) 0 ({ T := V.ptr 0 0 0 :: U :: V.ptr 2 0 0 :: V.ptr 3 0 0 :: i64 z2209 :: U :: V.ptr 0 0 0 :: i64 z2205 :: vb (z2205 == 0) :: V.agg [vb (z2205 == 0), V.nilS] :: V.ptr 0 0 0 :: i64 z2209 :: un 25 [], σ := [Ob.cells true false 2 [[V.hs 1 0 k2210, i64 z2211]], Ob.cells true true 1 l2212, Ob.cells true false 2 [[vb false, V.nilS]], Ob.cells true false 2 [[vb (z2205 == 0), V.nilS]]] }) = { T := V.ptr 0 0 0 :: U :: V.ptr 2 0 0 :: V.ptr 3 0 0 :: i64 z2209 :: un 32 [], σ := [Ob.cells true false 2 [[V.hs 1 0 k2210, i64 z2211]], Ob.cells true true 1 l2212, Ob.cells true false 2 [[vb false, V.hs 4 0 0]], Ob.cells true false 2 [[vb (z2205 == 0), V.hs 5 0 0]], Ob.cells true true 2 [], Ob.cells true true 2 []] } by kernel_rfl]
        exact h2
      cases r2 with
      | e0 k2235 z2236 l2237 b2238 k2239 l2240 =>
        obtain ⟨z2233, b2234, rfl⟩ := hr2
        cases h
        exact call_pathL (gs := [.an (i64 z2205) [Ob.cells true false 2 [[V.hs 1 0 k2206, i64 z2207]], Ob.cells true true 1 l2208], .a, .an (i64 z2209) [Ob.cells true false 2 [[V.hs 1 0 k2210, i64 z2211]], Ob.cells true true 1 l2212], .lp (VX.exit 0) (s28v1_0_0 z2233 b2234 k2235 z2236 l2237 b2238 k2239 l2240), .a, .a]) (notIn []) rfl rfl (by kernel_rfl) (And.intro h0 (And.intro h1 (And.intro h2 True.intro)))
/-! ## 11 -/
noncomputable abbrev B11 : Code := (Try.f11.body).getD .skip
inductive R11_4 where
  | e0
  | e1
  | e2 (z2873 : Int) (z2874 : Int) (l2877 : List (List V))
@[reducible] def s11_4_0 (z2846 : Int) (z2847 : Int) (z2848 : Int) (b2849 : Bool) (z2850 : Int) (z2851 : Int) (z2852 : Int) (z2853 : Int) (z2854 : Int) (b2855 : Bool) (b2856 : Bool) (l2857 : List (List V)) : S := { T := vb false :: i64 z2846 :: U :: V.hs 0 0 3 :: i64 z2847 :: i64 z2848 :: un 16 (i64 z2848 :: vb b2849 :: U :: U :: V.hs 0 0 3 :: i64 z2847 :: i64 z2850 :: i64 z2851 :: i64 z2848 :: i64 z2852 :: i64 z2853 :: i64 z2854 :: vb b2855 :: vb b2856 :: vb b2856 :: E :: E :: E :: E :: E :: E :: E :: E :: E :: vb true :: un 4 []), σ := [Ob.cells true true 2 l2857] }
@[reducible] def s11_4_1 (z2859 : Int) (z2860 : Int) (z2861 : Int) (b2862 : Bool) (z2863 : Int) (z2864 : Int) (z2865 : Int) (z2866 : Int) (z2867 : Int) (b2868 : Bool) (b2869 : Bool) (b2870 : Bool) (b2871 : Bool) (l2872 : List (List V)) : S := { T := vb false :: i64 z2859 :: U :: V.hs 0 0 3 :: i64 z2860 :: i64 z2861 :: un 16 (i64 z2861 :: vb b2862 :: U :: U :: V.hs 0 0 3 :: i64 z2860 :: i64 z2863 :: i64 z2864 :: i64 z2861 :: i64 z2865 :: i64 z2866 :: i64 z2867 :: vb b2868 :: vb b2869 :: vb b2869 :: V.hs 0 0 3 :: i64 z2860 :: i64 z2863 :: i64 z2864 :: i64 z2861 :: i64 z2865 :: i64 z2866 :: vb b2870 :: vb b2871 :: vb b2871 :: un 4 []), σ := [Ob.cells true true 2 l2872] }
@[reducible] def s11_4_2 (z2873 : Int) (z2874 : Int) (z2875 : Int) (b2876 : Bool) (l2877 : List (List V)) : S := { T := U :: i64 z2873 :: U :: V.hs 0 0 3 :: i64 z2874 :: i64 z2875 :: un 16 (i64 z2875 :: vb b2876 :: un 27 []), σ := [Ob.cells true true 2 l2877] }
def R11_4.St : R11_4 → VX × S → Prop
  | .e0, p => ∃ z2846 : Int, ∃ z2847 : Int, ∃ z2848 : Int, ∃ b2849 : Bool, ∃ z2850 : Int, ∃ z2851 : Int, ∃ z2852 : Int, ∃ z2853 : Int, ∃ z2854 : Int, ∃ b2855 : Bool, ∃ b2856 : Bool, ∃ l2857 : List (List V), p = (VX.ret, s11_4_0 z2846 z2847 z2848 b2849 z2850 z2851 z2852 z2853 z2854 b2855 b2856 l2857)
  | .e1, p => ∃ z2859 : Int, ∃ z2860 : Int, ∃ z2861 : Int, ∃ b2862 : Bool, ∃ z2863 : Int, ∃ z2864 : Int, ∃ z2865 : Int, ∃ z2866 : Int, ∃ z2867 : Int, ∃ b2868 : Bool, ∃ b2869 : Bool, ∃ b2870 : Bool, ∃ b2871 : Bool, ∃ l2872 : List (List V), p = (VX.ret, s11_4_1 z2859 z2860 z2861 b2862 z2863 z2864 z2865 z2866 z2867 b2868 b2869 b2870 b2871 l2872)
  | .e2 z2873 z2874 l2877, p => ∃ z2875 : Int, ∃ b2876 : Bool, p = (VX.exit 4, s11_4_2 z2873 z2874 z2875 b2876 l2877)
def L11_4 : Nat → Int → Int → Int → List (List V) → Option R11_4
  | 0, _, _, _, _ => none
  | n + 1, z2643, z2644, z2645, l2646 =>
    if z2645 < 18 then
     if 3 ≤ List.length l2646 then
      (F42 (List.take 3 l2646) (w64 (Int.tdiv (w64 (z2644 * 65536)) 16)) (w64 (w64 (Int.tdiv (w64 (z2645 * 65536)) 16) + 1))).bind fun r => match r with
      | .a0 b2845 =>
       if (!b2845) = true then
        some (R11_4.e0)
       else
        (F42 (List.take 3 l2646) (w64 (Int.tdiv (w64 (z2644 * 65536)) 16)) (w64 (Int.tdiv (w64 (z2645 * 65536)) 16))).bind fun r => match r with
        | .a0 b2858 =>
         if (!b2858) = true then
          some (R11_4.e1)
         else
          L11_4 n (z2643) (z2644) (w64 (z2645 + 3)) (l2646)
     else
      none -- none
    else
     some (R11_4.e2 (z2643) (z2644) (l2646))
theorem L11_4_ok (m : Nat) : ∀ (n : Nat) (z2643 : Int) (z2644 : Int) (z2645 : Int) (l2646 : List (List V)) (r : R11_4), L11_4 n z2643 z2644 z2645 l2646 = some r → ∃ st, loopFrom Try.prog X (genO X (call Try.prog X O0 18446744073709551616 (m + 10))) 11 (0) 18446744073709551616 B11 4 n ({ T := U :: i64 z2643 :: U :: V.hs 0 0 3 :: i64 z2644 :: i64 z2645 :: un 45 [], σ := [Ob.cells true true 2 l2646] }) = some st ∧ r.St st
  | 0, _, _, _, _, r, h => by cases h
  | n + 1, z2643, z2644, z2645, l2646, r, h => by
    rw [L11_4] at h
    rcases ite_eq h with ⟨h0, h⟩ | ⟨h0, h⟩
    · skip
      rcases ite_eq h with ⟨h1, h⟩ | ⟨h1, h⟩
      · skip
        obtain ⟨r2, h2, h⟩ := Option.bind_eq_some_iff.mp h
        have h2 := F42_ok (m + 0) (List.take 3 l2646) (w64 (Int.tdiv (w64 (z2644 * 65536)) 16)) (w64 (w64 (Int.tdiv (w64 (z2645 * 65536)) 16) + 1)) r2 h2
        cases r2 with
        | a0 b2845 =>
          rcases ite_eq h with ⟨h3, h⟩ | ⟨h3, h⟩
          · skip
            cases h
            exact ⟨_, round_out (gs := [.t, .a, .a, .t, .an (vb b2845) [], .t, .t, .t, .t, .t, .t, .t, .t, .t, .t, .a]) (notIn []) (by kernel_rfl) rfl (And.intro (decide_eq_true h0) (And.intro (decide_eq_true h1) (And.intro h2 (And.intro h3 (And.intro h3 (And.intro h3 (And.intro h3 (And.intro h3 (And.intro h3 (And.intro h3 (And.intro h3 (And.intro h3 (And.intro h3 True.intro))))))))))))) n, z2643, z2644, z2645, decide (z2645 < 18), w64 (z2644 * 65536), w64 (Int.tdiv (w64 (z2644 * 65536)) 16), w64 (z2645 * 65536), w64 (Int.tdiv (w64 (z2645 * 65536)) 16), w64 (w64 (Int.tdiv (w64 (z2645 * 65536)) 16) + 1), b2845, !b2845, l2646, rfl⟩
          · skip
            obtain ⟨r4, h4, h⟩ := Option.bind_eq_some_iff.mp h
            have h4 := F42_ok (m + 0) (List.take 3 l2646) (w64 (Int.tdiv (w64 (z2644 * 65536)) 16)) (w64 (Int.tdiv (w64 (z2645 * 65536)) 16)) r4 h4
            cases r4 with
            | a0 b2858 =>
              rcases ite_eq h with ⟨h5, h⟩ | ⟨h5, h⟩
              · skip
                cases h
                exact ⟨_, round_out (gs := [.t, .a, .a, .t, .an (vb b2845) [], .f, .f, .f, .f, .a, .f, .f, .f, .a, .f, .t, .an (vb b2858) [], .f, .f, .t]) (notIn []) (by kernel_rfl) rfl (And.intro (decide_eq_true h0) (And.intro (decide_eq_true h1) (And.intro h2 (And.intro (Bool.eq_false_iff.mpr h3) (And.intro (Bool.eq_false_iff.mpr h3) (And.intro (Bool.eq_false_iff.mpr h3) (And.intro (Bool.eq_false_iff.mpr h3) (And.intro (Bool.eq_false_iff.mpr h3) (And.intro (Bool.eq_false_iff.mpr h3) (And.intro (Bool.eq_false_iff.mpr h3) (And.intro (Bool.eq_false_iff.mpr h3) (And.intro (decide_eq_true h1) (And.intro h4 (And.intro (Bool.eq_false_iff.mpr h3) (And.intro (Bool.eq_false_iff.mpr h3) (And.intro h5 True.intro)))))))))))))))) n, z2643, z2644, z2645, decide (z2645 < 18), w64 (z2644 * 65536), w64 (Int.tdiv (w64 (z2644 * 65536)) 16), w64 (z2645 * 65536), w64 (Int.tdiv (w64 (z2645 * 65536)) 16), w64 (w64 (Int.tdiv (w64 (z2645 * 65536)) 16) + 1), b2845, !b2845, b2858, !b2858, l2646, rfl⟩
              · skip
                obtain ⟨st, hs, hr⟩ := L11_4_ok m n (z2643) (z2644) (w64 (z2645 + 3)) (l2646) r h
                exact ⟨st, (round_on (gs := [.t, .a, .a, .t, .an (vb b2845) [], .f, .f, .f, .f, .a, .f, .f, .f, .a, .f, .t, .an (vb b2858) [], .f, .f, .f]) (notIn []) (by kernel_rfl) (And.intro (decide_eq_true h0) (And.intro (decide_eq_true h1) (And.intro h2 (And.intro (Bool.eq_false_iff.mpr h3) (And.intro (Bool.eq_false_iff.mpr h3) (And.intro (Bool.eq_false_iff.mpr h3) (And.intro (Bool.eq_false_iff.mpr h3) (And.intro (Bool.eq_false_iff.mpr h3) (And.intro (Bool.eq_false_iff.mpr h3) (And.intro (Bool.eq_false_iff.mpr h3) (And.intro (Bool.eq_false_iff.mpr h3) (And.intro (decide_eq_true h1) (And.intro h4 (And.intro (Bool.eq_false_iff.mpr h3) (And.intro (Bool.eq_false_iff.mpr h3) (And.intro (Bool.eq_false_iff.mpr h5) True.intro)))))))))))))))) n).trans hs, hr⟩
      · skip
        cases h
    · skip
      cases h
      exact ⟨_, round_out (gs := [.f]) (notIn []) (by kernel_rfl) rfl (And.intro (decide_eq_false h0) True.intro) n, z2645, decide (z2645 < 18), rfl⟩
inductive R11_2 where
  | e0
  | e1
  | e2 (z2935 : Int)
@[reducible] def s11_2_0 (z2890 : Int) (z2891 : Int) (z2892 : Int) (b2893 : Bool) (z2894 : Int) (z2895 : Int) (z2896 : Int) (z2897 : Int) (z2898 : Int) (b2899 : Bool) (b2900 : Bool) (l2901 : List (List V)) : S := { T := vb false :: i64 z2890 :: U :: V.hs 0 0 3 :: i64 z2891 :: i64 z2892 :: un 16 (i64 z2892 :: vb b2893 :: U :: U :: V.hs 0 0 3 :: i64 z2891 :: i64 z2894 :: i64 z2895 :: i64 z2892 :: i64 z2896 :: i64 z2897 :: i64 z2898 :: vb b2899 :: vb b2900 :: vb b2900 :: E :: E :: E :: E :: E :: E :: E :: E :: E :: vb true :: un 4 []), σ := [Ob.cells true true 2 l2901] }
@[reducible] def s11_2_1 (z2916 : Int) (z2917 : Int) (z2918 : Int) (b2919 : Bool) (z2920 : Int) (z2921 : Int) (z2922 : Int) (z2923 : Int) (z2924 : Int) (b2925 : Bool) (b2926 : Bool) (b2927 : Bool) (b2928 : Bool) (l2929 : List (List V)) : S := { T := vb false :: i64 z2916 :: U :: V.hs 0 0 3 :: i64 z2917 :: i64 z2918 :: un 16 (i64 z2918 :: vb b2919 :: U :: U :: V.hs 0 0 3 :: i64 z2917 :: i64 z2920 :: i64 z2921 :: i64 z2918 :: i64 z2922 :: i64 z2923 :: i64 z2924 :: vb b2925 :: vb b2926 :: vb b2926 :: V.hs 0 0 3 :: i64 z2917 :: i64 z2920 :: i64 z2921 :: i64 z2918 :: i64 z2922 :: i64 z2923 :: vb b2927 :: vb b2928 :: vb b2928 :: un 4 []), σ := [Ob.cells true true 2 l2929] }
@[reducible] def s11_2_2 (z2935 : Int) (z2936 : Int) (b2937 : Bool) (l2938 : List (List V)) : S := { T := U :: i64 z2935 :: U :: V.hs 0 0 3 :: i64 z2936 :: un 13 (i64 z2936 :: vb b2937 :: un 31 []), σ := [Ob.cells true true 2 l2938] }
def R11_2.St : R11_2 → VX × S → Prop
  | .e0, p => ∃ z2890 : Int, ∃ z2891 : Int, ∃ z2892 : Int, ∃ b2893 : Bool, ∃ z2894 : Int, ∃ z2895 : Int, ∃ z2896 : Int, ∃ z2897 : Int, ∃ z2898 : Int, ∃ b2899 : Bool, ∃ b2900 : Bool, ∃ l2901 : List (List V), p = (VX.ret, s11_2_0 z2890 z2891 z2892 b2893 z2894 z2895 z2896 z2897 z2898 b2899 b2900 l2901)
  | .e1, p => ∃ z2916 : Int, ∃ z2917 : Int, ∃ z2918 : Int, ∃ b2919 : Bool, ∃ z2920 : Int, ∃ z2921 : Int, ∃ z2922 : Int, ∃ z2923 : Int, ∃ z2924 : Int, ∃ b2925 : Bool, ∃ b2926 : Bool, ∃ b2927 : Bool, ∃ b2928 : Bool, ∃ l2929 : List (List V), p = (VX.ret, s11_2_1 z2916 z2917 z2918 b2919 z2920 z2921 z2922 z2923 z2924 b2925 b2926 b2927 b2928 l2929)
  | .e2 z2935, p => ∃ z2936 : Int, ∃ b2937 : Bool, ∃ l2938 : List (List V), p = (VX.exit 2, s11_2_2 z2935 z2936 b2937 l2938)
def L11_2 : Nat → Int → Int → List (List V) → Option R11_2
  | 0, _, _, _ => none
  | n + 1, z2640, z2641, l2642 =>
    if z2641 < 18 then
     (L11_4 18446744073709551616 (z2640) (z2641) (-1) (l2642)).bind fun r => match r with
     | .e0 =>
      some (R11_2.e0)
     | .e1 =>
      some (R11_2.e1)
     | .e2 z2930 z2931 l2934 =>
      L11_2 n (z2930) (w64 (z2931 + 1)) (l2934)
    else
     some (R11_2.e2 (z2640))
theorem L11_2_ok (m : Nat) : ∀ (n : Nat) (z2640 : Int) (z2641 : Int) (l2642 : List (List V)) (r : R11_2), L11_2 n z2640 z2641 l2642 = some r → ∃ st, loopFrom Try.prog X (genO X (call Try.prog X O0 18446744073709551616 (m + 10))) 11 (0) 18446744073709551616 B11 2 n ({ T := U :: i64 z2640 :: U :: V.hs 0 0 3 :: i64 z2641 :: un 46 [], σ := [Ob.cells true true 2 l2642] }) = some st ∧ r.St st
  | 0, _, _, _, r, h => by cases h
  | n + 1, z2640, z2641, l2642, r, h => by
    rw [L11_2] at h
    rcases ite_eq h with ⟨h0, h⟩ | ⟨h0, h⟩
    · skip
      obtain ⟨r1, h1, h⟩ := Option.bind_eq_some_iff.mp h
      obtain ⟨st1, h1, hr1⟩ := L11_4_ok m 18446744073709551616 (z2640) (z2641) (-1) (l2642) r1 h1
      have h1 : loopRun Try.prog X (genO X (call Try.prog X O0 18446744073709551616 (m + 10))) 11 (0) 18446744073709551616 B11 4 ({ T := U :: i64 z2640 :: U :: V.hs 0 0 3 :: i64 z2641 :: i64 (-1) :: un 12 (i64 z2641 :: vb (decide (z2641 < 18)) :: un 31 []), σ := [Ob.cells true true 2 l2642] }) = some st1 := by
        rw [loopRun_from, show pre X 11 (0) 4 ({ T := U :: i64 z2640 :: U :: V.hs 0 0 3 :: i64 z2641 :: i64 (-1) :: un 12 (i64 z2641 :: vb (decide (z2641 < 18)) :: un 31 []), σ := [Ob.cells true true 2 l2642] }) = { T := U :: i64 z2640 :: U :: V.hs 0 0 3 :: i64 z2641 :: i64 (-1) :: un 45 [], σ := [Ob.cells true true 2 l2642] } by kernel_rfl]
        exact h1
      cases r1 with
      | e0 =>
        obtain ⟨z2878, z2879, z2880, b2881, z2882, z2883, z2884, z2885, z2886, b2887, b2888, l2889, rfl⟩ := hr1
        cases h
        exact ⟨_, round_out (gs := [.t, .lp (VX.ret) (s11_4_0 z2878 z2879 z2880 b2881 z2882 z2883 z2884 z2885 z2886 b2887 b2888 l2889)]) (notIn []) (by kernel_rfl) rfl (And.intro (decide_eq_true h0) (And.intro h1 True.intro)) n, z2878, z2879, z2880, b2881, z2882, z2883, z2884, z2885, z2886, b2887, b2888, l2889, rfl⟩
      | e1 =>
        obtain ⟨z2902, z2903, z2904, b2905, z2906, z2907, z2908, z2909, z2910, b2911, b2912, b2913, b2914, l2915, rfl⟩ := hr1
        cases h
        exact ⟨_, round_out (gs := [.t, .lp (VX.ret) (s11_4_1 z2902 z2903 z2904 b2905 z2906 z2907 z2908 z2909 z2910 b2911 b2912 b2913 b2914 l2915)]) (notIn []) (by kernel_rfl) rfl (And.intro (decide_eq_true h0) (And.intro h1 True.intro)) n, z2902, z2903, z2904, b2905, z2906, z2907, z2908, z2909, z2910, b2911, b2912, b2913, b2914, l2915, rfl⟩
      | e2 z2930 z2931 l2934 =>
        obtain ⟨z2932, b2933, rfl⟩ := hr1
        obtain ⟨st, hs, hr⟩ := L11_2_ok m n (z2930) (w64 (z2931 + 1)) (l2934) r h
        exact ⟨st, (round_on (gs := [.t, .lp (VX.exit 4) (s11_4_2 z2930 z2931 z2932 b2933 l2934)]) (notIn []) (by kernel_rfl) (And.intro (decide_eq_true h0) (And.intro h1 True.intro)) n).trans hs, hr⟩
    · skip
      cases h
      exact ⟨_, round_out (gs := [.f]) (notIn []) (by kernel_rfl) rfl (And.intro (decide_eq_false h0) True.intro) n, z2641, decide (z2641 < 18), l2642, rfl⟩
inductive R11_0 where
  | e0
  | e1
  | e2
@[reducible] def s11_0_0 (z2951 : Int) (z2952 : Int) (z2953 : Int) (b2954 : Bool) (z2955 : Int) (z2956 : Int) (z2957 : Int) (z2958 : Int) (z2959 : Int) (b2960 : Bool) (b2961 : Bool) (l2962 : List (List V)) : S := { T := vb false :: i64 z2951 :: U :: V.hs 0 0 3 :: i64 z2952 :: i64 z2953 :: un 16 (i64 z2953 :: vb b2954 :: U :: U :: V.hs 0 0 3 :: i64 z2952 :: i64 z2955 :: i64 z2956 :: i64 z2953 :: i64 z2957 :: i64 z2958 :: i64 z2959 :: vb b2960 :: vb b2961 :: vb b2961 :: E :: E :: E :: E :: E :: E :: E :: E :: E :: vb true :: un 4 []), σ := [Ob.cells true true 2 l2962] }
@[reducible] def s11_0_1 (z2977 : Int) (z2978 : Int) (z2979 : Int) (b2980 : Bool) (z2981 : Int) (z2982 : Int) (z2983 : Int) (z2984 : Int) (z2985 : Int) (b2986 : Bool) (b2987 : Bool) (b2988 : Bool) (b2989 : Bool) (l2990 : List (List V)) : S := { T := vb false :: i64 z2977 :: U :: V.hs 0 0 3 :: i64 z2978 :: i64 z2979 :: un 16 (i64 z2979 :: vb b2980 :: U :: U :: V.hs 0 0 3 :: i64 z2978 :: i64 z2981 :: i64 z2982 :: i64 z2979 :: i64 z2983 :: i64 z2984 :: i64 z2985 :: vb b2986 :: vb b2987 :: vb b2987 :: V.hs 0 0 3 :: i64 z2978 :: i64 z2981 :: i64 z2982 :: i64 z2979 :: i64 z2983 :: i64 z2984 :: vb b2988 :: vb b2989 :: vb b2989 :: un 4 []), σ := [Ob.cells true true 2 l2990] }
@[reducible] def s11_0_2 (z2995 : Int) (b2996 : Bool) : S := { T := U :: i64 z2995 :: un 4 (i64 z2995 :: vb b2996 :: un 43 []), σ := [] }
def R11_0.St : R11_0 → VX × S → Prop
  | .e0, p => ∃ z2951 : Int, ∃ z2952 : Int, ∃ z2953 : Int, ∃ b2954 : Bool, ∃ z2955 : Int, ∃ z2956 : Int, ∃ z2957 : Int, ∃ z2958 : Int, ∃ z2959 : Int, ∃ b2960 : Bool, ∃ b2961 : Bool, ∃ l2962 : List (List V), p = (VX.ret, s11_0_0 z2951 z2952 z2953 b2954 z2955 z2956 z2957 z2958 z2959 b2960 b2961 l2962)
  | .e1, p => ∃ z2977 : Int, ∃ z2978 : Int, ∃ z2979 : Int, ∃ b2980 : Bool, ∃ z2981 : Int, ∃ z2982 : Int, ∃ z2983 : Int, ∃ z2984 : Int, ∃ z2985 : Int, ∃ b2986 : Bool, ∃ b2987 : Bool, ∃ b2988 : Bool, ∃ b2989 : Bool, ∃ l2990 : List (List V), p = (VX.ret, s11_0_1 z2977 z2978 z2979 b2980 z2981 z2982 z2983 z2984 z2985 b2986 b2987 b2988 b2989 l2990)
  | .e2, p => ∃ z2995 : Int, ∃ b2996 : Bool, p = (VX.exit 0, s11_0_2 z2995 b2996)
def L11_0 : Nat → Int → Option R11_0
  | 0, _ => none
  | n + 1, z2600 =>
    if z2600 < 30 then
     (F41 (z2600)).bind fun r => match r with
     | .a0 k2830 z2831 l2832 =>
      (F28v1 (k2830) (z2831) (l2832)).bind fun r => match r with
      | .a0 b2833 k2834 k2835 z2836 l2837 l2838 =>
       (F28v1 (k2835) (z2836) (l2837)).bind fun r => match r with
       | .a0 b2839 k2840 k2841 z2842 l2843 l2844 =>
        if 0 + k2834 ≤ List.length l2838 then
         if 0 + k2840 ≤ List.length l2844 then
          (L11_2 18446744073709551616 (z2600) (-1) ([[vb b2833, V.list 2 (List.take k2834 l2838)], [vb b2839, V.list 2 (List.take k2840 l2844)], [vb false, V.list 2 []]])).bind fun r => match r with
          | .e0 =>
           some (R11_0.e0)
          | .e1 =>
           some (R11_0.e1)
          | .e2 z2991 =>
           L11_0 n (w64 (z2991 + 1))
         else
          none -- none
        else
         none -- none
    else
     some (R11_0.e2)
theorem L11_0_ok (m : Nat) : ∀ (n : Nat) (z2600 : Int) (r : R11_0), L11_0 n z2600 = some r → ∃ st, loopFrom Try.prog X (genO X (call Try.prog X O0 18446744073709551616 (m + 10))) 11 (0) 18446744073709551616 B11 0 n ({ T := U :: i64 z2600 :: un 49 [], σ := [] }) = some st ∧ r.St st
  | 0, _, r, h => by cases h
  | n + 1, z2600, r, h => by
    rw [L11_0] at h
    rcases ite_eq h with ⟨h0, h⟩ | ⟨h0, h⟩
    · skip
      obtain ⟨r1, h1, h⟩ := Option.bind_eq_some_iff.mp h
      have h1 := F41_ok (m + 9) (z2600) r1 h1
      cases r1 with
      | a0 k2830 z2831 l2832 =>
        obtain ⟨r2, h2, h⟩ := Option.bind_eq_some_iff.mp h
        have h2 := F28v1_ok (m + 6) (k2830) (z2831) (l2832) r2 h2
        cases r2 with
        | a0 b2833 k2834 k2835 z2836 l2837 l2838 =>
          obtain ⟨r3, h3, h⟩ := Option.bind_eq_some_iff.mp h
          have h3 := F28v1_ok (m + 6) (k2835) (z2836) (l2837) r3 h3
          cases r3 with
          | a0 b2839 k2840 k2841 z2842 l2843 l2844 =>
            rcases ite_eq h with ⟨h4, h⟩ | ⟨h4, h⟩
            · skip
              rcases ite_eq h with ⟨h5, h⟩ | ⟨h5, h⟩
              · skip
                obtain ⟨r6, h6, h⟩ := Option.bind_eq_some_iff.mp h
                obtain ⟨st6, h6, hr6⟩ := L11_2_ok m 18446744073709551616 (z2600) (-1) ([[vb b2833, V.list 2 (List.take k2834 l2838)], [vb b2839, V.list 2 (List.take k2840 l2844)], [vb false, V.list 2 []]]) r6 h6
                have h6 : loopRun Try.prog X (genO X (call Try.prog X O0 18446744073709551616 (m + 10))) 11 (0) 18446744073709551616 B11 2 ({ T := U :: i64 z2600 :: V.ptr 0 0 0 :: V.hs 7 0 3 :: i64 (-1) :: U :: i64 z2600 :: vb (decide (z2600 < 30)) :: U :: U :: i64 z2600 :: V.ptr 0 0 0 :: V.ptr 0 0 0 :: V.agg [vb b2833, V.hs 5 0 k2834] :: V.ptr 0 0 0 :: V.agg [vb b2839, V.hs 6 0 k2840] :: V.agg [vb false, V.nilS] :: V.hs 7 0 3 :: un 33 [], σ := [Ob.cells true false 2 [[V.hs 1 0 k2841, i64 z2842]], Ob.cells true true 1 l2843, Ob.vir, Ob.vir, Ob.vir, Ob.cells false true 2 l2838, Ob.cells false true 2 l2844, Ob.cells true true 2 [[vb b2833, V.list 2 (List.take k2834 l2838)], [vb b2839, V.list 2 (List.take k2840 l2844)], [vb false, V.list 2 []]]] }) = some st6 := by
                  rw [loopRun_from, show pre X 11 (0) 2 ({ T := U :: i64 z2600 :: V.ptr 0 0 0 :: V.hs 7 0 3 :: i64 (-1) :: U :: i64 z2600 :: vb (decide (z2600 < 30)) :: U :: U :: i64 z2600 :: V.ptr 0 0 0 :: V.ptr 0 0 0 :: V.agg [vb b2833, V.hs 5 0 k2834] :: V.ptr 0 0 0 :: V.agg [vb b2839, V.hs 6 0 k2840] :: V.agg [vb false, V.nilS] :: V.hs 7 0 3 :: un 33 [], σ := [Ob.cells true false 2 [[V.hs 1 0 k2841, i64 z2842]], Ob.cells true true 1 l2843, Ob.vir, Ob.vir, Ob.vir, Ob.cells false true 2 l2838, Ob.cells false true 2 l2844, Ob.cells true true 2 [[vb b2833, V.list 2 (List.take k2834 l2838)], [vb b2839, V.list 2 (List.take k2840 l2844)], [vb false, V.list 2 []]]] }) = { T := U :: i64 z2600 :: U :: V.hs 0 0 3 :: i64 (-1) :: un 46 [], σ := [Ob.cells true true 2 [[vb b2833, V.list 2 (List.take k2834 l2838)], [vb b2839, V.list 2 (List.take k2840 l2844)], [vb false, V.list 2 []]]] } by kernel_rfl]
                  exact h6
                cases r6 with
                | e0 =>
                  obtain ⟨z2939, z2940, z2941, b2942, z2943, z2944, z2945, z2946, z2947, b2948, b2949, l2950, rfl⟩ := hr6
                  cases h
                  exact ⟨_, round_out (gs := [.t, .an (V.ptr 0 0 0) [Ob.cells true false 2 [[V.hs 1 0 k2830, i64 z2831]], Ob.cells true true 1 l2832], .an (V.agg [vb b2833, V.hs 2 0 k2834]) [Ob.cells true false 2 [[V.hs 1 0 k2835, i64 z2836]], Ob.cells true true 1 l2837, Ob.cells true true 2 l2838], .an (V.agg [vb b2839, V.hs 2 0 k2840]) [Ob.cells true false 2 [[V.hs 1 0 k2841, i64 z2842]], Ob.cells true true 1 l2843, Ob.cells true true 2 l2844], .t, .t, .lp (VX.ret) (s11_2_0 z2939 z2940 z2941 b2942 z2943 z2944 z2945 z2946 z2947 b2948 b2949 l2950)]) (notIn []) (by kernel_rfl) rfl (And.intro (decide_eq_true h0) (And.intro h1 (And.intro h2 (And.intro h3 (And.intro (decide_eq_true h4) (And.intro (decide_eq_true h5) (And.intro h6 True.intro))))))) n, z2939, z2940, z2941, b2942, z2943, z2944, z2945, z2946, z2947, b2948, b2949, l2950, rfl⟩
                | e1 =>
                  obtain ⟨z2963, z2964, z2965, b2966, z2967, z2968, z2969, z2970, z2971, b2972, b2973, b2974, b2975, l2976, rfl⟩ := hr6
                  cases h
                  exact ⟨_, round_out (gs := [.t, .an (V.ptr 0 0 0) [Ob.cells true false 2 [[V.hs 1 0 k2830, i64 z2831]], Ob.cells true true 1 l2832], .an (V.agg [vb b2833, V.hs 2 0 k2834]) [Ob.cells true false 2 [[V.hs 1 0 k2835, i64 z2836]], Ob.cells true true 1 l2837, Ob.cells true true 2 l2838], .an (V.agg [vb b2839, V.hs 2 0 k2840]) [Ob.cells true false 2 [[V.hs 1 0 k2841, i64 z2842]], Ob.cells true true 1 l2843, Ob.cells true true 2 l2844], .t, .t, .lp (VX.ret) (s11_2_1 z2963 z2964 z2965 b2966 z2967 z2968 z2969 z2970 z2971 b2972 b2973 b2974 b2975 l2976)]) (notIn []) (by kernel_rfl) rfl (And.intro (decide_eq_true h0) (And.intro h1 (And.intro h2 (And.intro h3 (And.intro (decide_eq_true h4) (And.intro (decide_eq_true h5) (And.intro h6 True.intro))))))) n, z2963, z2964, z2965, b2966, z2967, z2968, z2969, z2970, z2971, b2972, b2973, b2974, b2975, l2976, rfl⟩
                | e2 z2991 =>
                  obtain ⟨z2992, b2993, l2994, rfl⟩ := hr6
                  obtain ⟨st, hs, hr⟩ := L11_0_ok m n (w64 (z2991 + 1)) r h
                  exact ⟨st, (round_on (gs := [.t, .an (V.ptr 0 0 0) [Ob.cells true false 2 [[V.hs 1 0 k2830, i64 z2831]], Ob.cells true true 1 l2832], .an (V.agg [vb b2833, V.hs 2 0 k2834]) [Ob.cells true false 2 [[V.hs 1 0 k2835, i64 z2836]], Ob.cells true true 1 l2837, Ob.cells true true 2 l2838], .an (V.agg [vb b2839, V.hs 2 0 k2840]) [Ob.cells true false 2 [[V.hs 1 0 k2841, i64 z2842]], Ob.cells true true 1 l2843, Ob.cells true true 2 l2844], .t, .t, .lp (VX.exit 2) (s11_2_2 z2991 z2992 b2993 l2994)]) (notIn []) (by kernel_rfl) (And.intro (decide_eq_true h0) (And.intro h1 (And.intro h2 (And.intro h3 (And.intro (decide_eq_true h4) (And.intro (decide_eq_true h5) (And.intro h6 True.intro))))))) n).trans hs, hr⟩
              · skip
                cases h
            · skip
              cases h
    · skip
      cases h
      exact ⟨_, round_out (gs := [.f]) (notIn []) (by kernel_rfl) rfl (And.intro (decide_eq_false h0) True.intro) n, z2600, decide (z2600 < 30), rfl⟩
inductive A11 where
  | a0 (b3027 : Bool)
@[reducible] def A11.out : A11 → V × Store
  | .a0 b3027 => (vb b3027, [])
def F11 : Option A11 :=
  (L11_0 18446744073709551616 (0)).bind fun r => match r with
  | .e0 =>
   none -- false
  | .e1 =>
   none -- false
  | .e2 =>
   (F42 ([]) (0) (1)).bind fun r => match r with
   | .a0 b3025 =>
    if (b3025) = true then
     (F30).bind fun r => match r with
     | .a0 b3026 =>
      some (A11.a0 (b3026))
    else
     none -- false
theorem F11_ok (m : Nat) (r : A11) (h : F11 = some r) : call Try.prog X O0 18446744073709551616 (m + 11) 11 ([]) ([]) = some r.out := by
  unfold F11 at h
  obtain ⟨r0, h0, h⟩ := Option.bind_eq_some_iff.mp h
  obtain ⟨st0, h0, hr0⟩ := L11_0_ok m 18446744073709551616 (0) r0 h0
  have h0 : loopRun Try.prog X (genO X (call Try.prog X O0 18446744073709551616 (m + 10))) 11 (0) 18446744073709551616 B11 0 ({ T := vb false :: i64 0 :: un 49 [], σ := [] }) = some st0 := by
    rw [loopRun_from, show pre X 11 (0) 0 ({ T := vb false :: i64 0 :: un 49 [], σ := [] }) = { T := U :: i64 0 :: un 49 [], σ := [] } by kernel_rfl]
    exact h0
  cases r0 with
  | e0 =>
    obtain ⟨z2997, z2998, z2999, b3000, z3001, z3002, z3003, z3004, z3005, b3006, b3007, l3008, rfl⟩ := hr0
    cases h
  | e1 =>
    obtain ⟨z3009, z3010, z3011, b3012, z3013, z3014, z3015, z3016, z3017, b3018, b3019, b3020, b3021, l3022, rfl⟩ := hr0
    cases h
  | e2 =>
    obtain ⟨z3023, b3024, rfl⟩ := hr0
    obtain ⟨r1, h1, h⟩ := Option.bind_eq_some_iff.mp h
    have h1 := F42_ok (m + 0) ([]) (0) (1) r1 h1
    cases r1 with
    | a0 b3025 =>
      rcases ite_eq h with ⟨h2, h⟩ | ⟨h2, h⟩
      · skip
        obtain ⟨r3, h3, h⟩ := Option.bind_eq_some_iff.mp h
        have h3 := F30_ok (m + 2) r3 h3
        cases r3 with
        | a0 b3026 =>
          cases h
          exact call_pathL (gs := [.lp (VX.exit 0) (s11_0_2 z3023 b3024), .an (vb b3025) [], .t, .an (vb b3026) [], .t]) (notIn []) rfl rfl (by kernel_rfl) (And.intro h0 (And.intro h1 (And.intro h2 (And.intro h3 (And.intro h2 True.intro)))))
      · skip
        cases h

end Go.Proofs.Ythohhdcngdmbeaa.H
