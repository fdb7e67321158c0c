/- What the functions compute, and that they do so over the machine of plain values (printed by this session's program wip/vm/Walk.lean). No condition beyond those stated. -/
import Derived.Test.YtojigbcgmneiiaaWk
import Derived.Test.YtojigbcgmneiiaaPDb
set_option linter.unusedVariables false
set_option linter.unusedSimpArgs false
namespace Go.Proofs.Ytojigbcgmneiiaa.H
open Go Go.VM
set_option maxRecDepth 100000
/-! ## 23 -/
inductive A23 where
  | a0 (b2044 : Bool)
@[reducible] def A23.out : A23 → V × Store
  | .a0 b2044 => (vb b2044, [])
def F23 (b961 : Bool) (l962 : List (List V)) (l963 : List (List V)) : Option A23 :=
  (F30 (l963)).bind fun r => match r with
  | .a0 b965 =>
   (F43 (l963)).bind fun r => match r with
   | .a0 b1037 =>
    if (b965 == b1037) = true then
     (F12 (b961) (l962) (l963)).bind fun r => match r with
     | .a0 k1038 l1039 =>
      (F44 (b961) (l962) (l963)).bind fun r => match r with
      | .a0 k1853 l1854 =>
       if 0 + k1038 ≤ List.length l1039 then
        if 0 + k1853 ≤ List.length l1854 then
         (F24 (List.take k1038 l1039) (List.take k1853 l1854)).bind fun r => match r with
         | .a0 b2043 =>
          some (A23.a0 (b2043))
        else
         none -- none
       else
        none -- none
    else
     some (A23.a0 (false))
theorem F23_ok (m : Nat) (b961 : Bool) (l962 : List (List V)) (l963 : List (List V)) (r : A23) (h : F23 b961 l962 l963 = some r) : call Try.prog X O0 18446744073709551616 (m + 10) 23 ([V.agg [vb b961, V.list 2 l962], V.list 1 l963]) ([]) = some r.out := by
  unfold F23 at h
  obtain ⟨r0, h0, h⟩ := Option.bind_eq_some_iff.mp h
  have h0 := F30_ok (m + 5) (l963) r0 h0
  cases r0 with
  | a0 b965 =>
    obtain ⟨r1, h1, h⟩ := Option.bind_eq_some_iff.mp h
    have h1 := F43_ok (m + 8) (l963) r1 h1
    cases r1 with
    | a0 b1037 =>
      rcases ite_eq h with ⟨h2, h⟩ | ⟨h2, h⟩
      · skip
        obtain ⟨r3, h3, h⟩ := Option.bind_eq_some_iff.mp h
        have h3 := F12_ok (m + 2) (b961) (l962) (l963) r3 h3
        cases r3 with
        | a0 k1038 l1039 =>
          obtain ⟨r4, h4, h⟩ := Option.bind_eq_some_iff.mp h
          have h4 := F44_ok (m + 0) (b961) (l962) (l963) r4 h4
          cases r4 with
          | a0 k1853 l1854 =>
            rcases ite_eq h with ⟨h5, h⟩ | ⟨h5, h⟩
            · skip
              rcases ite_eq h with ⟨h6, h⟩ | ⟨h6, h⟩
              · skip
                obtain ⟨r7, h7, h⟩ := Option.bind_eq_some_iff.mp h
                have h7 := F24_ok (m + 7) (List.take k1038 l1039) (List.take k1853 l1854) r7 h7
                cases r7 with
                | a0 b2043 =>
                  cases h
                  exact call_pathL (gs := [.an (vb b965) [], .an (vb b1037) [], .t, .a, .t, .t, .an (V.hs 0 0 k1038) [Ob.cells true true 2 l1039], .t, .a, .t, .t, .an (V.hs 0 0 k1853) [Ob.cells true true 2 l1854], .t, .t, .t, .an (vb b2043) [], .t, .ft [⟨0, [], []⟩, ⟨1, [], []⟩, ⟨2, [], []⟩, ⟨3, [], []⟩, ⟨4, [], []⟩, ⟨5, [], []⟩, ⟨6, [0], []⟩, ⟨7, [], []⟩, ⟨8, [1], [1]⟩, ⟨9, [0], []⟩, ⟨10, [], []⟩, ⟨11, [2], [2]⟩, ⟨12, [1, 2], []⟩, ⟨13, [], []⟩, ⟨14, [], []⟩]]) (notIn []) rfl rfl (by kernel_rfl) (And.intro h0 (And.intro h1 (And.intro h2 (And.intro h2 (And.intro h2 (And.intro h3 (And.intro h2 (And.intro h2 (And.intro h2 (And.intro h4 (And.intro h2 (And.intro (decide_eq_true h5) (And.intro (decide_eq_true h6) (And.intro h7 (And.intro h2 (And.intro (Eq.refl ([⟨0, [], []⟩, ⟨1, [], []⟩, ⟨2, [], []⟩, ⟨3, [], []⟩, ⟨4, [], []⟩, ⟨5, [], []⟩, ⟨6, [0], []⟩, ⟨7, [], []⟩, ⟨8, [1], [1]⟩, ⟨9, [0], []⟩, ⟨10, [], []⟩, ⟨11, [2], [2]⟩, ⟨12, [1, 2], []⟩, ⟨13, [], []⟩, ⟨14, [], []⟩] : List Foot)) True.intro))))))))))))))))
              · skip
                cases h
            · skip
              cases h
      · skip
        cases h
        exact call_pathL (gs := [.an (vb b965) [], .an (vb b1037) [], .f, .f, .f, .f, .f, .f, .f, .f, .ft [⟨0, [], []⟩, ⟨1, [], []⟩, ⟨2, [], []⟩, ⟨3, [], []⟩, ⟨4, [], []⟩, ⟨5, [], []⟩, ⟨6, [], []⟩, ⟨7, [], []⟩, ⟨8, [], []⟩, ⟨9, [], []⟩, ⟨10, [], []⟩, ⟨11, [], []⟩, ⟨12, [], []⟩, ⟨13, [], []⟩, ⟨14, [], []⟩]]) (notIn []) rfl rfl (by kernel_rfl) (And.intro h0 (And.intro h1 (And.intro (Bool.eq_false_iff.mpr h2) (And.intro (Bool.eq_false_iff.mpr h2) (And.intro (Bool.eq_false_iff.mpr h2) (And.intro (Bool.eq_false_iff.mpr h2) (And.intro (Bool.eq_false_iff.mpr h2) (And.intro (Bool.eq_false_iff.mpr h2) (And.intro (Bool.eq_false_iff.mpr h2) (And.intro (Bool.eq_false_iff.mpr h2) (And.intro (Eq.refl ([⟨0, [], []⟩, ⟨1, [], []⟩, ⟨2, [], []⟩, ⟨3, [], []⟩, ⟨4, [], []⟩, ⟨5, [], []⟩, ⟨6, [], []⟩, ⟨7, [], []⟩, ⟨8, [], []⟩, ⟨9, [], []⟩, ⟨10, [], []⟩, ⟨11, [], []⟩, ⟨12, [], []⟩, ⟨13, [], []⟩, ⟨14, [], []⟩] : List Foot)) True.intro)))))))))))
/-! ## 7 -/
noncomputable abbrev B7 : Code := (Try.f7.body).getD .skip
inductive R7_0 where
  | e0 (l2076 : List (List V)) (k2077 : Nat) (b2082 : Bool) (l2083 : List (List V)) (b2084 : Bool) (k2085 : Nat) (l2086 : List (List V)) (l2087 : List (List V))
  | e1 (l2088 : List (List V)) (k2089 : Nat) (b2093 : Bool) (l2094 : List (List V)) (b2095 : Bool) (k2096 : Nat) (l2097 : List (List V)) (l2098 : List (List V))
@[reducible] def s7_0_0 (l2076 : List (List V)) (k2077 : Nat) (z2078 : Int) (z2079 : Int) (b2080 : Bool) (b2081 : Bool) (b2082 : Bool) (l2083 : List (List V)) (b2084 : Bool) (k2085 : Nat) (l2086 : List (List V)) (l2087 : List (List V)) : S := { T := U :: V.list 1 l2076 :: U :: U :: U :: V.ptr 0 0 0 :: U :: V.ptr 1 0 0 :: V.hs 2 0 k2077 :: i64 z2078 :: un 9 (i64 z2078 :: V.list 1 l2076 :: i64 z2079 :: vb b2080 :: vb b2080 :: i64 z2078 :: vb b2081 :: vb b2081 :: un 35 []), σ := [Ob.cells true false 2 [[vb b2082, V.list 2 l2083]], Ob.cells true false 2 [[vb b2084, V.hs 3 0 k2085]], Ob.cells true true 1 l2086, Ob.cells true true 2 l2087] }
@[reducible] def s7_0_1 (l2088 : List (List V)) (k2089 : Nat) (z2090 : Int) (z2091 : Int) (b2092 : Bool) (b2093 : Bool) (l2094 : List (List V)) (b2095 : Bool) (k2096 : Nat) (l2097 : List (List V)) (l2098 : List (List V)) : S := { T := U :: V.list 1 l2088 :: U :: U :: U :: V.ptr 0 0 0 :: U :: V.ptr 1 0 0 :: V.hs 2 0 k2089 :: i64 z2090 :: un 9 (i64 z2090 :: V.list 1 l2088 :: i64 z2091 :: vb b2092 :: vb b2092 :: E :: E :: vb false :: un 35 []), σ := [Ob.cells true false 2 [[vb b2093, V.list 2 l2094]], Ob.cells true false 2 [[vb b2095, V.hs 3 0 k2096]], Ob.cells true true 1 l2097, Ob.cells true true 2 l2098] }
def R7_0.St : R7_0 → VX × S → Prop
  | .e0 l2076 k2077 b2082 l2083 b2084 k2085 l2086 l2087, p => ∃ z2078 : Int, ∃ z2079 : Int, ∃ b2080 : Bool, ∃ b2081 : Bool, p = (VX.exit 0, s7_0_0 l2076 k2077 z2078 z2079 b2080 b2081 b2082 l2083 b2084 k2085 l2086 l2087)
  | .e1 l2088 k2089 b2093 l2094 b2095 k2096 l2097 l2098, p => ∃ z2090 : Int, ∃ z2091 : Int, ∃ b2092 : Bool, p = (VX.exit 0, s7_0_1 l2088 k2089 z2090 z2091 b2092 b2093 l2094 b2095 k2096 l2097 l2098)
def L7_0 : Nat → List (List V) → Nat → Int → Bool → List (List V) → Bool → Nat → List (List V) → List (List V) → Option R7_0
  | 0, _, _, _, _, _, _, _, _, _ => none
  | n + 1, l936, k937, z938, b939, l940, b941, k942, l943, l944 =>
    if z938 < (↑(List.length l936) : Int) then
     if z938 < 8 then
      if 0 ≤ z938 then
       ((l936[Int.toNat z938]?).bind W2.dec).bind fun e2075 =>
       if 0 + k937 ≤ List.length l943 ∧ (k937 + 1) * 8 ≤ 140737488355328 ∧ k937 + 1 ≤ 140737488355328 then
        L7_0 n (l936) (k937 + 1) (w64 (z938 + 1)) (b939) (l940) (b941) (k942) (List.take k937 l943 ++ [[i64 (w64 (65536 + w64 (↑(BitVec.toNat (BitVec.ofInt (IntKind.bits IntKind.i64) e2075.c0 &&& BitVec.ofInt (IntKind.bits IntKind.i64) 262143)) : Int)))]]) (l944)
       else
        none -- none
      else
       none -- none
     else
      some (R7_0.e0 (l936) (k937) (b939) (l940) (b941) (k942) (l943) (l944))
    else
     some (R7_0.e1 (l936) (k937) (b939) (l940) (b941) (k942) (l943) (l944))
theorem L7_0_ok (m : Nat) : ∀ (n : Nat) (l936 : List (List V)) (k937 : Nat) (z938 : Int) (b939 : Bool) (l940 : List (List V)) (b941 : Bool) (k942 : Nat) (l943 : List (List V)) (l944 : List (List V)) (r : R7_0), L7_0 n l936 k937 z938 b939 l940 b941 k942 l943 l944 = some r → ∃ st, loopFrom Try.prog X (genO X (call Try.prog X O0 18446744073709551616 (m + 10))) 7 (0) 18446744073709551616 B7 0 n ({ T := U :: V.list 1 l936 :: U :: U :: U :: V.ptr 0 0 0 :: U :: V.ptr 1 0 0 :: V.hs 2 0 k937 :: i64 z938 :: un 52 [], σ := [Ob.cells true false 2 [[vb b939, V.list 2 l940]], Ob.cells true false 2 [[vb b941, V.hs 3 0 k942]], Ob.cells true true 1 l943, Ob.cells true true 2 l944] }) = some st ∧ r.St st
  | 0, _, _, _, _, _, _, _, _, _, r, h => by cases h
  | n + 1, l936, k937, z938, b939, l940, b941, k942, l943, l944, r, h => by
    rw [L7_0] at h
    rcases ite_eq h with ⟨h0, h⟩ | ⟨h0, h⟩
    · skip
      rcases ite_eq h with ⟨h1, h⟩ | ⟨h1, h⟩
      · skip
        rcases ite_eq h with ⟨h2, h⟩ | ⟨h2, h⟩
        · skip
          obtain ⟨e2075, h3, h⟩ := Option.bind_eq_some_iff.mp h
          rcases ite_eq h with ⟨h4, h⟩ | ⟨h4, h⟩
          · skip
            obtain ⟨st, hs, hr⟩ := L7_0_ok m n (l936) (k937 + 1) (w64 (z938 + 1)) (b939) (l940) (b941) (k942) (List.take k937 l943 ++ [[i64 (w64 (65536 + w64 (↑(BitVec.toNat (BitVec.ofInt (IntKind.bits IntKind.i64) e2075.c0 &&& BitVec.ofInt (IntKind.bits IntKind.i64) 262143)) : Int)))]]) (l944) r h
            exact ⟨st, (round_on (gs := [.t, .t, .t, .t, .t, .el (W2.cells e2075), .a, .t]) (notIn []) (by kernel_rfl) (And.intro (decide_eq_true h0) (And.intro (decide_eq_true h0) (And.intro (decide_eq_true h0) (And.intro (decide_eq_true h1) (And.intro (decide_eq_true h2) (And.intro (W2.dec_ok h3) (And.intro (decide_eq_true h4) True.intro))))))) n).trans hs, hr⟩
          · skip
            cases h
        · skip
          cases h
      · skip
        cases h
        exact ⟨_, round_out (gs := [.t, .t, .t, .f]) (notIn []) (by kernel_rfl) rfl (And.intro (decide_eq_true h0) (And.intro (decide_eq_true h0) (And.intro (decide_eq_true h0) (And.intro (decide_eq_false h1) True.intro)))) n, z938, (↑(List.length l936) : Int), decide (z938 < (↑(List.length l936) : Int)), decide (z938 < 8), rfl⟩
    · skip
      cases h
      exact ⟨_, round_out (gs := [.f, .f, .f, .a]) (notIn []) (by kernel_rfl) rfl (And.intro (decide_eq_false h0) (And.intro (decide_eq_false h0) (And.intro (decide_eq_false h0) True.intro))) n, z938, (↑(List.length l936) : Int), decide (z938 < (↑(List.length l936) : Int)), rfl⟩
inductive A7 where
  | a0 (b2115 : Bool)
@[reducible] def A7.out : A7 → V × Store
  | .a0 b2115 => (vb b2115, [])
def F7 (l919 : List (List V)) (l920 : List (List V)) (b921 : Bool) (l922 : List (List V)) : Option A7 :=
  (F11 (l919) (0)).bind fun r => match r with
  | .a0 b2070 k2071 l2072 z2073 l2074 =>
   if (↑(List.length l920) : Int) > 10 then
    if (0 : Int) ≤ (0 : Int) ∧ (0 : Int) ≤ (10 : Int) ∧ (10 : Int) ≤ (↑(List.length l920) : Int) then
     (L7_0 18446744073709551616 (List.take 10 l920) (0) (0) (b921) (l922) (b2070) (k2071) ([]) (l2074)).bind fun r => match r with
     | .e0 l2099 k2100 b2105 l2106 b2107 k2108 l2109 l2110 =>
      if (↑(List.length l2106) : Int) > 8 then
       if (0 : Int) ≤ (0 : Int) ∧ (0 : Int) ≤ (8 : Int) ∧ (8 : Int) ≤ (↑(List.length l2106) : Int) then
        if 0 + k2108 ≤ List.length l2110 then
         if 0 + k2100 ≤ List.length l2109 then
          (F23 (b2107) (List.take k2108 l2110) (List.take k2100 l2109)).bind fun r => match r with
          | .a0 b2111 =>
           if (b2111) = true then
            (F23 (b2107) (List.take k2108 l2110) (l2099)).bind fun r => match r with
            | .a0 b2112 =>
             if (b2112) = true then
              (F23 (b2105) (List.take 8 l2106) (List.take k2100 l2109)).bind fun r => match r with
              | .a0 b2113 =>
               if (b2113) = true then
                (F14).bind fun r => match r with
                | .a0 b2114 =>
                 some (A7.a0 (b2114))
               else
                none -- false
             else
              none -- false
           else
            none -- false
         else
          none -- none
        else
         none -- none
       else
        none -- none
      else
       if 0 + k2108 ≤ List.length l2110 then
        if 0 + k2100 ≤ List.length l2109 then
         (F23 (b2107) (List.take k2108 l2110) (List.take k2100 l2109)).bind fun r => match r with
         | .a0 b2116 =>
          if (b2116) = true then
           (F23 (b2107) (List.take k2108 l2110) (l2099)).bind fun r => match r with
           | .a0 b2117 =>
            if (b2117) = true then
             (F23 (b2105) (l2106) (List.take k2100 l2109)).bind fun r => match r with
             | .a0 b2118 =>
              if (b2118) = true then
               (F14).bind fun r => match r with
               | .a0 b2119 =>
                some (A7.a0 (b2119))
              else
               none -- false
            else
             none -- false
          else
           none -- false
        else
         none -- none
       else
        none -- none
     | .e1 l2120 k2121 b2125 l2126 b2127 k2128 l2129 l2130 =>
      if (↑(List.length l2126) : Int) > 8 then
       if (0 : Int) ≤ (0 : Int) ∧ (0 : Int) ≤ (8 : Int) ∧ (8 : Int) ≤ (↑(List.length l2126) : Int) then
        if 0 + k2128 ≤ List.length l2130 then
         if 0 + k2121 ≤ List.length l2129 then
          (F23 (b2127) (List.take k2128 l2130) (List.take k2121 l2129)).bind fun r => match r with
          | .a0 b2131 =>
           if (b2131) = true then
            (F23 (b2127) (List.take k2128 l2130) (l2120)).bind fun r => match r with
            | .a0 b2132 =>
             if (b2132) = true then
              (F23 (b2125) (List.take 8 l2126) (List.take k2121 l2129)).bind fun r => match r with
              | .a0 b2133 =>
               if (b2133) = true then
                (F14).bind fun r => match r with
                | .a0 b2134 =>
                 some (A7.a0 (b2134))
               else
                none -- false
             else
              none -- false
           else
            none -- false
         else
          none -- none
        else
         none -- none
       else
        none -- none
      else
       if 0 + k2128 ≤ List.length l2130 then
        if 0 + k2121 ≤ List.length l2129 then
         (F23 (b2127) (List.take k2128 l2130) (List.take k2121 l2129)).bind fun r => match r with
         | .a0 b2135 =>
          if (b2135) = true then
           (F23 (b2127) (List.take k2128 l2130) (l2120)).bind fun r => match r with
           | .a0 b2136 =>
            if (b2136) = true then
             (F23 (b2125) (l2126) (List.take k2121 l2129)).bind fun r => match r with
             | .a0 b2137 =>
              if (b2137) = true then
               (F14).bind fun r => match r with
               | .a0 b2138 =>
                some (A7.a0 (b2138))
              else
               none -- false
            else
             none -- false
          else
           none -- false
        else
         none -- none
       else
        none -- none
    else
     none -- none
   else
    (L7_0 18446744073709551616 (l920) (0) (0) (b921) (l922) (b2070) (k2071) ([]) (l2074)).bind fun r => match r with
    | .e0 l2139 k2140 b2145 l2146 b2147 k2148 l2149 l2150 =>
     if (↑(List.length l2146) : Int) > 8 then
      if (0 : Int) ≤ (0 : Int) ∧ (0 : Int) ≤ (8 : Int) ∧ (8 : Int) ≤ (↑(List.length l2146) : Int) then
       if 0 + k2148 ≤ List.length l2150 then
        if 0 + k2140 ≤ List.length l2149 then
         (F23 (b2147) (List.take k2148 l2150) (List.take k2140 l2149)).bind fun r => match r with
         | .a0 b2151 =>
          if (b2151) = true then
           (F23 (b2147) (List.take k2148 l2150) (l2139)).bind fun r => match r with
           | .a0 b2152 =>
            if (b2152) = true then
             (F23 (b2145) (List.take 8 l2146) (List.take k2140 l2149)).bind fun r => match r with
             | .a0 b2153 =>
              if (b2153) = true then
               (F14).bind fun r => match r with
               | .a0 b2154 =>
                some (A7.a0 (b2154))
              else
               none -- false
            else
             none -- false
          else
           none -- false
        else
         none -- none
       else
        none -- none
      else
       none -- none
     else
      if 0 + k2148 ≤ List.length l2150 then
       if 0 + k2140 ≤ List.length l2149 then
        (F23 (b2147) (List.take k2148 l2150) (List.take k2140 l2149)).bind fun r => match r with
        | .a0 b2155 =>
         if (b2155) = true then
          (F23 (b2147) (List.take k2148 l2150) (l2139)).bind fun r => match r with
          | .a0 b2156 =>
           if (b2156) = true then
            (F23 (b2145) (l2146) (List.take k2140 l2149)).bind fun r => match r with
            | .a0 b2157 =>
             if (b2157) = true then
              (F14).bind fun r => match r with
              | .a0 b2158 =>
               some (A7.a0 (b2158))
             else
              none -- false
           else
            none -- false
         else
          none -- false
       else
        none -- none
      else
       none -- none
    | .e1 l2159 k2160 b2164 l2165 b2166 k2167 l2168 l2169 =>
     if (↑(List.length l2165) : Int) > 8 then
      if (0 : Int) ≤ (0 : Int) ∧ (0 : Int) ≤ (8 : Int) ∧ (8 : Int) ≤ (↑(List.length l2165) : Int) then
       if 0 + k2167 ≤ List.length l2169 then
        if 0 + k2160 ≤ List.length l2168 then
         (F23 (b2166) (List.take k2167 l2169) (List.take k2160 l2168)).bind fun r => match r with
         | .a0 b2170 =>
          if (b2170) = true then
           (F23 (b2166) (List.take k2167 l2169) (l2159)).bind fun r => match r with
           | .a0 b2171 =>
            if (b2171) = true then
             (F23 (b2164) (List.take 8 l2165) (List.take k2160 l2168)).bind fun r => match r with
             | .a0 b2172 =>
              if (b2172) = true then
               (F14).bind fun r => match r with
               | .a0 b2173 =>
                some (A7.a0 (b2173))
              else
               none -- false
            else
             none -- false
          else
           none -- false
        else
         none -- none
       else
        none -- none
      else
       none -- none
     else
      if 0 + k2167 ≤ List.length l2169 then
       if 0 + k2160 ≤ List.length l2168 then
        (F23 (b2166) (List.take k2167 l2169) (List.take k2160 l2168)).bind fun r => match r with
        | .a0 b2174 =>
         if (b2174) = true then
          (F23 (b2166) (List.take k2167 l2169) (l2159)).bind fun r => match r with
          | .a0 b2175 =>
           if (b2175) = true then
            (F23 (b2164) (l2165) (List.take k2160 l2168)).bind fun r => match r with
            | .a0 b2176 =>
             if (b2176) = true then
              (F14).bind fun r => match r with
              | .a0 b2177 =>
               some (A7.a0 (b2177))
             else
              none -- false
           else
            none -- false
         else
          none -- false
       else
        none -- none
      else
       none -- none
theorem F7_ok (m : Nat) (l919 : List (List V)) (l920 : List (List V)) (b921 : Bool) (l922 : List (List V)) (r : A7) (h : F7 l919 l920 b921 l922 = some r) : call Try.prog X O0 18446744073709551616 (m + 11) 7 ([V.list 1 l919, V.list 1 l920, V.agg [vb b921, V.list 2 l922]]) ([]) = some r.out := by
  unfold F7 at h
  obtain ⟨r0, h0, h⟩ := Option.bind_eq_some_iff.mp h
  have h0 := F11_ok (m + 6) (l919) (0) r0 h0
  cases r0 with
  | a0 b2070 k2071 l2072 z2073 l2074 =>
    rcases ite_eq h with ⟨h1, h⟩ | ⟨h1, h⟩
    · skip
      rcases ite_eq h with ⟨h2, h⟩ | ⟨h2, h⟩
      · skip
        obtain ⟨r3, h3, h⟩ := Option.bind_eq_some_iff.mp h
        obtain ⟨st3, h3, hr3⟩ := L7_0_ok m 18446744073709551616 (List.take 10 l920) (0) (0) (b921) (l922) (b2070) (k2071) ([]) (l2074) r3 h3
        have h3 : loopRun Try.prog X (genO X (call Try.prog X O0 18446744073709551616 (m + 10))) 7 (0) 18446744073709551616 B7 0 ({ T := V.list 1 l919 :: V.list 1 (List.take 10 l920) :: V.agg [vb b921, V.list 2 l922] :: U :: U :: V.ptr 0 0 0 :: vb false :: V.ptr 3 0 0 :: V.nilS :: i64 0 :: V.list 1 l919 :: V.agg [V.list 1 l919, i64 0] :: V.ptr 1 0 0 :: V.agg [vb b2070, V.hs 2 0 k2071] :: V.list 1 l920 :: i64 (↑(List.length l920) : Int) :: vb (decide ((↑(List.length l920) : Int) > 10)) :: V.list 1 l920 :: V.list 1 (List.take 10 l920) :: un 43 [], σ := [Ob.cells true false 2 [[vb b921, V.list 2 l922]], Ob.cells true false 2 [[V.list 1 l2072, i64 z2073]], Ob.cells true true 2 l2074, Ob.cells true false 2 [[vb b2070, V.hs 2 0 k2071]]] }) = some st3 := by
          rw [loopRun_from, show pre X 7 (0) 0 ({ T := V.list 1 l919 :: V.list 1 (List.take 10 l920) :: V.agg [vb b921, V.list 2 l922] :: U :: U :: V.ptr 0 0 0 :: vb false :: V.ptr 3 0 0 :: V.nilS :: i64 0 :: V.list 1 l919 :: V.agg [V.list 1 l919, i64 0] :: V.ptr 1 0 0 :: V.agg [vb b2070, V.hs 2 0 k2071] :: V.list 1 l920 :: i64 (↑(List.length l920) : Int) :: vb (decide ((↑(List.length l920) : Int) > 10)) :: V.list 1 l920 :: V.list 1 (List.take 10 l920) :: un 43 [], σ := [Ob.cells true false 2 [[vb b921, V.list 2 l922]], Ob.cells true false 2 [[V.list 1 l2072, i64 z2073]], Ob.cells true true 2 l2074, Ob.cells true false 2 [[vb b2070, V.hs 2 0 k2071]]] }) = { T := U :: V.list 1 (List.take 10 l920) :: U :: U :: U :: V.ptr 0 0 0 :: U :: V.ptr 1 0 0 :: V.hs 2 0 0 :: i64 0 :: un 52 [], σ := [Ob.cells true false 2 [[vb b921, V.list 2 l922]], Ob.cells true false 2 [[vb b2070, V.hs 3 0 k2071]], Ob.cells true true 1 [], Ob.cells true true 2 l2074] } by kernel_rfl]
          exact h3
        cases r3 with
        | e0 l2099 k2100 b2105 l2106 b2107 k2108 l2109 l2110 =>
          obtain ⟨z2101, z2102, b2103, b2104, rfl⟩ := hr3
          rcases ite_eq h with ⟨h4, h⟩ | ⟨h4, h⟩
          · skip
            rcases ite_eq h with ⟨h5, h⟩ | ⟨h5, h⟩
            · skip
              rcases ite_eq h with ⟨h6, h⟩ | ⟨h6, h⟩
              · skip
                rcases ite_eq h with ⟨h7, h⟩ | ⟨h7, h⟩
                · skip
                  obtain ⟨r8, h8, h⟩ := Option.bind_eq_some_iff.mp h
                  have h8 := F23_ok (m + 0) (b2107) (List.take k2108 l2110) (List.take k2100 l2109) r8 h8
                  cases r8 with
                  | a0 b2111 =>
                    rcases ite_eq h with ⟨h9, h⟩ | ⟨h9, h⟩
                    · skip
                      obtain ⟨r10, h10, h⟩ := Option.bind_eq_some_iff.mp h
                      have h10 := F23_ok (m + 0) (b2107) (List.take k2108 l2110) (l2099) r10 h10
                      cases r10 with
                      | a0 b2112 =>
                        rcases ite_eq h with ⟨h11, h⟩ | ⟨h11, h⟩
                        · skip
                          obtain ⟨r12, h12, h⟩ := Option.bind_eq_some_iff.mp h
                          have h12 := F23_ok (m + 0) (b2105) (List.take 8 l2106) (List.take k2100 l2109) r12 h12
                          cases r12 with
                          | a0 b2113 =>
                            rcases ite_eq h with ⟨h13, h⟩ | ⟨h13, h⟩
                            · skip
                              obtain ⟨r14, h14, h⟩ := Option.bind_eq_some_iff.mp h
                              have h14 := F14_ok (m + 2) r14 h14
                              cases r14 with
                              | a0 b2114 =>
                                cases h
                                exact call_pathL (gs := [.an (V.agg [vb b2070, V.hs 1 0 k2071]) [Ob.cells true false 2 [[V.list 1 l2072, i64 z2073]], Ob.cells true true 2 l2074], .a, .t, .t, .lp (VX.exit 0) (s7_0_0 l2099 k2100 z2101 z2102 b2103 b2104 b2105 l2106 b2107 k2108 l2109 l2110), .a, .t, .a, .t, .a, .a, .t, .t, .an (vb b2111) [], .t, .a, .t, .t, .t, .an (vb b2112) [], .t, .t, .a, .t, .t, .t, .an (vb b2113) [], .t, .t, .an (vb b2114) [], .t]) (notIn []) rfl rfl (by kernel_rfl) (And.intro h0 (And.intro (decide_eq_true h1) (And.intro (decide_eq_true h2) (And.intro h3 (And.intro (decide_eq_true h4) (And.intro (decide_eq_true h5) (And.intro (decide_eq_true h6) (And.intro (decide_eq_true h7) (And.intro h8 (And.intro h9 (And.intro h9 (And.intro h9 (And.intro (decide_eq_true h6) (And.intro h10 (And.intro h9 (And.intro h11 (And.intro h11 (And.intro h11 (And.intro (decide_eq_true h7) (And.intro h12 (And.intro h11 (And.intro h13 (And.intro h14 (And.intro h13 True.intro))))))))))))))))))))))))
                            · skip
                              cases h
                        · skip
                          cases h
                    · skip
                      cases h
                · skip
                  cases h
              · skip
                cases h
            · skip
              cases h
          · skip
            rcases ite_eq h with ⟨h5, h⟩ | ⟨h5, h⟩
            · skip
              rcases ite_eq h with ⟨h6, h⟩ | ⟨h6, h⟩
              · skip
                obtain ⟨r7, h7, h⟩ := Option.bind_eq_some_iff.mp h
                have h7 := F23_ok (m + 0) (b2107) (List.take k2108 l2110) (List.take k2100 l2109) r7 h7
                cases r7 with
                | a0 b2116 =>
                  rcases ite_eq h with ⟨h8, h⟩ | ⟨h8, h⟩
                  · skip
                    obtain ⟨r9, h9, h⟩ := Option.bind_eq_some_iff.mp h
                    have h9 := F23_ok (m + 0) (b2107) (List.take k2108 l2110) (l2099) r9 h9
                    cases r9 with
                    | a0 b2117 =>
                      rcases ite_eq h with ⟨h10, h⟩ | ⟨h10, h⟩
                      · skip
                        obtain ⟨r11, h11, h⟩ := Option.bind_eq_some_iff.mp h
                        have h11 := F23_ok (m + 0) (b2105) (l2106) (List.take k2100 l2109) r11 h11
                        cases r11 with
                        | a0 b2118 =>
                          rcases ite_eq h with ⟨h12, h⟩ | ⟨h12, h⟩
                          · skip
                            obtain ⟨r13, h13, h⟩ := Option.bind_eq_some_iff.mp h
                            have h13 := F14_ok (m + 2) r13 h13
                            cases r13 with
                            | a0 b2119 =>
                              cases h
                              exact call_pathL (gs := [.an (V.agg [vb b2070, V.hs 1 0 k2071]) [Ob.cells true false 2 [[V.list 1 l2072, i64 z2073]], Ob.cells true true 2 l2074], .a, .t, .t, .lp (VX.exit 0) (s7_0_0 l2099 k2100 z2101 z2102 b2103 b2104 b2105 l2106 b2107 k2108 l2109 l2110), .a, .f, .a, .t, .t, .an (vb b2116) [], .t, .a, .t, .t, .t, .an (vb b2117) [], .t, .t, .a, .t, .t, .t, .an (vb b2118) [], .t, .t, .an (vb b2119) [], .t]) (notIn []) rfl rfl (by kernel_rfl) (And.intro h0 (And.intro (decide_eq_true h1) (And.intro (decide_eq_true h2) (And.intro h3 (And.intro (decide_eq_false h4) (And.intro (decide_eq_true h5) (And.intro (decide_eq_true h6) (And.intro h7 (And.intro h8 (And.intro h8 (And.intro h8 (And.intro (decide_eq_true h5) (And.intro h9 (And.intro h8 (And.intro h10 (And.intro h10 (And.intro h10 (And.intro (decide_eq_true h6) (And.intro h11 (And.intro h10 (And.intro h12 (And.intro h13 (And.intro h12 True.intro)))))))))))))))))))))))
                          · skip
                            cases h
                      · skip
                        cases h
                  · skip
                    cases h
              · skip
                cases h
            · skip
              cases h
        | e1 l2120 k2121 b2125 l2126 b2127 k2128 l2129 l2130 =>
          obtain ⟨z2122, z2123, b2124, rfl⟩ := hr3
          rcases ite_eq h with ⟨h4, h⟩ | ⟨h4, h⟩
          · skip
            rcases ite_eq h with ⟨h5, h⟩ | ⟨h5, h⟩
            · skip
              rcases ite_eq h with ⟨h6, h⟩ | ⟨h6, h⟩
              · skip
                rcases ite_eq h with ⟨h7, h⟩ | ⟨h7, h⟩
                · skip
                  obtain ⟨r8, h8, h⟩ := Option.bind_eq_some_iff.mp h
                  have h8 := F23_ok (m + 0) (b2127) (List.take k2128 l2130) (List.take k2121 l2129) r8 h8
                  cases r8 with
                  | a0 b2131 =>
                    rcases ite_eq h with ⟨h9, h⟩ | ⟨h9, h⟩
                    · skip
                      obtain ⟨r10, h10, h⟩ := Option.bind_eq_some_iff.mp h
                      have h10 := F23_ok (m + 0) (b2127) (List.take k2128 l2130) (l2120) r10 h10
                      cases r10 with
                      | a0 b2132 =>
                        rcases ite_eq h with ⟨h11, h⟩ | ⟨h11, h⟩
                        · skip
                          obtain ⟨r12, h12, h⟩ := Option.bind_eq_some_iff.mp h
                          have h12 := F23_ok (m + 0) (b2125) (List.take 8 l2126) (List.take k2121 l2129) r12 h12
                          cases r12 with
                          | a0 b2133 =>
                            rcases ite_eq h with ⟨h13, h⟩ | ⟨h13, h⟩
                            · skip
                              obtain ⟨r14, h14, h⟩ := Option.bind_eq_some_iff.mp h
                              have h14 := F14_ok (m + 2) r14 h14
                              cases r14 with
                              | a0 b2134 =>
                                cases h
                                exact call_pathL (gs := [.an (V.agg [vb b2070, V.hs 1 0 k2071]) [Ob.cells true false 2 [[V.list 1 l2072, i64 z2073]], Ob.cells true true 2 l2074], .a, .t, .t, .lp (VX.exit 0) (s7_0_1 l2120 k2121 z2122 z2123 b2124 b2125 l2126 b2127 k2128 l2129 l2130), .a, .t, .a, .t, .a, .a, .t, .t, .an (vb b2131) [], .t, .a, .t, .t, .t, .an (vb b2132) [], .t, .t, .a, .t, .t, .t, .an (vb b2133) [], .t, .t, .an (vb b2134) [], .t]) (notIn []) rfl rfl (by kernel_rfl) (And.intro h0 (And.intro (decide_eq_true h1) (And.intro (decide_eq_true h2) (And.intro h3 (And.intro (decide_eq_true h4) (And.intro (decide_eq_true h5) (And.intro (decide_eq_true h6) (And.intro (decide_eq_true h7) (And.intro h8 (And.intro h9 (And.intro h9 (And.intro h9 (And.intro (decide_eq_true h6) (And.intro h10 (And.intro h9 (And.intro h11 (And.intro h11 (And.intro h11 (And.intro (decide_eq_true h7) (And.intro h12 (And.intro h11 (And.intro h13 (And.intro h14 (And.intro h13 True.intro))))))))))))))))))))))))
                            · skip
                              cases h
                        · skip
                          cases h
                    · skip
                      cases h
                · skip
                  cases h
              · skip
                cases h
            · skip
              cases h
          · skip
            rcases ite_eq h with ⟨h5, h⟩ | ⟨h5, h⟩
            · skip
              rcases ite_eq h with ⟨h6, h⟩ | ⟨h6, h⟩
              · skip
                obtain ⟨r7, h7, h⟩ := Option.bind_eq_some_iff.mp h
                have h7 := F23_ok (m + 0) (b2127) (List.take k2128 l2130) (List.take k2121 l2129) r7 h7
                cases r7 with
                | a0 b2135 =>
                  rcases ite_eq h with ⟨h8, h⟩ | ⟨h8, h⟩
                  · skip
                    obtain ⟨r9, h9, h⟩ := Option.bind_eq_some_iff.mp h
                    have h9 := F23_ok (m + 0) (b2127) (List.take k2128 l2130) (l2120) r9 h9
                    cases r9 with
                    | a0 b2136 =>
                      rcases ite_eq h with ⟨h10, h⟩ | ⟨h10, h⟩
                      · skip
                        obtain ⟨r11, h11, h⟩ := Option.bind_eq_some_iff.mp h
                        have h11 := F23_ok (m + 0) (b2125) (l2126) (List.take k2121 l2129) r11 h11
                        cases r11 with
                        | a0 b2137 =>
                          rcases ite_eq h with ⟨h12, h⟩ | ⟨h12, h⟩
                          · skip
                            obtain ⟨r13, h13, h⟩ := Option.bind_eq_some_iff.mp h
                            have h13 := F14_ok (m + 2) r13 h13
                            cases r13 with
                            | a0 b2138 =>
                              cases h
                              exact call_pathL (gs := [.an (V.agg [vb b2070, V.hs 1 0 k2071]) [Ob.cells true false 2 [[V.list 1 l2072, i64 z2073]], Ob.cells true true 2 l2074], .a, .t, .t, .lp (VX.exit 0) (s7_0_1 l2120 k2121 z2122 z2123 b2124 b2125 l2126 b2127 k2128 l2129 l2130), .a, .f, .a, .t, .t, .an (vb b2135) [], .t, .a, .t, .t, .t, .an (vb b2136) [], .t, .t, .a, .t, .t, .t, .an (vb b2137) [], .t, .t, .an (vb b2138) [], .t]) (notIn []) rfl rfl (by kernel_rfl) (And.intro h0 (And.intro (decide_eq_true h1) (And.intro (decide_eq_true h2) (And.intro h3 (And.intro (decide_eq_false h4) (And.intro (decide_eq_true h5) (And.intro (decide_eq_true h6) (And.intro h7 (And.intro h8 (And.intro h8 (And.intro h8 (And.intro (decide_eq_true h5) (And.intro h9 (And.intro h8 (And.intro h10 (And.intro h10 (And.intro h10 (And.intro (decide_eq_true h6) (And.intro h11 (And.intro h10 (And.intro h12 (And.intro h13 (And.intro h12 True.intro)))))))))))))))))))))))
                          · skip
                            cases h
                      · skip
                        cases h
                  · skip
                    cases h
              · skip
                cases h
            · skip
              cases h
      · skip
        cases h
    · skip
      obtain ⟨r2, h2, h⟩ := Option.bind_eq_some_iff.mp h
      obtain ⟨st2, h2, hr2⟩ := L7_0_ok m 18446744073709551616 (l920) (0) (0) (b921) (l922) (b2070) (k2071) ([]) (l2074) r2 h2
      have h2 : loopRun Try.prog X (genO X (call Try.prog X O0 18446744073709551616 (m + 10))) 7 (0) 18446744073709551616 B7 0 ({ T := V.list 1 l919 :: V.list 1 l920 :: V.agg [vb b921, V.list 2 l922] :: U :: U :: V.ptr 0 0 0 :: vb false :: V.ptr 3 0 0 :: V.nilS :: i64 0 :: V.list 1 l919 :: V.agg [V.list 1 l919, i64 0] :: V.ptr 1 0 0 :: V.agg [vb b2070, V.hs 2 0 k2071] :: V.list 1 l920 :: i64 (↑(List.length l920) : Int) :: vb (decide ((↑(List.length l920) : Int) > 10)) :: un 45 [], σ := [Ob.cells true false 2 [[vb b921, V.list 2 l922]], Ob.cells true false 2 [[V.list 1 l2072, i64 z2073]], Ob.cells true true 2 l2074, Ob.cells true false 2 [[vb b2070, V.hs 2 0 k2071]]] }) = some st2 := by
        rw [loopRun_from, show pre X 7 (0) 0 ({ T := V.list 1 l919 :: V.list 1 l920 :: V.agg [vb b921, V.list 2 l922] :: U :: U :: V.ptr 0 0 0 :: vb false :: V.ptr 3 0 0 :: V.nilS :: i64 0 :: V.list 1 l919 :: V.agg [V.list 1 l919, i64 0] :: V.ptr 1 0 0 :: V.agg [vb b2070, V.hs 2 0 k2071] :: V.list 1 l920 :: i64 (↑(List.length l920) : Int) :: vb (decide ((↑(List.length l920) : Int) > 10)) :: un 45 [], σ := [Ob.cells true false 2 [[vb b921, V.list 2 l922]], Ob.cells true false 2 [[V.list 1 l2072, i64 z2073]], Ob.cells true true 2 l2074, Ob.cells true false 2 [[vb b2070, V.hs 2 0 k2071]]] }) = { T := U :: V.list 1 l920 :: U :: U :: U :: V.ptr 0 0 0 :: U :: V.ptr 1 0 0 :: V.hs 2 0 0 :: i64 0 :: un 52 [], σ := [Ob.cells true false 2 [[vb b921, V.list 2 l922]], Ob.cells true false 2 [[vb b2070, V.hs 3 0 k2071]], Ob.cells true true 1 [], Ob.cells true true 2 l2074] } by kernel_rfl]
        exact h2
      cases r2 with
      | e0 l2139 k2140 b2145 l2146 b2147 k2148 l2149 l2150 =>
        obtain ⟨z2141, z2142, b2143, b2144, rfl⟩ := hr2
        rcases ite_eq h with ⟨h3, h⟩ | ⟨h3, h⟩
        · skip
          rcases ite_eq h with ⟨h4, h⟩ | ⟨h4, h⟩
          · skip
            rcases ite_eq h with ⟨h5, h⟩ | ⟨h5, h⟩
            · skip
              rcases ite_eq h with ⟨h6, h⟩ | ⟨h6, h⟩
              · skip
                obtain ⟨r7, h7, h⟩ := Option.bind_eq_some_iff.mp h
                have h7 := F23_ok (m + 0) (b2147) (List.take k2148 l2150) (List.take k2140 l2149) r7 h7
                cases r7 with
                | a0 b2151 =>
                  rcases ite_eq h with ⟨h8, h⟩ | ⟨h8, h⟩
                  · skip
                    obtain ⟨r9, h9, h⟩ := Option.bind_eq_some_iff.mp h
                    have h9 := F23_ok (m + 0) (b2147) (List.take k2148 l2150) (l2139) r9 h9
                    cases r9 with
                    | a0 b2152 =>
                      rcases ite_eq h with ⟨h10, h⟩ | ⟨h10, h⟩
                      · skip
                        obtain ⟨r11, h11, h⟩ := Option.bind_eq_some_iff.mp h
                        have h11 := F23_ok (m + 0) (b2145) (List.take 8 l2146) (List.take k2140 l2149) r11 h11
                        cases r11 with
                        | a0 b2153 =>
                          rcases ite_eq h with ⟨h12, h⟩ | ⟨h12, h⟩
                          · skip
                            obtain ⟨r13, h13, h⟩ := Option.bind_eq_some_iff.mp h
                            have h13 := F14_ok (m + 2) r13 h13
                            cases r13 with
                            | a0 b2154 =>
                              cases h
                              exact call_pathL (gs := [.an (V.agg [vb b2070, V.hs 1 0 k2071]) [Ob.cells true false 2 [[V.list 1 l2072, i64 z2073]], Ob.cells true true 2 l2074], .a, .f, .lp (VX.exit 0) (s7_0_0 l2139 k2140 z2141 z2142 b2143 b2144 b2145 l2146 b2147 k2148 l2149 l2150), .a, .t, .a, .t, .a, .a, .t, .t, .an (vb b2151) [], .t, .a, .t, .t, .t, .an (vb b2152) [], .t, .t, .a, .t, .t, .t, .an (vb b2153) [], .t, .t, .an (vb b2154) [], .t]) (notIn []) rfl rfl (by kernel_rfl) (And.intro h0 (And.intro (decide_eq_false h1) (And.intro h2 (And.intro (decide_eq_true h3) (And.intro (decide_eq_true h4) (And.intro (decide_eq_true h5) (And.intro (decide_eq_true h6) (And.intro h7 (And.intro h8 (And.intro h8 (And.intro h8 (And.intro (decide_eq_true h5) (And.intro h9 (And.intro h8 (And.intro h10 (And.intro h10 (And.intro h10 (And.intro (decide_eq_true h6) (And.intro h11 (And.intro h10 (And.intro h12 (And.intro h13 (And.intro h12 True.intro)))))))))))))))))))))))
                          · skip
                            cases h
                      · skip
                        cases h
                  · skip
                    cases h
              · skip
                cases h
            · skip
              cases h
          · skip
            cases h
        · skip
          rcases ite_eq h with ⟨h4, h⟩ | ⟨h4, h⟩
          · skip
            rcases ite_eq h with ⟨h5, h⟩ | ⟨h5, h⟩
            · skip
              obtain ⟨r6, h6, h⟩ := Option.bind_eq_some_iff.mp h
              have h6 := F23_ok (m + 0) (b2147) (List.take k2148 l2150) (List.take k2140 l2149) r6 h6
              cases r6 with
              | a0 b2155 =>
                rcases ite_eq h with ⟨h7, h⟩ | ⟨h7, h⟩
                · skip
                  obtain ⟨r8, h8, h⟩ := Option.bind_eq_some_iff.mp h
                  have h8 := F23_ok (m + 0) (b2147) (List.take k2148 l2150) (l2139) r8 h8
                  cases r8 with
                  | a0 b2156 =>
                    rcases ite_eq h with ⟨h9, h⟩ | ⟨h9, h⟩
                    · skip
                      obtain ⟨r10, h10, h⟩ := Option.bind_eq_some_iff.mp h
                      have h10 := F23_ok (m + 0) (b2145) (l2146) (List.take k2140 l2149) r10 h10
                      cases r10 with
                      | a0 b2157 =>
                        rcases ite_eq h with ⟨h11, h⟩ | ⟨h11, h⟩
                        · skip
                          obtain ⟨r12, h12, h⟩ := Option.bind_eq_some_iff.mp h
                          have h12 := F14_ok (m + 2) r12 h12
                          cases r12 with
                          | a0 b2158 =>
                            cases h
                            exact call_pathL (gs := [.an (V.agg [vb b2070, V.hs 1 0 k2071]) [Ob.cells true false 2 [[V.list 1 l2072, i64 z2073]], Ob.cells true true 2 l2074], .a, .f, .lp (VX.exit 0) (s7_0_0 l2139 k2140 z2141 z2142 b2143 b2144 b2145 l2146 b2147 k2148 l2149 l2150), .a, .f, .a, .t, .t, .an (vb b2155) [], .t, .a, .t, .t, .t, .an (vb b2156) [], .t, .t, .a, .t, .t, .t, .an (vb b2157) [], .t, .t, .an (vb b2158) [], .t]) (notIn []) rfl rfl (by kernel_rfl) (And.intro h0 (And.intro (decide_eq_false h1) (And.intro h2 (And.intro (decide_eq_false h3) (And.intro (decide_eq_true h4) (And.intro (decide_eq_true h5) (And.intro h6 (And.intro h7 (And.intro h7 (And.intro h7 (And.intro (decide_eq_true h4) (And.intro h8 (And.intro h7 (And.intro h9 (And.intro h9 (And.intro h9 (And.intro (decide_eq_true h5) (And.intro h10 (And.intro h9 (And.intro h11 (And.intro h12 (And.intro h11 True.intro))))))))))))))))))))))
                        · skip
                          cases h
                    · skip
                      cases h
                · skip
                  cases h
            · skip
              cases h
          · skip
            cases h
      | e1 l2159 k2160 b2164 l2165 b2166 k2167 l2168 l2169 =>
        obtain ⟨z2161, z2162, b2163, rfl⟩ := hr2
        rcases ite_eq h with ⟨h3, h⟩ | ⟨h3, h⟩
        · skip
          rcases ite_eq h with ⟨h4, h⟩ | ⟨h4, h⟩
          · skip
            rcases ite_eq h with ⟨h5, h⟩ | ⟨h5, h⟩
            · skip
              rcases ite_eq h with ⟨h6, h⟩ | ⟨h6, h⟩
              · skip
                obtain ⟨r7, h7, h⟩ := Option.bind_eq_some_iff.mp h
                have h7 := F23_ok (m + 0) (b2166) (List.take k2167 l2169) (List.take k2160 l2168) r7 h7
                cases r7 with
                | a0 b2170 =>
                  rcases ite_eq h with ⟨h8, h⟩ | ⟨h8, h⟩
                  · skip
                    obtain ⟨r9, h9, h⟩ := Option.bind_eq_some_iff.mp h
                    have h9 := F23_ok (m + 0) (b2166) (List.take k2167 l2169) (l2159) r9 h9
                    cases r9 with
                    | a0 b2171 =>
                      rcases ite_eq h with ⟨h10, h⟩ | ⟨h10, h⟩
                      · skip
                        obtain ⟨r11, h11, h⟩ := Option.bind_eq_some_iff.mp h
                        have h11 := F23_ok (m + 0) (b2164) (List.take 8 l2165) (List.take k2160 l2168) r11 h11
                        cases r11 with
                        | a0 b2172 =>
                          rcases ite_eq h with ⟨h12, h⟩ | ⟨h12, h⟩
                          · skip
                            obtain ⟨r13, h13, h⟩ := Option.bind_eq_some_iff.mp h
                            have h13 := F14_ok (m + 2) r13 h13
                            cases r13 with
                            | a0 b2173 =>
                              cases h
                              exact call_pathL (gs := [.an (V.agg [vb b2070, V.hs 1 0 k2071]) [Ob.cells true false 2 [[V.list 1 l2072, i64 z2073]], Ob.cells true true 2 l2074], .a, .f, .lp (VX.exit 0) (s7_0_1 l2159 k2160 z2161 z2162 b2163 b2164 l2165 b2166 k2167 l2168 l2169), .a, .t, .a, .t, .a, .a, .t, .t, .an (vb b2170) [], .t, .a, .t, .t, .t, .an (vb b2171) [], .t, .t, .a, .t, .t, .t, .an (vb b2172) [], .t, .t, .an (vb b2173) [], .t]) (notIn []) rfl rfl (by kernel_rfl) (And.intro h0 (And.intro (decide_eq_false h1) (And.intro h2 (And.intro (decide_eq_true h3) (And.intro (decide_eq_true h4) (And.intro (decide_eq_true h5) (And.intro (decide_eq_true h6) (And.intro h7 (And.intro h8 (And.intro h8 (And.intro h8 (And.intro (decide_eq_true h5) (And.intro h9 (And.intro h8 (And.intro h10 (And.intro h10 (And.intro h10 (And.intro (decide_eq_true h6) (And.intro h11 (And.intro h10 (And.intro h12 (And.intro h13 (And.intro h12 True.intro)))))))))))))))))))))))
                          · skip
                            cases h
                      · skip
                        cases h
                  · skip
                    cases h
              · skip
                cases h
            · skip
              cases h
          · skip
            cases h
        · skip
          rcases ite_eq h with ⟨h4, h⟩ | ⟨h4, h⟩
          · skip
            rcases ite_eq h with ⟨h5, h⟩ | ⟨h5, h⟩
            · skip
              obtain ⟨r6, h6, h⟩ := Option.bind_eq_some_iff.mp h
              have h6 := F23_ok (m + 0) (b2166) (List.take k2167 l2169) (List.take k2160 l2168) r6 h6
              cases r6 with
              | a0 b2174 =>
                rcases ite_eq h with ⟨h7, h⟩ | ⟨h7, h⟩
                · skip
                  obtain ⟨r8, h8, h⟩ := Option.bind_eq_some_iff.mp h
                  have h8 := F23_ok (m + 0) (b2166) (List.take k2167 l2169) (l2159) r8 h8
                  cases r8 with
                  | a0 b2175 =>
                    rcases ite_eq h with ⟨h9, h⟩ | ⟨h9, h⟩
                    · skip
                      obtain ⟨r10, h10, h⟩ := Option.bind_eq_some_iff.mp h
                      have h10 := F23_ok (m + 0) (b2164) (l2165) (List.take k2160 l2168) r10 h10
                      cases r10 with
                      | a0 b2176 =>
                        rcases ite_eq h with ⟨h11, h⟩ | ⟨h11, h⟩
                        · skip
                          obtain ⟨r12, h12, h⟩ := Option.bind_eq_some_iff.mp h
                          have h12 := F14_ok (m + 2) r12 h12
                          cases r12 with
                          | a0 b2177 =>
                            cases h
                            exact call_pathL (gs := [.an (V.agg [vb b2070, V.hs 1 0 k2071]) [Ob.cells true false 2 [[V.list 1 l2072, i64 z2073]], Ob.cells true true 2 l2074], .a, .f, .lp (VX.exit 0) (s7_0_1 l2159 k2160 z2161 z2162 b2163 b2164 l2165 b2166 k2167 l2168 l2169), .a, .f, .a, .t, .t, .an (vb b2174) [], .t, .a, .t, .t, .t, .an (vb b2175) [], .t, .t, .a, .t, .t, .t, .an (vb b2176) [], .t, .t, .an (vb b2177) [], .t]) (notIn []) rfl rfl (by kernel_rfl) (And.intro h0 (And.intro (decide_eq_false h1) (And.intro h2 (And.intro (decide_eq_false h3) (And.intro (decide_eq_true h4) (And.intro (decide_eq_true h5) (And.intro h6 (And.intro h7 (And.intro h7 (And.intro h7 (And.intro (decide_eq_true h4) (And.intro h8 (And.intro h7 (And.intro h9 (And.intro h9 (And.intro h9 (And.intro (decide_eq_true h5) (And.intro h10 (And.intro h9 (And.intro h11 (And.intro h12 (And.intro h11 True.intro))))))))))))))))))))))
                        · skip
                          cases h
                    · skip
                      cases h
                · skip
                  cases h
            · skip
              cases h
          · skip
            cases h
/-! ## 22 -/
noncomputable abbrev B22 : Code := (Try.f22.body).getD .skip
inductive R22_0 where
  | e0 (k2187 : Nat) (l2190 : List (List V))
@[reducible] def s22_0_0 (z2186 : Int) (k2187 : Nat) (z2188 : Int) (b2189 : Bool) (l2190 : List (List V)) : S := { T := i64 z2186 :: U :: U :: V.hs 0 0 k2187 :: i64 z2188 :: i64 z2188 :: vb b2189 :: un 20 [], σ := [Ob.cells true true 1 l2190] }
def R22_0.St : R22_0 → VX × S → Prop
  | .e0 k2187 l2190, p => ∃ z2186 : Int, ∃ z2188 : Int, ∃ b2189 : Bool, p = (VX.exit 0, s22_0_0 z2186 k2187 z2188 b2189 l2190)
def L22_0 : Nat → Int → Nat → Int → List (List V) → Option R22_0
  | 0, _, _, _, _ => none
  | n + 1, z2182, k2183, z2184, l2185 =>
    if z2184 < 60 then
     if 0 + k2183 ≤ List.length l2185 ∧ (k2183 + 1) * 8 ≤ 140737488355328 ∧ k2183 + 1 ≤ 140737488355328 then
      L22_0 n (z2182) (k2183 + 1) (w64 (z2184 + 1)) (List.take k2183 l2185 ++ [[i64 (Int.tmod (w64 (w64 (w64 (w64 (z2184 * z2184) * 11) + w64 (z2182 * 19)) + w64 (z2184 * z2182))) 103)]])
     else
      none -- none
    else
     some (R22_0.e0 (k2183) (l2185))
theorem L22_0_ok (m : Nat) : ∀ (n : Nat) (z2182 : Int) (k2183 : Nat) (z2184 : Int) (l2185 : List (List V)) (r : R22_0), L22_0 n z2182 k2183 z2184 l2185 = some r → ∃ st, loopFrom Try.prog X (genO X (call Try.prog X O0 18446744073709551616 (m + 0))) 22 (0) 18446744073709551616 B22 0 n ({ T := i64 z2182 :: U :: U :: V.hs 0 0 k2183 :: i64 z2184 :: un 22 [], σ := [Ob.cells true true 1 l2185] }) = some st ∧ r.St st
  | 0, _, _, _, _, r, h => by cases h
  | n + 1, z2182, k2183, z2184, l2185, r, h => by
    rw [L22_0] at h
    rcases ite_eq h with ⟨h0, h⟩ | ⟨h0, h⟩
    · skip
      rcases ite_eq h with ⟨h1, h⟩ | ⟨h1, h⟩
      · skip
        obtain ⟨st, hs, hr⟩ := L22_0_ok m n (z2182) (k2183 + 1) (w64 (z2184 + 1)) (List.take k2183 l2185 ++ [[i64 (Int.tmod (w64 (w64 (w64 (w64 (z2184 * z2184) * 11) + w64 (z2182 * 19)) + w64 (z2184 * z2182))) 103)]]) r h
        exact ⟨st, (round_on (gs := [.t, .a, .a, .t]) (notIn []) (by kernel_rfl) (And.intro (decide_eq_true h0) (And.intro (decide_eq_true h1) True.intro)) n).trans hs, hr⟩
      · skip
        cases h
    · skip
      cases h
      exact ⟨_, round_out (gs := [.f]) (notIn []) (by kernel_rfl) rfl (And.intro (decide_eq_false h0) True.intro) n, z2182, z2184, decide (z2184 < 60), rfl⟩
inductive A22 where
  | a0 (k2196 : Nat) (z2197 : Int) (l2198 : List (List V))
@[reducible] def A22.out : A22 → V × Store
  | .a0 k2196 z2197 l2198 => (V.ptr 0 0 0, [Ob.cells true false 2 [[V.hs 1 0 k2196, i64 z2197]], Ob.cells true true 1 l2198])
def F22 (z2179 : Int) : Option A22 :=
  (L22_0 18446744073709551616 (z2179) (0) (0) ([])).bind fun r => match r with
  | .e0 k2192 l2195 =>
   some (A22.a0 (k2192) (0) (l2195))
theorem F22_ok (m : Nat) (z2179 : Int) (r : A22) (h : F22 z2179 = some r) : call Try.prog X O0 18446744073709551616 (m + 1) 22 ([i64 z2179]) ([]) = some r.out := by
  unfold F22 at h
  obtain ⟨r0, h0, h⟩ := Option.bind_eq_some_iff.mp h
  obtain ⟨st0, h0, hr0⟩ := L22_0_ok m 18446744073709551616 (z2179) (0) (0) ([]) r0 h0
  have h0 : loopRun Try.prog X (genO X (call Try.prog X O0 18446744073709551616 (m + 0))) 22 (0) 18446744073709551616 B22 0 ({ T := i64 z2179 :: U :: V.nilP :: V.nilS :: i64 0 :: un 22 [], σ := [] }) = some st0 := by
    rw [loopRun_from, show pre X 22 (0) 0 ({ T := i64 z2179 :: U :: V.nilP :: V.nilS :: i64 0 :: un 22 [], σ := [] }) = { T := i64 z2179 :: U :: U :: V.hs 0 0 0 :: i64 0 :: un 22 [], σ := [Ob.cells true true 1 []] } by kernel_rfl]
    exact h0
  cases r0 with
  | e0 k2192 l2195 =>
    obtain ⟨z2191, z2193, b2194, rfl⟩ := hr0
    cases h
    exact call_pathL (gs := [.lp (VX.exit 0) (s22_0_0 z2191 k2192 z2193 b2194 l2195)]) (notIn []) rfl rfl (by kernel_rfl) (And.intro h0 True.intro)
/-! ## 28 -/
inductive A28v1 where
  | a0 (z2211 : Int) (k2212 : Nat) (z2213 : Int) (l2214 : List (List V))
@[reducible] def A28v1.out : A28v1 → V × Store
  | .a0 z2211 k2212 z2213 l2214 => (i64 z2211, [Ob.cells true false 2 [[V.hs 1 0 k2212, i64 z2213]], Ob.cells true true 1 l2214])
def F28v1 (z2206 : Int) (k2207 : Nat) (z2208 : Int) (l2209 : List (List V)) : Option A28v1 :=
  if z2208 ≥ (↑k2207 : Int) then
   some (A28v1.a0 (0) (k2207) (z2208) (l2209))
  else
   if 0 ≤ w64 (w64 (z2208 + 1) - 1) ∧ w64 (w64 (z2208 + 1) - 1) < (↑k2207 : Int) then
    ((l2209[(0 : Nat) + Int.toNat (w64 (w64 (z2208 + (1 : Int)) - (1 : Int)))]?).bind W3.dec).bind fun e2215 =>
    (F50 (e2215.c0) (0) (1073741824)).bind fun r => match r with
    | .a0 z2216 =>
     if z2206 = 0 then
      none -- none
     else
      some (A28v1.a0 (Int.tmod z2216 z2206) (k2207) (w64 (z2208 + 1)) (l2209))
   else
    none -- none
theorem F28v1_ok (m : Nat) (z2206 : Int) (k2207 : Nat) (z2208 : Int) (l2209 : List (List V)) (r : A28v1) (h : F28v1 z2206 k2207 z2208 l2209 = some r) : call Try.prog X O0 18446744073709551616 (m + 2) 28 ([V.ptr 0 0 0, i64 z2206]) ([Ob.cells true false 2 [[V.hs 1 0 k2207, i64 z2208]], Ob.cells true true 1 l2209]) = some r.out := by
  unfold F28v1 at h
  rcases ite_eq h with ⟨h0, h⟩ | ⟨h0, h⟩
  · skip
    cases h
    exact call_pathL (gs := [.a, .a, .ft [⟨0, [], []⟩, ⟨1, [0], []⟩, ⟨2, [0], []⟩, ⟨3, [0], []⟩, ⟨4, [], []⟩, ⟨5, [0], []⟩, ⟨6, [0], []⟩, ⟨7, [0], []⟩, ⟨8, [1], []⟩, ⟨9, [], []⟩], .t]) (notIn []) rfl rfl (by kernel_rfl) (And.intro (Eq.refl ([⟨0, [], []⟩, ⟨1, [0], []⟩, ⟨2, [0], []⟩, ⟨3, [0], []⟩, ⟨4, [], []⟩, ⟨5, [0], []⟩, ⟨6, [0], []⟩, ⟨7, [0], []⟩, ⟨8, [1], []⟩, ⟨9, [], []⟩] : List Foot)) (And.intro (decide_eq_true h0) True.intro))
  · skip
    rcases ite_eq h with ⟨h1, h⟩ | ⟨h1, h⟩
    · skip
      obtain ⟨e2215, h2, h⟩ := Option.bind_eq_some_iff.mp h
      obtain ⟨r3, h3, h⟩ := Option.bind_eq_some_iff.mp h
      have h3 := F50_ok (m + 0) (e2215.c0) (0) (1073741824) r3 h3
      cases r3 with
      | a0 z2216 =>
        rcases ite_eq h with ⟨h4, h⟩ | ⟨h4, h⟩
        · skip
          cases h
        · skip
          cases h
          exact call_pathL (gs := [.a, .a, .ft [⟨0, [], []⟩, ⟨1, [0], []⟩, ⟨2, [0], []⟩, ⟨3, [0], []⟩, ⟨4, [], []⟩, ⟨5, [0], []⟩, ⟨6, [0], []⟩, ⟨7, [0], []⟩, ⟨8, [1], []⟩, ⟨9, [], []⟩], .f, .a, .a, .a, .a, .t, .el (W3.cells e2215), .an (i64 z2216) [], .f, .ft [⟨0, [], []⟩, ⟨1, [0], []⟩, ⟨2, [0], []⟩, ⟨3, [0], []⟩, ⟨4, [], []⟩, ⟨5, [0], []⟩, ⟨6, [0], []⟩, ⟨7, [0], []⟩, ⟨8, [], []⟩, ⟨9, [1], []⟩, ⟨10, [1], []⟩, ⟨11, [], []⟩, ⟨12, [], []⟩, ⟨13, [], []⟩, ⟨14, [], []⟩]]) (notIn []) rfl rfl (by kernel_rfl) (And.intro (Eq.refl ([⟨0, [], []⟩, ⟨1, [0], []⟩, ⟨2, [0], []⟩, ⟨3, [0], []⟩, ⟨4, [], []⟩, ⟨5, [0], []⟩, ⟨6, [0], []⟩, ⟨7, [0], []⟩, ⟨8, [1], []⟩, ⟨9, [], []⟩] : List Foot)) (And.intro (decide_eq_false h0) (And.intro (decide_eq_true h1) (And.intro (W3.dec_ok h2) (And.intro h3 (And.intro (decide_eq_false h4) (And.intro (Eq.refl ([⟨0, [], []⟩, ⟨1, [0], []⟩, ⟨2, [0], []⟩, ⟨3, [0], []⟩, ⟨4, [], []⟩, ⟨5, [0], []⟩, ⟨6, [0], []⟩, ⟨7, [0], []⟩, ⟨8, [], []⟩, ⟨9, [1], []⟩, ⟨10, [1], []⟩, ⟨11, [], []⟩, ⟨12, [], []⟩, ⟨13, [], []⟩, ⟨14, [], []⟩] : List Foot)) True.intro)))))))
    · skip
      cases h
/-! ## 29 -/
inductive A29v1 where
  | a0 (z2244 : Int) (k2245 : Nat) (z2246 : Int) (l2247 : List (List V))
@[reducible] def A29v1.out : A29v1 → V × Store
  | .a0 z2244 k2245 z2246 l2247 => (i64 z2244, [Ob.cells true false 2 [[V.hs 1 0 k2245, i64 z2246]], Ob.cells true true 1 l2247])
def F29v1 (z2230 : Int) (z2231 : Int) (k2232 : Nat) (z2233 : Int) (l2234 : List (List V)) : Option A29v1 :=
  (F28v1 (w64 (w64 (z2231 - z2230) + 1)) (k2232) (z2233) (l2234)).bind fun r => match r with
  | .a0 z2236 k2237 z2238 l2239 =>
   (F28v1 (4) (k2237) (z2238) (l2239)).bind fun r => match r with
   | .a0 z2240 k2241 z2242 l2243 =>
    if (z2240 == 0) = true then
     some (A29v1.a0 (w64 (w64 (w64 (z2230 + z2236) * 65536) + 32768)) (k2241) (z2242) (l2243))
    else
     if (z2240 == 1) = true then
      (F28v1 (65536) (k2241) (z2242) (l2243)).bind fun r => match r with
      | .a0 z2248 k2249 z2250 l2251 =>
       some (A29v1.a0 (w64 (w64 (w64 (z2230 + z2236) * 65536) + z2248)) (k2249) (z2250) (l2251))
     else
      some (A29v1.a0 (w64 (w64 (z2230 + z2236) * 65536)) (k2241) (z2242) (l2243))
theorem F29v1_ok (m : Nat) (z2230 : Int) (z2231 : Int) (k2232 : Nat) (z2233 : Int) (l2234 : List (List V)) (r : A29v1) (h : F29v1 z2230 z2231 k2232 z2233 l2234 = some r) : call Try.prog X O0 18446744073709551616 (m + 3) 29 ([V.ptr 0 0 0, i64 z2230, i64 z2231]) ([Ob.cells true false 2 [[V.hs 1 0 k2232, i64 z2233]], Ob.cells true true 1 l2234]) = some r.out := by
  unfold F29v1 at h
  obtain ⟨r0, h0, h⟩ := Option.bind_eq_some_iff.mp h
  have h0 := F28v1_ok (m + 0) (w64 (w64 (z2231 - z2230) + 1)) (k2232) (z2233) (l2234) r0 h0
  cases r0 with
  | a0 z2236 k2237 z2238 l2239 =>
    obtain ⟨r1, h1, h⟩ := Option.bind_eq_some_iff.mp h
    have h1 := F28v1_ok (m + 0) (4) (k2237) (z2238) (l2239) r1 h1
    cases r1 with
    | a0 z2240 k2241 z2242 l2243 =>
      rcases ite_eq h with ⟨h2, h⟩ | ⟨h2, h⟩
      · skip
        cases h
        exact call_pathL (gs := [.an (i64 z2236) [Ob.cells true false 2 [[V.hs 1 0 k2237, i64 z2238]], Ob.cells true true 1 l2239], .an (i64 z2240) [Ob.cells true false 2 [[V.hs 1 0 k2241, i64 z2242]], Ob.cells true true 1 l2243], .t]) (notIn []) rfl rfl (by kernel_rfl) (And.intro h0 (And.intro h1 (And.intro h2 True.intro)))
      · skip
        rcases ite_eq h with ⟨h3, h⟩ | ⟨h3, h⟩
        · skip
          obtain ⟨r4, h4, h⟩ := Option.bind_eq_some_iff.mp h
          have h4 := F28v1_ok (m + 0) (65536) (k2241) (z2242) (l2243) r4 h4
          cases r4 with
          | a0 z2248 k2249 z2250 l2251 =>
            cases h
            exact call_pathL (gs := [.an (i64 z2236) [Ob.cells true false 2 [[V.hs 1 0 k2237, i64 z2238]], Ob.cells true true 1 l2239], .an (i64 z2240) [Ob.cells true false 2 [[V.hs 1 0 k2241, i64 z2242]], Ob.cells true true 1 l2243], .f, .t, .an (i64 z2248) [Ob.cells true false 2 [[V.hs 1 0 k2249, i64 z2250]], Ob.cells true true 1 l2251]]) (notIn []) rfl rfl (by kernel_rfl) (And.intro h0 (And.intro h1 (And.intro (Bool.eq_false_iff.mpr h2) (And.intro h3 (And.intro h4 True.intro)))))
        · skip
          cases h
          exact call_pathL (gs := [.an (i64 z2236) [Ob.cells true false 2 [[V.hs 1 0 k2237, i64 z2238]], Ob.cells true true 1 l2239], .an (i64 z2240) [Ob.cells true false 2 [[V.hs 1 0 k2241, i64 z2242]], Ob.cells true true 1 l2243], .f, .f]) (notIn []) rfl rfl (by kernel_rfl) (And.intro h0 (And.intro h1 (And.intro (Bool.eq_false_iff.mpr h2) (And.intro (Bool.eq_false_iff.mpr h3) True.intro))))
/-! ## 11 -/
noncomputable abbrev B11v1 : Code := (Try.f11.body).getD .skip
inductive R11v1_0 where
  | e0 (k2311 : Nat) (z2312 : Int) (l2313 : List (List V)) (b2314 : Bool) (k2315 : Nat) (l2316 : List (List V))
@[reducible] def s11v1_0_0 (z2309 : Int) (b2310 : Bool) (k2311 : Nat) (z2312 : Int) (l2313 : List (List V)) (b2314 : Bool) (k2315 : Nat) (l2316 : List (List V)) : S := { T := V.ptr 0 0 0 :: U :: V.ptr 2 0 0 :: V.ptr 3 0 0 :: i64 z2309 :: un 7 (i64 z2309 :: vb b2310 :: un 23 []), σ := [Ob.cells true false 2 [[V.hs 1 0 k2311, i64 z2312]], Ob.cells true true 1 l2313, Ob.cells true false 2 [[vb false, V.hs 4 0 0]], Ob.cells true false 2 [[vb b2314, V.hs 5 0 k2315]], Ob.cells true true 2 [], Ob.cells true true 2 l2316] }
def R11v1_0.St : R11v1_0 → VX × S → Prop
  | .e0 k2311 z2312 l2313 b2314 k2315 l2316, p => ∃ z2309 : Int, ∃ b2310 : Bool, p = (VX.exit 0, s11v1_0_0 z2309 b2310 k2311 z2312 l2313 b2314 k2315 l2316)
def L11v1_0 : Nat → Int → Nat → Int → List (List V) → Bool → Nat → List (List V) → Option R11v1_0
  | 0, _, _, _, _, _, _, _ => none
  | n + 1, z2264, k2265, z2266, l2267, b2268, k2269, l2270 =>
    if z2264 > 0 then
     (F29v1 (-5) (20) (k2265) (z2266) (l2267)).bind fun r => match r with
     | .a0 z2297 k2298 z2299 l2300 =>
      (F29v1 (-5) (20) (k2298) (z2299) (l2300)).bind fun r => match r with
      | .a0 z2301 k2302 z2303 l2304 =>
       if 0 + k2269 ≤ List.length l2270 ∧ (k2269 + 1) * 16 ≤ 140737488355328 ∧ k2269 + 1 ≤ 140737488355328 then
        (F28v1 (6) (k2302) (z2303) (l2304)).bind fun r => match r with
        | .a0 z2305 k2306 z2307 l2308 =>
         if (z2305 == 0) = true then
          if 0 + (k2269 + 1) ≤ List.length (List.take k2269 l2270 ++ [[i64 z2297, i64 z2301]]) ∧ (k2269 + 1 + 1) * 16 ≤ 140737488355328 ∧ k2269 + 1 + 1 ≤ 140737488355328 then
           L11v1_0 n (w64 (z2264 - 1)) (k2306) (z2307) (l2308) (b2268) (k2269 + 1 + 1) (List.take (k2269 + 1) (List.take k2269 l2270 ++ [[i64 z2297, i64 z2301]]) ++ [[i64 z2297, i64 z2301]])
          else
           none -- none
         else
          L11v1_0 n (w64 (z2264 - 1)) (k2306) (z2307) (l2308) (b2268) (k2269 + 1) (List.take k2269 l2270 ++ [[i64 z2297, i64 z2301]])
       else
        none -- none
    else
     some (R11v1_0.e0 (k2265) (z2266) (l2267) (b2268) (k2269) (l2270))
theorem L11v1_0_ok (m : Nat) : ∀ (n : Nat) (z2264 : Int) (k2265 : Nat) (z2266 : Int) (l2267 : List (List V)) (b2268 : Bool) (k2269 : Nat) (l2270 : List (List V)) (r : R11v1_0), L11v1_0 n z2264 k2265 z2266 l2267 b2268 k2269 l2270 = some r → ∃ st, loopFrom Try.prog X (genO X (call Try.prog X O0 18446744073709551616 (m + 3))) 11 (2) 18446744073709551616 B11v1 0 n ({ T := V.ptr 0 0 0 :: U :: V.ptr 2 0 0 :: V.ptr 3 0 0 :: i64 z2264 :: un 32 [], σ := [Ob.cells true false 2 [[V.hs 1 0 k2265, i64 z2266]], Ob.cells true true 1 l2267, Ob.cells true false 2 [[vb false, V.hs 4 0 0]], Ob.cells true false 2 [[vb b2268, V.hs 5 0 k2269]], Ob.cells true true 2 [], Ob.cells true true 2 l2270] }) = some st ∧ r.St st
  | 0, _, _, _, _, _, _, _, r, h => by cases h
  | n + 1, z2264, k2265, z2266, l2267, b2268, k2269, l2270, r, h => by
    rw [L11v1_0] at h
    rcases ite_eq h with ⟨h0, h⟩ | ⟨h0, h⟩
    · skip
      obtain ⟨r1, h1, h⟩ := Option.bind_eq_some_iff.mp h
      have h1 := F29v1_ok (m + 0) (-5) (20) (k2265) (z2266) (l2267) r1 h1
      cases r1 with
      | a0 z2297 k2298 z2299 l2300 =>
        obtain ⟨r2, h2, h⟩ := Option.bind_eq_some_iff.mp h
        have h2 := F29v1_ok (m + 0) (-5) (20) (k2298) (z2299) (l2300) r2 h2
        cases r2 with
        | a0 z2301 k2302 z2303 l2304 =>
          rcases ite_eq h with ⟨h3, h⟩ | ⟨h3, h⟩
          · skip
            obtain ⟨r4, h4, h⟩ := Option.bind_eq_some_iff.mp h
            have h4 := F28v1_ok (m + 1) (6) (k2302) (z2303) (l2304) r4 h4
            cases r4 with
            | a0 z2305 k2306 z2307 l2308 =>
              rcases ite_eq h with ⟨h5, h⟩ | ⟨h5, h⟩
              · skip
                rcases ite_eq h with ⟨h6, h⟩ | ⟨h6, h⟩
                · skip
                  obtain ⟨st, hs, hr⟩ := L11v1_0_ok m n (w64 (z2264 - 1)) (k2306) (z2307) (l2308) (b2268) (k2269 + 1 + 1) (List.take (k2269 + 1) (List.take k2269 l2270 ++ [[i64 z2297, i64 z2301]]) ++ [[i64 z2297, i64 z2301]]) r h
                  exact ⟨st, (round_on (gs := [.t, .an (i64 z2297) [Ob.cells true false 2 [[V.hs 1 0 k2298, i64 z2299]], Ob.cells true true 1 l2300], .an (i64 z2301) [Ob.cells true false 2 [[V.hs 1 0 k2302, i64 z2303]], Ob.cells true true 1 l2304], .a, .a, .a, .a, .t, .a, .an (i64 z2305) [Ob.cells true false 2 [[V.hs 1 0 k2306, i64 z2307]], Ob.cells true true 1 l2308], .t, .a, .a, .a, .t, .a]) (notIn []) (by kernel_rfl) (And.intro (decide_eq_true h0) (And.intro h1 (And.intro h2 (And.intro (decide_eq_true h3) (And.intro h4 (And.intro h5 (And.intro (decide_eq_true h6) True.intro))))))) n).trans hs, hr⟩
                · skip
                  cases h
              · skip
                obtain ⟨st, hs, hr⟩ := L11v1_0_ok m n (w64 (z2264 - 1)) (k2306) (z2307) (l2308) (b2268) (k2269 + 1) (List.take k2269 l2270 ++ [[i64 z2297, i64 z2301]]) r h
                exact ⟨st, (round_on (gs := [.t, .an (i64 z2297) [Ob.cells true false 2 [[V.hs 1 0 k2298, i64 z2299]], Ob.cells true true 1 l2300], .an (i64 z2301) [Ob.cells true false 2 [[V.hs 1 0 k2302, i64 z2303]], Ob.cells true true 1 l2304], .a, .a, .a, .a, .t, .a, .an (i64 z2305) [Ob.cells true false 2 [[V.hs 1 0 k2306, i64 z2307]], Ob.cells true true 1 l2308], .f]) (notIn []) (by kernel_rfl) (And.intro (decide_eq_true h0) (And.intro h1 (And.intro h2 (And.intro (decide_eq_true h3) (And.intro h4 (And.intro (Bool.eq_false_iff.mpr h5) True.intro)))))) n).trans hs, hr⟩
          · skip
            cases h
    · skip
      cases h
      exact ⟨_, round_out (gs := [.f]) (notIn []) (by kernel_rfl) rfl (And.intro (decide_eq_false h0) True.intro) n, z2264, decide (z2264 > 0), rfl⟩
inductive A11v1 where
  | a0 (b2325 : Bool) (k2326 : Nat) (k2327 : Nat) (z2328 : Int) (l2329 : List (List V)) (l2330 : List (List V))
@[reducible] def A11v1.out : A11v1 → V × Store
  | .a0 b2325 k2326 k2327 z2328 l2329 l2330 => (V.agg [vb b2325, V.hs 2 0 k2326], [Ob.cells true false 2 [[V.hs 1 0 k2327, i64 z2328]], Ob.cells true true 1 l2329, Ob.cells true true 2 l2330])
def F11v1 (k2202 : Nat) (z2203 : Int) (l2204 : List (List V)) : Option A11v1 :=
  (F28v1 (2) (k2202) (z2203) (l2204)).bind fun r => match r with
  | .a0 z2289 k2290 z2291 l2292 =>
   (F28v1 (7) (k2290) (z2291) (l2292)).bind fun r => match r with
   | .a0 z2293 k2294 z2295 l2296 =>
    (L11v1_0 18446744073709551616 (z2293) (k2294) (z2295) (l2296) (z2289 == 0) (0) ([])).bind fun r => match r with
    | .e0 k2319 z2320 l2321 b2322 k2323 l2324 =>
     some (A11v1.a0 (b2322) (k2323) (k2319) (z2320) (l2321) (l2324))
theorem F11v1_ok (m : Nat) (k2202 : Nat) (z2203 : Int) (l2204 : List (List V)) (r : A11v1) (h : F11v1 k2202 z2203 l2204 = some r) : call Try.prog X O0 18446744073709551616 (m + 4) 11 ([V.ptr 0 0 0]) ([Ob.cells true false 2 [[V.hs 1 0 k2202, i64 z2203]], Ob.cells true true 1 l2204]) = some r.out := by
  unfold F11v1 at h
  obtain ⟨r0, h0, h⟩ := Option.bind_eq_some_iff.mp h
  have h0 := F28v1_ok (m + 1) (2) (k2202) (z2203) (l2204) r0 h0
  cases r0 with
  | a0 z2289 k2290 z2291 l2292 =>
    obtain ⟨r1, h1, h⟩ := Option.bind_eq_some_iff.mp h
    have h1 := F28v1_ok (m + 1) (7) (k2290) (z2291) (l2292) r1 h1
    cases r1 with
    | a0 z2293 k2294 z2295 l2296 =>
      obtain ⟨r2, h2, h⟩ := Option.bind_eq_some_iff.mp h
      obtain ⟨st2, h2, hr2⟩ := L11v1_0_ok m 18446744073709551616 (z2293) (k2294) (z2295) (l2296) (z2289 == 0) (0) ([]) r2 h2
      have h2 : loopRun Try.prog X (genO X (call Try.prog X O0 18446744073709551616 (m + 3))) 11 (2) 18446744073709551616 B11v1 0 ({ T := V.ptr 0 0 0 :: U :: V.ptr 2 0 0 :: V.ptr 3 0 0 :: i64 z2293 :: U :: V.ptr 0 0 0 :: i64 z2289 :: vb (z2289 == 0) :: V.agg [vb (z2289 == 0), V.nilS] :: V.ptr 0 0 0 :: i64 z2293 :: un 25 [], σ := [Ob.cells true false 2 [[V.hs 1 0 k2294, i64 z2295]], Ob.cells true true 1 l2296, Ob.cells true false 2 [[vb false, V.nilS]], Ob.cells true false 2 [[vb (z2289 == 0), V.nilS]]] }) = some st2 := by
        rw [loopRun_from, show pre X 11 (2) 0 ({ T := V.ptr 0 0 0 :: U :: V.ptr 2 0 0 :: V.ptr 3 0 0 :: i64 z2293 :: U :: V.ptr 0 0 0 :: i64 z2289 :: vb (z2289 == 0) :: V.agg [vb (z2289 == 0), V.nilS] :: V.ptr 0 0 0 :: i64 z2293 :: un 25 [], σ := [Ob.cells true false 2 [[V.hs 1 0 k2294, i64 z2295]], Ob.cells true true 1 l2296, Ob.cells true false 2 [[vb false, V.nilS]], Ob.cells true false 2 [[vb (z2289 == 0), V.nilS]]] }) = { T := V.ptr 0 0 0 :: U :: V.ptr 2 0 0 :: V.ptr 3 0 0 :: i64 z2293 :: un 32 [], σ := [Ob.cells true false 2 [[V.hs 1 0 k2294, i64 z2295]], Ob.cells true true 1 l2296, Ob.cells true false 2 [[vb false, V.hs 4 0 0]], Ob.cells true false 2 [[vb (z2289 == 0), V.hs 5 0 0]], Ob.cells true true 2 [], Ob.cells true true 2 []] } by kernel_rfl]
        exact h2
      cases r2 with
      | e0 k2319 z2320 l2321 b2322 k2323 l2324 =>
        obtain ⟨z2317, b2318, rfl⟩ := hr2
        cases h
        exact call_pathL (gs := [.an (i64 z2289) [Ob.cells true false 2 [[V.hs 1 0 k2290, i64 z2291]], Ob.cells true true 1 l2292], .a, .an (i64 z2293) [Ob.cells true false 2 [[V.hs 1 0 k2294, i64 z2295]], Ob.cells true true 1 l2296], .lp (VX.exit 0) (s11v1_0_0 z2317 b2318 k2319 z2320 l2321 b2322 k2323 l2324), .a, .a]) (notIn []) rfl rfl (by kernel_rfl) (And.intro h0 (And.intro h1 (And.intro h2 True.intro)))
/-! ## 6 -/
noncomputable abbrev B6 : Code := (Try.f6.body).getD .skip
inductive R6_4 where
  | e0
  | e1
  | e2
@[reducible] def s6_4_0 (z2592 : Int) (z2593 : Int) (b2594 : Bool) (k2595 : Nat) (b2596 : Bool) (b2597 : Bool) (l2598 : List (List V)) : S := { T := vb false :: un 4 (V.ptr 0 0 0 :: U :: i64 z2592 :: un 31 [V.hs 1 0 7, i64 7, i64 z2593, vb b2594, V.ptr 1 k2595 0, i64 z2592, V.agg [vb false, V.hs 2 0 3], i64 z2592, V.hs 3 0 1, vb b2596, vb b2597, vb b2597, E, E, E, E, E, vb true, U, U]), σ := [Ob.cells true false 2 [[vb false, V.hs 2 0 3]], Ob.cells true true 1 [[i64 (-1)], [i64 0], [i64 65535], [i64 65536], [i64 65537], [i64 67108864], [i64 67108865]], Ob.cells true true 2 [[i64 0, i64 0], [i64 67108864, i64 0], [i64 67108864, i64 67108864]], Ob.cells true true 1 l2598, Ob.vir] }
@[reducible] def s6_4_1 (z2600 : Int) (z2601 : Int) (b2602 : Bool) (k2603 : Nat) (b2604 : Bool) (b2605 : Bool) (b2606 : Bool) (b2607 : Bool) (l2608 : List (List V)) (l2609 : List (List V)) : S := { T := vb false :: un 4 (V.ptr 0 0 0 :: U :: i64 z2600 :: un 31 [V.hs 1 0 7, i64 7, i64 z2601, vb b2602, V.ptr 1 k2603 0, i64 z2600, V.agg [vb false, V.hs 2 0 3], i64 z2600, V.hs 3 0 1, vb b2604, vb b2605, vb b2605, V.agg [vb false, V.hs 2 0 3], i64 z2600, V.hs 4 0 2, vb b2606, vb b2607, vb b2607, U, U]), σ := [Ob.cells true false 2 [[vb false, V.hs 2 0 3]], Ob.cells true true 1 [[i64 (-1)], [i64 0], [i64 65535], [i64 65536], [i64 65537], [i64 67108864], [i64 67108865]], Ob.cells true true 2 [[i64 0, i64 0], [i64 67108864, i64 0], [i64 67108864, i64 67108864]], Ob.cells true true 1 l2608, Ob.cells true true 1 l2609] }
@[reducible] def s6_4_2 (z2610 : Int) (b2611 : Bool) : S := { T := un 5 (V.ptr 0 0 0 :: un 33 (V.hs 1 0 7 :: i64 7 :: i64 z2610 :: vb b2611 :: un 16 [])), σ := [Ob.cells true false 2 [[vb false, V.hs 2 0 3]], Ob.cells true true 1 [[i64 (-1)], [i64 0], [i64 65535], [i64 65536], [i64 65537], [i64 67108864], [i64 67108865]], Ob.cells true true 2 [[i64 0, i64 0], [i64 67108864, i64 0], [i64 67108864, i64 67108864]]] }
def R6_4.St : R6_4 → VX × S → Prop
  | .e0, p => ∃ z2592 : Int, ∃ z2593 : Int, ∃ b2594 : Bool, ∃ k2595 : Nat, ∃ b2596 : Bool, ∃ b2597 : Bool, ∃ l2598 : List (List V), p = (VX.ret, s6_4_0 z2592 z2593 b2594 k2595 b2596 b2597 l2598)
  | .e1, p => ∃ z2600 : Int, ∃ z2601 : Int, ∃ b2602 : Bool, ∃ k2603 : Nat, ∃ b2604 : Bool, ∃ b2605 : Bool, ∃ b2606 : Bool, ∃ b2607 : Bool, ∃ l2608 : List (List V), ∃ l2609 : List (List V), p = (VX.ret, s6_4_1 z2600 z2601 b2602 k2603 b2604 b2605 b2606 b2607 l2608 l2609)
  | .e2, p => ∃ z2610 : Int, ∃ b2611 : Bool, p = (VX.exit 4, s6_4_2 z2610 b2611)
def L6_4 : Nat → Int → Option R6_4
  | 0, _ => none
  | n + 1, z2513 =>
    if z2513 < 7 then
     if 0 ≤ z2513 ∧ z2513 < 7 then
      (([[i64 (-1 : Int)], [i64 (0 : Int)], [i64 (65535 : Int)], [i64 (65536 : Int)], [i64 (65537 : Int)], [i64 (67108864 : Int)], [i64 (67108865 : Int)]][(0 : Nat) + Int.toNat z2513]?).bind W2.dec).bind fun e2590 =>
      (F23 (false) ([[i64 0, i64 0], [i64 67108864, i64 0], [i64 67108864, i64 67108864]]) ([[i64 e2590.c0]])).bind fun r => match r with
      | .a0 b2591 =>
       if (!b2591) = true then
        some (R6_4.e0)
       else
        (F23 (false) ([[i64 0, i64 0], [i64 67108864, i64 0], [i64 67108864, i64 67108864]]) ([[i64 65536], [i64 e2590.c0]])).bind fun r => match r with
        | .a0 b2599 =>
         if (!b2599) = true then
          some (R6_4.e1)
         else
          L6_4 n (w64 (z2513 + 1))
     else
      none -- none
    else
     some (R6_4.e2)
theorem L6_4_ok (m : Nat) : ∀ (n : Nat) (z2513 : Int) (r : R6_4), L6_4 n z2513 = some r → ∃ st, loopFrom Try.prog X (genO X (call Try.prog X O0 18446744073709551616 (m + 10))) 6 (0) 18446744073709551616 B6 4 n ({ T := un 5 (V.ptr 0 0 0 :: un 33 (V.hs 1 0 7 :: i64 7 :: i64 z2513 :: un 17 [])), σ := [Ob.cells true false 2 [[vb false, V.hs 2 0 3]], Ob.cells true true 1 [[i64 (-1)], [i64 0], [i64 65535], [i64 65536], [i64 65537], [i64 67108864], [i64 67108865]], Ob.cells true true 2 [[i64 0, i64 0], [i64 67108864, i64 0], [i64 67108864, i64 67108864]]] }) = some st ∧ r.St st
  | 0, _, r, h => by cases h
  | n + 1, z2513, r, h => by
    rw [L6_4] at h
    rcases ite_eq h with ⟨h0, h⟩ | ⟨h0, h⟩
    · skip
      rcases ite_eq h with ⟨h1, h⟩ | ⟨h1, h⟩
      · skip
        obtain ⟨e2590, h2, h⟩ := Option.bind_eq_some_iff.mp h
        obtain ⟨r3, h3, h⟩ := Option.bind_eq_some_iff.mp h
        have h3 := F23_ok (m + 0) (false) ([[i64 0, i64 0], [i64 67108864, i64 0], [i64 67108864, i64 67108864]]) ([[i64 e2590.c0]]) r3 h3
        cases r3 with
        | a0 b2591 =>
          rcases ite_eq h with ⟨h4, h⟩ | ⟨h4, h⟩
          · skip
            cases h
            exact ⟨_, round_out (gs := [.t, .t, .el (W2.cells e2590), .a, .a, .a, .an (vb b2591) [], .t, .t, .t, .t, .t, .t, .a]) (notIn []) (by kernel_rfl) rfl (And.intro (decide_eq_true h0) (And.intro (decide_eq_true h1) (And.intro (W2.dec_ok h2) (And.intro h3 (And.intro h4 (And.intro h4 (And.intro h4 (And.intro h4 (And.intro h4 (And.intro h4 True.intro)))))))))) n, e2590.c0, z2513, decide (z2513 < 7), 0 + Int.toNat z2513, b2591, !b2591, [[i64 e2590.c0]], rfl⟩
          · skip
            obtain ⟨r5, h5, h⟩ := Option.bind_eq_some_iff.mp h
            have h5 := F23_ok (m + 0) (false) ([[i64 0, i64 0], [i64 67108864, i64 0], [i64 67108864, i64 67108864]]) ([[i64 65536], [i64 e2590.c0]]) r5 h5
            cases r5 with
            | a0 b2599 =>
              rcases ite_eq h with ⟨h6, h⟩ | ⟨h6, h⟩
              · skip
                cases h
                exact ⟨_, round_out (gs := [.t, .t, .el (W2.cells e2590), .a, .a, .a, .an (vb b2591) [], .f, .a, .f, .f, .f, .a, .a, .an (vb b2599) [], .f, .f, .t]) (notIn []) (by kernel_rfl) rfl (And.intro (decide_eq_true h0) (And.intro (decide_eq_true h1) (And.intro (W2.dec_ok h2) (And.intro h3 (And.intro (Bool.eq_false_iff.mpr h4) (And.intro (Bool.eq_false_iff.mpr h4) (And.intro (Bool.eq_false_iff.mpr h4) (And.intro (Bool.eq_false_iff.mpr h4) (And.intro h5 (And.intro (Bool.eq_false_iff.mpr h4) (And.intro (Bool.eq_false_iff.mpr h4) (And.intro h6 True.intro)))))))))))) n, e2590.c0, z2513, decide (z2513 < 7), 0 + Int.toNat z2513, b2591, !b2591, b2599, !b2599, [[i64 e2590.c0]], [[i64 65536], [i64 e2590.c0]], rfl⟩
              · skip
                obtain ⟨st, hs, hr⟩ := L6_4_ok m n (w64 (z2513 + 1)) r h
                exact ⟨st, (round_on (gs := [.t, .t, .el (W2.cells e2590), .a, .a, .a, .an (vb b2591) [], .f, .a, .f, .f, .f, .a, .a, .an (vb b2599) [], .f, .f, .f]) (notIn []) (by kernel_rfl) (And.intro (decide_eq_true h0) (And.intro (decide_eq_true h1) (And.intro (W2.dec_ok h2) (And.intro h3 (And.intro (Bool.eq_false_iff.mpr h4) (And.intro (Bool.eq_false_iff.mpr h4) (And.intro (Bool.eq_false_iff.mpr h4) (And.intro (Bool.eq_false_iff.mpr h4) (And.intro h5 (And.intro (Bool.eq_false_iff.mpr h4) (And.intro (Bool.eq_false_iff.mpr h4) (And.intro (Bool.eq_false_iff.mpr h6) True.intro)))))))))))) n).trans hs, hr⟩
      · skip
        cases h
    · skip
      cases h
      exact ⟨_, round_out (gs := [.f]) (notIn []) (by kernel_rfl) rfl (And.intro (decide_eq_false h0) True.intro) n, z2513, decide (z2513 < 7), rfl⟩
inductive R6_2 where
  | e0
  | e1 (z2540 : Int)
@[reducible] def s6_2_0 (z2530 : Int) (k2531 : Nat) (z2532 : Int) (b2533 : Bool) (b2534 : Bool) (k2535 : Nat) (b2536 : Bool) (b2537 : Bool) (l2538 : List (List V)) (l2539 : List (List V)) : S := { T := vb false :: i64 z2530 :: V.ptr 0 0 0 :: V.hs 1 0 k2531 :: i64 z2532 :: un 10 (i64 z2532 :: vb b2533 :: U :: U :: V.agg [vb b2534, V.hs 2 0 k2535] :: V.hs 1 0 k2531 :: vb b2536 :: vb b2537 :: un 36 []), σ := [Ob.cells true false 2 [[vb b2534, V.hs 2 0 k2535]], Ob.cells true true 1 l2538, Ob.cells true true 2 l2539] }
@[reducible] def s6_2_1 (z2540 : Int) (k2541 : Nat) (z2542 : Int) (b2543 : Bool) (b2544 : Bool) (k2545 : Nat) (l2546 : List (List V)) (l2547 : List (List V)) : S := { T := U :: i64 z2540 :: V.ptr 0 0 0 :: V.hs 1 0 k2541 :: i64 z2542 :: un 10 (i64 z2542 :: vb b2543 :: un 42 []), σ := [Ob.cells true false 2 [[vb b2544, V.hs 2 0 k2545]], Ob.cells true true 1 l2546, Ob.cells true true 2 l2547] }
def R6_2.St : R6_2 → VX × S → Prop
  | .e0, p => ∃ z2530 : Int, ∃ k2531 : Nat, ∃ z2532 : Int, ∃ b2533 : Bool, ∃ b2534 : Bool, ∃ k2535 : Nat, ∃ b2536 : Bool, ∃ b2537 : Bool, ∃ l2538 : List (List V), ∃ l2539 : List (List V), p = (VX.ret, s6_2_0 z2530 k2531 z2532 b2533 b2534 k2535 b2536 b2537 l2538 l2539)
  | .e1 z2540, p => ∃ k2541 : Nat, ∃ z2542 : Int, ∃ b2543 : Bool, ∃ b2544 : Bool, ∃ k2545 : Nat, ∃ l2546 : List (List V), ∃ l2547 : List (List V), p = (VX.exit 2, s6_2_1 z2540 k2541 z2542 b2543 b2544 k2545 l2546 l2547)
def L6_2 : Nat → Int → Nat → Int → Bool → Nat → List (List V) → List (List V) → Option R6_2
  | 0, _, _, _, _, _, _, _ => none
  | n + 1, z2437, k2438, z2439, b2440, k2441, l2442, l2443 =>
    if z2439 < 10 then
     if 0 + k2441 ≤ List.length l2443 then
      if 0 + k2438 ≤ List.length l2442 then
       (F23 (b2440) (List.take k2441 l2443) (List.take k2438 l2442)).bind fun r => match r with
       | .a0 b2529 =>
        if (!b2529) = true then
         some (R6_2.e0)
        else
         if 0 + k2438 ≤ List.length l2442 ∧ (k2438 + 1) * 8 ≤ 140737488355328 ∧ k2438 + 1 ≤ 140737488355328 then
          L6_2 n (z2437) (k2438 + 1) (w64 (z2439 + 1)) (b2440) (k2441) (List.take k2438 l2442 ++ [[i64 (w64 (w64 (w64 (1 + Int.tmod (w64 (z2439 * z2437)) 5) * 65536) + z2439))]]) (l2443)
         else
          none -- none
      else
       none -- none
     else
      none -- none
    else
     some (R6_2.e1 (z2437))
theorem L6_2_ok (m : Nat) : ∀ (n : Nat) (z2437 : Int) (k2438 : Nat) (z2439 : Int) (b2440 : Bool) (k2441 : Nat) (l2442 : List (List V)) (l2443 : List (List V)) (r : R6_2), L6_2 n z2437 k2438 z2439 b2440 k2441 l2442 l2443 = some r → ∃ st, loopFrom Try.prog X (genO X (call Try.prog X O0 18446744073709551616 (m + 10))) 6 (0) 18446744073709551616 B6 2 n ({ T := U :: i64 z2437 :: V.ptr 0 0 0 :: V.hs 1 0 k2438 :: i64 z2439 :: un 54 [], σ := [Ob.cells true false 2 [[vb b2440, V.hs 2 0 k2441]], Ob.cells true true 1 l2442, Ob.cells true true 2 l2443] }) = some st ∧ r.St st
  | 0, _, _, _, _, _, _, _, r, h => by cases h
  | n + 1, z2437, k2438, z2439, b2440, k2441, l2442, l2443, r, h => by
    rw [L6_2] at h
    rcases ite_eq h with ⟨h0, h⟩ | ⟨h0, h⟩
    · skip
      rcases ite_eq h with ⟨h1, h⟩ | ⟨h1, h⟩
      · skip
        rcases ite_eq h with ⟨h2, h⟩ | ⟨h2, h⟩
        · skip
          obtain ⟨r3, h3, h⟩ := Option.bind_eq_some_iff.mp h
          have h3 := F23_ok (m + 0) (b2440) (List.take k2441 l2443) (List.take k2438 l2442) r3 h3
          cases r3 with
          | a0 b2529 =>
            rcases ite_eq h with ⟨h4, h⟩ | ⟨h4, h⟩
            · skip
              cases h
              exact ⟨_, round_out (gs := [.t, .a, .t, .t, .an (vb b2529) [], .t]) (notIn []) (by kernel_rfl) rfl (And.intro (decide_eq_true h0) (And.intro (decide_eq_true h1) (And.intro (decide_eq_true h2) (And.intro h3 (And.intro h4 True.intro))))) n, z2437, k2438, z2439, decide (z2439 < 10), b2440, k2441, b2529, !b2529, l2442, l2443, rfl⟩
            · skip
              rcases ite_eq h with ⟨h5, h⟩ | ⟨h5, h⟩
              · skip
                obtain ⟨st, hs, hr⟩ := L6_2_ok m n (z2437) (k2438 + 1) (w64 (z2439 + 1)) (b2440) (k2441) (List.take k2438 l2442 ++ [[i64 (w64 (w64 (w64 (1 + Int.tmod (w64 (z2439 * z2437)) 5) * 65536) + z2439))]]) (l2443) r h
                exact ⟨st, (round_on (gs := [.t, .a, .t, .t, .an (vb b2529) [], .f, .a, .a, .t]) (notIn []) (by kernel_rfl) (And.intro (decide_eq_true h0) (And.intro (decide_eq_true h1) (And.intro (decide_eq_true h2) (And.intro h3 (And.intro (Bool.eq_false_iff.mpr h4) (And.intro (decide_eq_true h5) True.intro)))))) n).trans hs, hr⟩
              · skip
                cases h
        · skip
          cases h
      · skip
        cases h
    · skip
      cases h
      exact ⟨_, round_out (gs := [.f]) (notIn []) (by kernel_rfl) rfl (And.intro (decide_eq_false h0) True.intro) n, k2438, z2439, decide (z2439 < 10), b2440, k2441, l2442, l2443, rfl⟩
inductive R6_0 where
  | e0
  | e1
@[reducible] def s6_0_0 (z2558 : Int) (k2559 : Nat) (z2560 : Int) (b2561 : Bool) (b2562 : Bool) (k2563 : Nat) (b2564 : Bool) (b2565 : Bool) (l2566 : List (List V)) (l2567 : List (List V)) : S := { T := vb false :: i64 z2558 :: V.ptr 0 0 0 :: V.hs 1 0 k2559 :: i64 z2560 :: un 10 (i64 z2560 :: vb b2561 :: U :: U :: V.agg [vb b2562, V.hs 2 0 k2563] :: V.hs 1 0 k2559 :: vb b2564 :: vb b2565 :: un 36 []), σ := [Ob.cells true false 2 [[vb b2562, V.hs 2 0 k2563]], Ob.cells true true 1 l2566, Ob.cells true true 2 l2567] }
@[reducible] def s6_0_1 (z2576 : Int) (b2577 : Bool) : S := { T := U :: i64 z2576 :: un 6 (i64 z2576 :: vb b2577 :: un 49 []), σ := [] }
def R6_0.St : R6_0 → VX × S → Prop
  | .e0, p => ∃ z2558 : Int, ∃ k2559 : Nat, ∃ z2560 : Int, ∃ b2561 : Bool, ∃ b2562 : Bool, ∃ k2563 : Nat, ∃ b2564 : Bool, ∃ b2565 : Bool, ∃ l2566 : List (List V), ∃ l2567 : List (List V), p = (VX.ret, s6_0_0 z2558 k2559 z2560 b2561 b2562 k2563 b2564 b2565 l2566 l2567)
  | .e1, p => ∃ z2576 : Int, ∃ b2577 : Bool, p = (VX.exit 0, s6_0_1 z2576 b2577)
def L6_0 : Nat → Int → Option R6_0
  | 0, _ => none
  | n + 1, z2418 =>
    if z2418 < 30 then
     (F22 (z2418)).bind fun r => match r with
     | .a0 k2520 z2521 l2522 =>
      (F11v1 (k2520) (z2521) (l2522)).bind fun r => match r with
      | .a0 b2523 k2524 k2525 z2526 l2527 l2528 =>
       (L6_2 18446744073709551616 (z2418) (0) (0) (b2523) (k2524) ([]) (l2528)).bind fun r => match r with
       | .e0 =>
        some (R6_0.e0)
       | .e1 z2568 =>
        L6_0 n (w64 (z2568 + 1))
    else
     some (R6_0.e1)
theorem L6_0_ok (m : Nat) : ∀ (n : Nat) (z2418 : Int) (r : R6_0), L6_0 n z2418 = some r → ∃ st, loopFrom Try.prog X (genO X (call Try.prog X O0 18446744073709551616 (m + 10))) 6 (0) 18446744073709551616 B6 0 n ({ T := U :: i64 z2418 :: un 57 [], σ := [] }) = some st ∧ r.St st
  | 0, _, r, h => by cases h
  | n + 1, z2418, r, h => by
    rw [L6_0] at h
    rcases ite_eq h with ⟨h0, h⟩ | ⟨h0, h⟩
    · skip
      obtain ⟨r1, h1, h⟩ := Option.bind_eq_some_iff.mp h
      have h1 := F22_ok (m + 9) (z2418) r1 h1
      cases r1 with
      | a0 k2520 z2521 l2522 =>
        obtain ⟨r2, h2, h⟩ := Option.bind_eq_some_iff.mp h
        have h2 := F11v1_ok (m + 6) (k2520) (z2521) (l2522) r2 h2
        cases r2 with
        | a0 b2523 k2524 k2525 z2526 l2527 l2528 =>
          obtain ⟨r3, h3, h⟩ := Option.bind_eq_some_iff.mp h
          obtain ⟨st3, h3, hr3⟩ := L6_2_ok m 18446744073709551616 (z2418) (0) (0) (b2523) (k2524) ([]) (l2528) r3 h3
          have h3 : loopRun Try.prog X (genO X (call Try.prog X O0 18446744073709551616 (m + 10))) 6 (0) 18446744073709551616 B6 2 ({ T := U :: i64 z2418 :: V.ptr 6 0 0 :: V.nilS :: i64 0 :: U :: U :: U :: i64 z2418 :: vb (decide (z2418 < 30)) :: U :: U :: i64 z2418 :: V.ptr 0 0 0 :: V.agg [vb b2523, V.hs 5 0 k2524] :: un 44 [], σ := [Ob.cells true false 2 [[V.hs 1 0 k2525, i64 z2526]], Ob.cells true true 1 l2527, Ob.vir, Ob.vir, Ob.vir, Ob.cells true true 2 l2528, Ob.cells true false 2 [[vb b2523, V.hs 5 0 k2524]]] }) = some st3 := by
            rw [loopRun_from, show pre X 6 (0) 2 ({ T := U :: i64 z2418 :: V.ptr 6 0 0 :: V.nilS :: i64 0 :: U :: U :: U :: i64 z2418 :: vb (decide (z2418 < 30)) :: U :: U :: i64 z2418 :: V.ptr 0 0 0 :: V.agg [vb b2523, V.hs 5 0 k2524] :: un 44 [], σ := [Ob.cells true false 2 [[V.hs 1 0 k2525, i64 z2526]], Ob.cells true true 1 l2527, Ob.vir, Ob.vir, Ob.vir, Ob.cells true true 2 l2528, Ob.cells true false 2 [[vb b2523, V.hs 5 0 k2524]]] }) = { T := U :: i64 z2418 :: V.ptr 0 0 0 :: V.hs 1 0 0 :: i64 0 :: un 54 [], σ := [Ob.cells true false 2 [[vb b2523, V.hs 2 0 k2524]], Ob.cells true true 1 [], Ob.cells true true 2 l2528] } by kernel_rfl]
            exact h3
          cases r3 with
          | e0 =>
            obtain ⟨z2548, k2549, z2550, b2551, b2552, k2553, b2554, b2555, l2556, l2557, rfl⟩ := hr3
            cases h
            exact ⟨_, round_out (gs := [.t, .an (V.ptr 0 0 0) [Ob.cells true false 2 [[V.hs 1 0 k2520, i64 z2521]], Ob.cells true true 1 l2522], .an (V.agg [vb b2523, V.hs 2 0 k2524]) [Ob.cells true false 2 [[V.hs 1 0 k2525, i64 z2526]], Ob.cells true true 1 l2527, Ob.cells true true 2 l2528], .a, .lp (VX.ret) (s6_2_0 z2548 k2549 z2550 b2551 b2552 k2553 b2554 b2555 l2556 l2557)]) (notIn []) (by kernel_rfl) rfl (And.intro (decide_eq_true h0) (And.intro h1 (And.intro h2 (And.intro h3 True.intro)))) n, z2548, k2549, z2550, b2551, b2552, k2553, b2554, b2555, l2556, l2557, rfl⟩
          | e1 z2568 =>
            obtain ⟨k2569, z2570, b2571, b2572, k2573, l2574, l2575, rfl⟩ := hr3
            obtain ⟨st, hs, hr⟩ := L6_0_ok m n (w64 (z2568 + 1)) r h
            exact ⟨st, (round_on (gs := [.t, .an (V.ptr 0 0 0) [Ob.cells true false 2 [[V.hs 1 0 k2520, i64 z2521]], Ob.cells true true 1 l2522], .an (V.agg [vb b2523, V.hs 2 0 k2524]) [Ob.cells true false 2 [[V.hs 1 0 k2525, i64 z2526]], Ob.cells true true 1 l2527, Ob.cells true true 2 l2528], .a, .lp (VX.exit 2) (s6_2_1 z2568 k2569 z2570 b2571 b2572 k2573 l2574 l2575)]) (notIn []) (by kernel_rfl) (And.intro (decide_eq_true h0) (And.intro h1 (And.intro h2 (And.intro h3 True.intro)))) n).trans hs, hr⟩
    · skip
      cases h
      exact ⟨_, round_out (gs := [.f]) (notIn []) (by kernel_rfl) rfl (And.intro (decide_eq_false h0) True.intro) n, z2418, decide (z2418 < 30), rfl⟩
inductive A6 where
  | a0 (b2632 : Bool)
@[reducible] def A6.out : A6 → V × Store
  | .a0 b2632 => (vb b2632, [])
def F6 : Option A6 :=
  (L6_0 18446744073709551616 (0)).bind fun r => match r with
  | .e0 =>
   none -- false
  | .e1 =>
   (L6_4 18446744073709551616 (0)).bind fun r => match r with
   | .e0 =>
    none -- false
   | .e1 =>
    none -- false
   | .e2 =>
    (F14).bind fun r => match r with
    | .a0 b2631 =>
     some (A6.a0 (b2631))
theorem F6_ok (m : Nat) (r : A6) (h : F6 = some r) : call Try.prog X O0 18446744073709551616 (m + 11) 6 ([]) ([]) = some r.out := by
  unfold F6 at h
  obtain ⟨r0, h0, h⟩ := Option.bind_eq_some_iff.mp h
  obtain ⟨st0, h0, hr0⟩ := L6_0_ok m 18446744073709551616 (0) r0 h0
  have h0 : loopRun Try.prog X (genO X (call Try.prog X O0 18446744073709551616 (m + 10))) 6 (0) 18446744073709551616 B6 0 ({ T := vb false :: i64 0 :: un 57 [], σ := [] }) = some st0 := by
    rw [loopRun_from, show pre X 6 (0) 0 ({ T := vb false :: i64 0 :: un 57 [], σ := [] }) = { T := U :: i64 0 :: un 57 [], σ := [] } by kernel_rfl]
    exact h0
  cases r0 with
  | e0 =>
    obtain ⟨z2578, k2579, z2580, b2581, b2582, k2583, b2584, b2585, l2586, l2587, rfl⟩ := hr0
    cases h
  | e1 =>
    obtain ⟨z2588, b2589, rfl⟩ := hr0
    obtain ⟨r1, h1, h⟩ := Option.bind_eq_some_iff.mp h
    obtain ⟨st1, h1, hr1⟩ := L6_4_ok m 18446744073709551616 (0) r1 h1
    have h1 : loopRun Try.prog X (genO X (call Try.prog X O0 18446744073709551616 (m + 10))) 6 (0) 18446744073709551616 B6 4 ({ T := U :: i64 z2588 :: U :: U :: U :: V.ptr 1 0 0 :: U :: U :: i64 z2588 :: vb b2589 :: un 24 (V.agg [i64 0, i64 0] :: V.agg [i64 67108864, i64 0] :: V.agg [i64 67108864, i64 67108864] :: V.hs 0 0 3 :: V.agg [vb false, V.hs 0 0 3] :: V.hs 2 0 7 :: i64 7 :: i64 0 :: un 17 []), σ := [Ob.cells true true 2 [[i64 0, i64 0], [i64 67108864, i64 0], [i64 67108864, i64 67108864]], Ob.cells true false 2 [[vb false, V.hs 0 0 3]], Ob.cells true true 1 [[i64 (-1)], [i64 0], [i64 65535], [i64 65536], [i64 65537], [i64 67108864], [i64 67108865]]] }) = some st1 := by
      rw [loopRun_from, show pre X 6 (0) 4 ({ T := U :: i64 z2588 :: U :: U :: U :: V.ptr 1 0 0 :: U :: U :: i64 z2588 :: vb b2589 :: un 24 (V.agg [i64 0, i64 0] :: V.agg [i64 67108864, i64 0] :: V.agg [i64 67108864, i64 67108864] :: V.hs 0 0 3 :: V.agg [vb false, V.hs 0 0 3] :: V.hs 2 0 7 :: i64 7 :: i64 0 :: un 17 []), σ := [Ob.cells true true 2 [[i64 0, i64 0], [i64 67108864, i64 0], [i64 67108864, i64 67108864]], Ob.cells true false 2 [[vb false, V.hs 0 0 3]], Ob.cells true true 1 [[i64 (-1)], [i64 0], [i64 65535], [i64 65536], [i64 65537], [i64 67108864], [i64 67108865]]] }) = { T := un 5 (V.ptr 0 0 0 :: un 33 (V.hs 1 0 7 :: i64 7 :: i64 0 :: un 17 [])), σ := [Ob.cells true false 2 [[vb false, V.hs 2 0 3]], Ob.cells true true 1 [[i64 (-1)], [i64 0], [i64 65535], [i64 65536], [i64 65537], [i64 67108864], [i64 67108865]], Ob.cells true true 2 [[i64 0, i64 0], [i64 67108864, i64 0], [i64 67108864, i64 67108864]]] } by kernel_rfl]
      exact h1
    cases r1 with
    | e0 =>
      obtain ⟨z2612, z2613, b2614, k2615, b2616, b2617, l2618, rfl⟩ := hr1
      cases h
    | e1 =>
      obtain ⟨z2619, z2620, b2621, k2622, b2623, b2624, b2625, b2626, l2627, l2628, rfl⟩ := hr1
      cases h
    | e2 =>
      obtain ⟨z2629, b2630, rfl⟩ := hr1
      obtain ⟨r2, h2, h⟩ := Option.bind_eq_some_iff.mp h
      have h2 := F14_ok (m + 2) r2 h2
      cases r2 with
      | a0 b2631 =>
        cases h
        exact call_pathL (gs := [.lp (VX.exit 0) (s6_0_1 z2588 b2589), .a, .lp (VX.exit 4) (s6_4_2 z2629 b2630), .an (vb b2631) []]) (notIn []) rfl rfl (by kernel_rfl) (And.intro h0 (And.intro h1 (And.intro h2 True.intro)))

end Go.Proofs.Ytojigbcgmneiiaa.H
