/- What the functions compute, and that they do so over the machine of plain values (printed by this session's program wip/vm/Walk.lean). No condition beyond those stated. -/
import Derived.Test.YtojigbcgmneiiaaWk
import Derived.Test.YtojigbcgmneiiaaPSb
set_option linter.unusedVariables false
set_option linter.unusedSimpArgs false
namespace Go.Proofs.Ytojigbcgmneiiaa.H
open Go Go.VM
set_option maxRecDepth 100000
/-! ## 84 -/
inductive A84 where
  | a0 (z1331 : Int)
@[reducible] def A84.out : A84 → V × Store
  | .a0 z1331 => (i64 z1331, [])
def F84 (z1326 : Int) (z1327 : Int) (z1328 : Int) (b1329 : Bool) : Option A84 :=
  if z1326 ≥ z1328 then
   if (b1329) = true then
    some (A84.a0 (-1099511627776))
   else
    some (A84.a0 (1099511627776))
  else
   (F87 (z1326) (z1327) (z1328)).bind fun r => match r with
   | .a0 z1896 z1897 =>
    if (b1329) = true then
     if z1897 > 0 then
      if z1896 < 4611686018427387904 then
       bnd (F45 (w64 (0 - w64 (if 4611686018427387904 < IntKind.wrap IntKind.u64 (z1896 + 1) then 4611686018427387904 else IntKind.wrap IntKind.u64 (z1896 + 1))))) fun z1898 =>
       some (A84.a0 (z1898))
      else
       bnd (F45 (w64 (0 - w64 (if 4611686018427387904 < z1896 then 4611686018427387904 else z1896)))) fun z1899 =>
       some (A84.a0 (z1899))
     else
      bnd (F45 (w64 (0 - w64 (if 4611686018427387904 < z1896 then 4611686018427387904 else z1896)))) fun z1900 =>
      some (A84.a0 (z1900))
    else
     bnd (F45 (w64 (if 4611686018427387904 < z1896 then 4611686018427387904 else z1896))) fun z1901 =>
     some (A84.a0 (z1901))
theorem F84_ok (m : Nat) (z1326 : Int) (z1327 : Int) (z1328 : Int) (b1329 : Bool) (r : A84) (h : F84 z1326 z1327 z1328 b1329 = some r) : call Try.prog X O0 18446744073709551616 (m + 4) 84 ([V.int IntKind.u64 z1326, V.int IntKind.u64 z1327, V.int IntKind.u64 z1328, vb b1329]) ([]) = some r.out := by
  unfold F84 at h
  rcases ite_eq h with ⟨h0, h⟩ | ⟨h0, h⟩
  · skip
    rcases ite_eq h with ⟨h1, h⟩ | ⟨h1, h⟩
    · skip
      cases h
      exact call_pathL (gs := [.t, .t]) (notIn []) rfl rfl (by kernel_rfl) (And.intro (decide_eq_true h0) (And.intro h1 True.intro))
    · skip
      cases h
      exact call_pathL (gs := [.t, .f]) (notIn []) rfl rfl (by kernel_rfl) (And.intro (decide_eq_true h0) (And.intro (Bool.eq_false_iff.mpr h1) True.intro))
  · skip
    obtain ⟨r1, h1, h⟩ := Option.bind_eq_some_iff.mp h
    have h1 := F87_ok (m + 0) (z1326) (z1327) (z1328) r1 h1
    cases r1 with
    | a0 z1896 z1897 =>
      rcases ite_eq h with ⟨h2, h⟩ | ⟨h2, h⟩
      · skip
        rcases ite_eq h with ⟨h3, h⟩ | ⟨h3, h⟩
        · skip
          rcases ite_eq h with ⟨h4, h⟩ | ⟨h4, h⟩
          · skip
            obtain ⟨z1898, h5, h⟩ := bnd_eq h
            cases h
            exact call_pathL (gs := [.f, .an (V.tup [V.int IntKind.u64 z1896, V.int IntKind.u64 z1897]) [], .t, .t, .t, .t, .t, .t, .t, .t, .an (i64 z1898) []]) (notIn []) rfl rfl (by kernel_rfl) (And.intro (decide_eq_false h0) (And.intro h1 (And.intro h2 (And.intro h2 (And.intro h2 (And.intro (decide_eq_true h3) (And.intro (decide_eq_true h3) (And.intro (decide_eq_true h3) (And.intro (decide_eq_true h4) (And.intro h2 (And.intro (F45_ok (m + 1) (w64 (0 - w64 (if 4611686018427387904 < IntKind.wrap IntKind.u64 (z1896 + 1) then 4611686018427387904 else IntKind.wrap IntKind.u64 (z1896 + 1)))) z1898 h5) True.intro)))))))))))
          · skip
            obtain ⟨z1899, h5, h⟩ := bnd_eq h
            cases h
            exact call_pathL (gs := [.f, .an (V.tup [V.int IntKind.u64 z1896, V.int IntKind.u64 z1897]) [], .t, .t, .t, .t, .t, .t, .f, .t, .an (i64 z1899) []]) (notIn []) rfl rfl (by kernel_rfl) (And.intro (decide_eq_false h0) (And.intro h1 (And.intro h2 (And.intro h2 (And.intro h2 (And.intro (decide_eq_true h3) (And.intro (decide_eq_true h3) (And.intro (decide_eq_true h3) (And.intro (decide_eq_false h4) (And.intro h2 (And.intro (F45_ok (m + 1) (w64 (0 - w64 (if 4611686018427387904 < z1896 then 4611686018427387904 else z1896))) z1899 h5) True.intro)))))))))))
        · skip
          obtain ⟨z1900, h4, h⟩ := bnd_eq h
          cases h
          exact call_pathL (gs := [.f, .an (V.tup [V.int IntKind.u64 z1896, V.int IntKind.u64 z1897]) [], .t, .t, .t, .f, .f, .f, .a, .t, .an (i64 z1900) []]) (notIn []) rfl rfl (by kernel_rfl) (And.intro (decide_eq_false h0) (And.intro h1 (And.intro h2 (And.intro h2 (And.intro h2 (And.intro (decide_eq_false h3) (And.intro (decide_eq_false h3) (And.intro (decide_eq_false h3) (And.intro h2 (And.intro (F45_ok (m + 1) (w64 (0 - w64 (if 4611686018427387904 < z1896 then 4611686018427387904 else z1896))) z1900 h4) True.intro))))))))))
      · skip
        obtain ⟨z1901, h3, h⟩ := bnd_eq h
        cases h
        exact call_pathL (gs := [.f, .an (V.tup [V.int IntKind.u64 z1896, V.int IntKind.u64 z1897]) [], .f, .f, .f, .a, .a, .a, .a, .f, .an (i64 z1901) []]) (notIn []) rfl rfl (by kernel_rfl) (And.intro (decide_eq_false h0) (And.intro h1 (And.intro (Bool.eq_false_iff.mpr h2) (And.intro (Bool.eq_false_iff.mpr h2) (And.intro (Bool.eq_false_iff.mpr h2) (And.intro (Bool.eq_false_iff.mpr h2) (And.intro (F45_ok (m + 1) (w64 (if 4611686018427387904 < z1896 then 4611686018427387904 else z1896)) z1901 h3) True.intro)))))))
/-! ## 68 -/
inductive A68 where
  | a0 (z1323 : Int)
@[reducible] def A68.out : A68 → V × Store
  | .a0 z1323 => (i64 z1323, [])
def F68 (z1305 : Int) (z1306 : Int) : Option A68 :=
  bnd (F45 (z1305)) fun z1313 =>
  (F82 (z1313)).bind fun r => match r with
  | .a0 z1318 b1319 =>
   bnd (F45 (z1306)) fun z1320 =>
   (F82 (z1320)).bind fun r => match r with
   | .a0 z1321 b1322 =>
    if (z1321 == 0) = true then
     some (A68.a0 (0))
    else
     (F83 (z1318) (65536)).bind fun r => match r with
     | .a0 z1324 z1325 =>
      (F84 (z1324) (z1325) (z1321) (!b1319 == b1322)).bind fun r => match r with
      | .a0 z1902 =>
       some (A68.a0 (z1902))
theorem F68_ok (m : Nat) (z1305 : Int) (z1306 : Int) (r : A68) (h : F68 z1305 z1306 = some r) : call Try.prog X O0 18446744073709551616 (m + 5) 68 ([i64 z1305, i64 z1306]) ([]) = some r.out := by
  unfold F68 at h
  obtain ⟨z1313, h0, h⟩ := bnd_eq h
  obtain ⟨r1, h1, h⟩ := Option.bind_eq_some_iff.mp h
  have h1 := F82_ok (m + 3) (z1313) r1 h1
  cases r1 with
  | a0 z1318 b1319 =>
    obtain ⟨z1320, h2, h⟩ := bnd_eq h
    obtain ⟨r3, h3, h⟩ := Option.bind_eq_some_iff.mp h
    have h3 := F82_ok (m + 3) (z1320) r3 h3
    cases r3 with
    | a0 z1321 b1322 =>
      rcases ite_eq h with ⟨h4, h⟩ | ⟨h4, h⟩
      · skip
        cases h
        exact call_pathL (gs := [.an (i64 z1313) [], .an (V.tup [V.int IntKind.u64 z1318, vb b1319]) [], .an (i64 z1320) [], .an (V.tup [V.int IntKind.u64 z1321, vb b1322]) [], .t]) (notIn []) rfl rfl (by kernel_rfl) (And.intro (F45_ok (m + 2) (z1305) z1313 h0) (And.intro h1 (And.intro (F45_ok (m + 2) (z1306) z1320 h2) (And.intro h3 (And.intro h4 True.intro)))))
      · skip
        obtain ⟨r5, h5, h⟩ := Option.bind_eq_some_iff.mp h
        have h5 := F83_ok (m + 3) (z1318) (65536) r5 h5
        cases r5 with
        | a0 z1324 z1325 =>
          obtain ⟨r6, h6, h⟩ := Option.bind_eq_some_iff.mp h
          have h6 := F84_ok (m + 0) (z1324) (z1325) (z1321) (!b1319 == b1322) r6 h6
          cases r6 with
          | a0 z1902 =>
            cases h
            exact call_pathL (gs := [.an (i64 z1313) [], .an (V.tup [V.int IntKind.u64 z1318, vb b1319]) [], .an (i64 z1320) [], .an (V.tup [V.int IntKind.u64 z1321, vb b1322]) [], .f, .an (V.tup [V.int IntKind.u64 z1324, V.int IntKind.u64 z1325]) [], .an (i64 z1902) []]) (notIn []) rfl rfl (by kernel_rfl) (And.intro (F45_ok (m + 2) (z1305) z1313 h0) (And.intro h1 (And.intro (F45_ok (m + 2) (z1306) z1320 h2) (And.intro h3 (And.intro (Bool.eq_false_iff.mpr h4) (And.intro h5 (And.intro h6 True.intro)))))))
/-! ## 85 -/
inductive A85 where
  | a0 (z1917 : Int)
@[reducible] def A85.out : A85 → V × Store
  | .a0 z1917 => (i64 z1917, [])
def F85 (z1905 : Int) (z1906 : Int) : Option A85 :=
  bnd (F45 (z1905)) fun z1908 =>
  (F82 (z1908)).bind fun r => match r with
  | .a0 z1909 b1910 =>
   bnd (F45 (z1906)) fun z1911 =>
   (F82 (z1911)).bind fun r => match r with
   | .a0 z1912 b1913 =>
    (F83 (z1909) (z1912)).bind fun r => match r with
    | .a0 z1914 z1915 =>
     (F84 (z1914) (z1915) (65536) (!b1910 == b1913)).bind fun r => match r with
     | .a0 z1916 =>
      some (A85.a0 (z1916))
theorem F85_ok (m : Nat) (z1905 : Int) (z1906 : Int) (r : A85) (h : F85 z1905 z1906 = some r) : call Try.prog X O0 18446744073709551616 (m + 5) 85 ([i64 z1905, i64 z1906]) ([]) = some r.out := by
  unfold F85 at h
  obtain ⟨z1908, h0, h⟩ := bnd_eq h
  obtain ⟨r1, h1, h⟩ := Option.bind_eq_some_iff.mp h
  have h1 := F82_ok (m + 3) (z1908) r1 h1
  cases r1 with
  | a0 z1909 b1910 =>
    obtain ⟨z1911, h2, h⟩ := bnd_eq h
    obtain ⟨r3, h3, h⟩ := Option.bind_eq_some_iff.mp h
    have h3 := F82_ok (m + 3) (z1911) r3 h3
    cases r3 with
    | a0 z1912 b1913 =>
      obtain ⟨r4, h4, h⟩ := Option.bind_eq_some_iff.mp h
      have h4 := F83_ok (m + 3) (z1909) (z1912) r4 h4
      cases r4 with
      | a0 z1914 z1915 =>
        obtain ⟨r5, h5, h⟩ := Option.bind_eq_some_iff.mp h
        have h5 := F84_ok (m + 0) (z1914) (z1915) (65536) (!b1910 == b1913) r5 h5
        cases r5 with
        | a0 z1916 =>
          cases h
          exact call_pathL (gs := [.an (i64 z1908) [], .an (V.tup [V.int IntKind.u64 z1909, vb b1910]) [], .an (i64 z1911) [], .an (V.tup [V.int IntKind.u64 z1912, vb b1913]) [], .an (V.tup [V.int IntKind.u64 z1914, V.int IntKind.u64 z1915]) [], .an (i64 z1916) []]) (notIn []) rfl rfl (by kernel_rfl) (And.intro (F45_ok (m + 2) (z1905) z1908 h0) (And.intro h1 (And.intro (F45_ok (m + 2) (z1906) z1911 h2) (And.intro h3 (And.intro h4 (And.intro h5 True.intro))))))
/-! ## 70 -/
noncomputable abbrev B70 : Code := (Try.f70.body).getD .skip
inductive R70_0 where
  | e0 (k1953 : Nat) (l1959 : List (List V))
@[reducible] def s70_0_0 (z1952 : Int) (k1953 : Nat) (z1954 : Int) (b1955 : Bool) (l1956 : List (List V)) (z1957 : Int) (b1958 : Bool) (l1959 : List (List V)) : S := { T := U :: i64 z1952 :: V.ptr 0 0 0 :: U :: U :: V.hs 1 0 k1953 :: i64 z1954 :: un 5 (i64 z1954 :: V.agg [vb b1955, V.list 2 l1956] :: i64 z1957 :: vb b1958 :: un 49 []), σ := [Ob.cells true false 2 [[vb b1955, V.list 2 l1956]], Ob.cells true true 8 l1959] }
def R70_0.St : R70_0 → VX × S → Prop
  | .e0 k1953 l1959, p => ∃ z1952 : Int, ∃ z1954 : Int, ∃ b1955 : Bool, ∃ l1956 : List (List V), ∃ z1957 : Int, ∃ b1958 : Bool, p = (VX.exit 0, s70_0_0 z1952 k1953 z1954 b1955 l1956 z1957 b1958 l1959)
def L70_0 : Nat → Int → Nat → Int → Bool → List (List V) → List (List V) → Option R70_0
  | 0, _, _, _, _, _, _ => none
  | n + 1, z1922, k1923, z1924, b1925, l1926, l1927 =>
    bnd (F21 (b1925) (l1926)) fun z1940 =>
    if z1924 < z1940 then
     (F34 (b1925) (l1926) (z1924)).bind fun r => match r with
     | .a0 z1941 z1942 z1943 z1944 =>
      (F36 (z1941) (z1942) (z1943) (z1944)).bind fun r => match r with
      | .a0 z1945 =>
       if z1945 > 0 then
        (F68 (w64 (z1943 - z1941)) (z1945)).bind fun r => match r with
        | .a0 z1946 =>
         (F68 (w64 (z1944 - z1942)) (z1945)).bind fun r => match r with
         | .a0 z1947 =>
          (F85 (z1946) (z1922)).bind fun r => match r with
          | .a0 z1948 =>
           (F85 (z1947) (z1922)).bind fun r => match r with
           | .a0 z1949 =>
            (F85 (w64 (0 - z1947)) (z1922)).bind fun r => match r with
            | .a0 z1950 =>
             (F85 (z1946) (z1922)).bind fun r => match r with
             | .a0 z1951 =>
              if 0 + k1923 ≤ List.length l1927 ∧ (k1923 + 1) * 64 ≤ 140737488355328 ∧ k1923 + 1 ≤ 140737488355328 then
               L70_0 n (z1922) (k1923 + 1) (w64 (z1924 + 1)) (b1925) (l1926) (List.take k1923 l1927 ++ [[i64 z1941, i64 z1942, i64 z1943, i64 z1944, i64 z1948, i64 z1949, i64 z1950, i64 z1951]])
              else
               none -- none
       else
        L70_0 n (z1922) (k1923) (w64 (z1924 + 1)) (b1925) (l1926) (l1927)
    else
     some (R70_0.e0 (k1923) (l1927))
theorem L70_0_ok (m : Nat) : ∀ (n : Nat) (z1922 : Int) (k1923 : Nat) (z1924 : Int) (b1925 : Bool) (l1926 : List (List V)) (l1927 : List (List V)) (r : R70_0), L70_0 n z1922 k1923 z1924 b1925 l1926 l1927 = some r → ∃ st, loopFrom Try.prog X (genO X (call Try.prog X O0 18446744073709551616 (m + 5))) 70 (0) 18446744073709551616 B70 0 n ({ T := U :: i64 z1922 :: V.ptr 0 0 0 :: U :: U :: V.hs 1 0 k1923 :: i64 z1924 :: un 58 [], σ := [Ob.cells true false 2 [[vb b1925, V.list 2 l1926]], Ob.cells true true 8 l1927] }) = some st ∧ r.St st
  | 0, _, _, _, _, _, _, r, h => by cases h
  | n + 1, z1922, k1923, z1924, b1925, l1926, l1927, r, h => by
    rw [L70_0] at h
    obtain ⟨z1940, h0, h⟩ := bnd_eq h
    rcases ite_eq h with ⟨h1, h⟩ | ⟨h1, h⟩
    · skip
      obtain ⟨r2, h2, h⟩ := Option.bind_eq_some_iff.mp h
      have h2 := F34_ok (m + 1) (b1925) (l1926) (z1924) r2 h2
      cases r2 with
      | a0 z1941 z1942 z1943 z1944 =>
        obtain ⟨r3, h3, h⟩ := Option.bind_eq_some_iff.mp h
        have h3 := F36_ok (m + 2) (z1941) (z1942) (z1943) (z1944) r3 h3
        cases r3 with
        | a0 z1945 =>
          rcases ite_eq h with ⟨h4, h⟩ | ⟨h4, h⟩
          · skip
            obtain ⟨r5, h5, h⟩ := Option.bind_eq_some_iff.mp h
            have h5 := F68_ok (m + 0) (w64 (z1943 - z1941)) (z1945) r5 h5
            cases r5 with
            | a0 z1946 =>
              obtain ⟨r6, h6, h⟩ := Option.bind_eq_some_iff.mp h
              have h6 := F68_ok (m + 0) (w64 (z1944 - z1942)) (z1945) r6 h6
              cases r6 with
              | a0 z1947 =>
                obtain ⟨r7, h7, h⟩ := Option.bind_eq_some_iff.mp h
                have h7 := F85_ok (m + 0) (z1946) (z1922) r7 h7
                cases r7 with
                | a0 z1948 =>
                  obtain ⟨r8, h8, h⟩ := Option.bind_eq_some_iff.mp h
                  have h8 := F85_ok (m + 0) (z1947) (z1922) r8 h8
                  cases r8 with
                  | a0 z1949 =>
                    obtain ⟨r9, h9, h⟩ := Option.bind_eq_some_iff.mp h
                    have h9 := F85_ok (m + 0) (w64 (0 - z1947)) (z1922) r9 h9
                    cases r9 with
                    | a0 z1950 =>
                      obtain ⟨r10, h10, h⟩ := Option.bind_eq_some_iff.mp h
                      have h10 := F85_ok (m + 0) (z1946) (z1922) r10 h10
                      cases r10 with
                      | a0 z1951 =>
                        rcases ite_eq h with ⟨h11, h⟩ | ⟨h11, h⟩
                        · skip
                          obtain ⟨st, hs, hr⟩ := L70_0_ok m n (z1922) (k1923 + 1) (w64 (z1924 + 1)) (b1925) (l1926) (List.take k1923 l1927 ++ [[i64 z1941, i64 z1942, i64 z1943, i64 z1944, i64 z1948, i64 z1949, i64 z1950, i64 z1951]]) r h
                          exact ⟨st, (round_on (gs := [.a, .an (i64 z1940) [], .t, .a, .an (V.tup [V.agg [i64 z1941, i64 z1942], V.agg [i64 z1943, i64 z1944]]) [], .a, .a, .a, .a, .an (i64 z1945) [], .t, .a, .a, .an (i64 z1946) [], .a, .a, .an (i64 z1947) [], .ft [⟨0, [6], []⟩, ⟨1, [6], []⟩, ⟨2, [5], []⟩, ⟨3, [5], []⟩, ⟨4, [], []⟩, ⟨5, [], []⟩, ⟨6, [], []⟩, ⟨7, [6], []⟩, ⟨8, [6], []⟩, ⟨9, [5], []⟩, ⟨10, [5], []⟩, ⟨11, [], []⟩, ⟨12, [], []⟩, ⟨13, [], []⟩, ⟨14, [], []⟩, ⟨15, [], []⟩], .a, .a, .an (i64 z1948) [], .an (i64 z1949) [], .an (i64 z1950) [], .an (i64 z1951) [], .a, .t, .ft [⟨0, [], []⟩, ⟨1, [5], []⟩, ⟨2, [6], []⟩, ⟨3, [], []⟩, ⟨4, [], []⟩, ⟨5, [], []⟩, ⟨6, [], []⟩, ⟨7, [], []⟩, ⟨8, [], []⟩, ⟨9, [], []⟩, ⟨10, [], []⟩, ⟨11, [], []⟩, ⟨12, [], []⟩, ⟨13, [], []⟩, ⟨14, [], []⟩, ⟨15, [], []⟩, ⟨16, [], []⟩, ⟨17, [], []⟩, ⟨18, [], []⟩, ⟨19, [7], [7]⟩, ⟨20, [7, 8, 1], [1, 8]⟩, ⟨21, [], []⟩]]) (notIn []) (by kernel_rfl) (And.intro (F21_ok (m + 4) (b1925) (l1926) z1940 h0) (And.intro (decide_eq_true h1) (And.intro h2 (And.intro h3 (And.intro (decide_eq_true h4) (And.intro h5 (And.intro h6 (And.intro (Eq.refl ([⟨0, [6], []⟩, ⟨1, [6], []⟩, ⟨2, [5], []⟩, ⟨3, [5], []⟩, ⟨4, [], []⟩, ⟨5, [], []⟩, ⟨6, [], []⟩, ⟨7, [6], []⟩, ⟨8, [6], []⟩, ⟨9, [5], []⟩, ⟨10, [5], []⟩, ⟨11, [], []⟩, ⟨12, [], []⟩, ⟨13, [], []⟩, ⟨14, [], []⟩, ⟨15, [], []⟩] : List Foot)) (And.intro h7 (And.intro h8 (And.intro h9 (And.intro h10 (And.intro (decide_eq_true h11) (And.intro (Eq.refl ([⟨0, [], []⟩, ⟨1, [5], []⟩, ⟨2, [6], []⟩, ⟨3, [], []⟩, ⟨4, [], []⟩, ⟨5, [], []⟩, ⟨6, [], []⟩, ⟨7, [], []⟩, ⟨8, [], []⟩, ⟨9, [], []⟩, ⟨10, [], []⟩, ⟨11, [], []⟩, ⟨12, [], []⟩, ⟨13, [], []⟩, ⟨14, [], []⟩, ⟨15, [], []⟩, ⟨16, [], []⟩, ⟨17, [], []⟩, ⟨18, [], []⟩, ⟨19, [7], [7]⟩, ⟨20, [7, 8, 1], [1, 8]⟩, ⟨21, [], []⟩] : List Foot)) True.intro)))))))))))))) n).trans hs, hr⟩
                        · skip
                          cases h
          · skip
            obtain ⟨st, hs, hr⟩ := L70_0_ok m n (z1922) (k1923) (w64 (z1924 + 1)) (b1925) (l1926) (l1927) r h
            exact ⟨st, (round_on (gs := [.a, .an (i64 z1940) [], .t, .a, .an (V.tup [V.agg [i64 z1941, i64 z1942], V.agg [i64 z1943, i64 z1944]]) [], .a, .a, .a, .a, .an (i64 z1945) [], .f]) (notIn []) (by kernel_rfl) (And.intro (F21_ok (m + 4) (b1925) (l1926) z1940 h0) (And.intro (decide_eq_true h1) (And.intro h2 (And.intro h3 (And.intro (decide_eq_false h4) True.intro))))) n).trans hs, hr⟩
    · skip
      cases h
      exact ⟨_, round_out (gs := [.a, .an (i64 z1940) [], .f]) (notIn []) (by kernel_rfl) rfl (And.intro (F21_ok (m + 4) (b1925) (l1926) z1940 h0) (And.intro (decide_eq_false h1) True.intro)) n, z1922, z1924, b1925, l1926, z1940, decide (z1924 < z1940), rfl⟩
inductive A70 where
  | a0 (k1968 : Nat) (l1969 : List (List V))
@[reducible] def A70.out : A70 → V × Store
  | .a0 k1968 l1969 => (V.hs 0 0 k1968, [Ob.cells true true 8 l1969])
def F70 (b1237 : Bool) (l1238 : List (List V)) (z1239 : Int) : Option A70 :=
  (L70_0 18446744073709551616 (z1239) (0) (0) (b1237) (l1238) ([])).bind fun r => match r with
  | .e0 k1961 l1967 =>
   some (A70.a0 (k1961) (l1967))
theorem F70_ok (m : Nat) (b1237 : Bool) (l1238 : List (List V)) (z1239 : Int) (r : A70) (h : F70 b1237 l1238 z1239 = some r) : call Try.prog X O0 18446744073709551616 (m + 6) 70 ([V.agg [vb b1237, V.list 2 l1238], i64 z1239]) ([]) = some r.out := by
  unfold F70 at h
  obtain ⟨r0, h0, h⟩ := Option.bind_eq_some_iff.mp h
  obtain ⟨st0, h0, hr0⟩ := L70_0_ok m 18446744073709551616 (z1239) (0) (0) (b1237) (l1238) ([]) r0 h0
  have h0 : loopRun Try.prog X (genO X (call Try.prog X O0 18446744073709551616 (m + 5))) 70 (0) 18446744073709551616 B70 0 ({ T := V.agg [vb b1237, V.list 2 l1238] :: i64 z1239 :: V.ptr 0 0 0 :: U :: V.nilS :: V.nilS :: i64 0 :: un 58 [], σ := [Ob.cells true false 2 [[vb b1237, V.list 2 l1238]]] }) = some st0 := by
    rw [loopRun_from, show pre X 70 (0) 0 ({ T := V.agg [vb b1237, V.list 2 l1238] :: i64 z1239 :: V.ptr 0 0 0 :: U :: V.nilS :: V.nilS :: i64 0 :: un 58 [], σ := [Ob.cells true false 2 [[vb b1237, V.list 2 l1238]]] }) = { T := U :: i64 z1239 :: V.ptr 0 0 0 :: U :: U :: V.hs 1 0 0 :: i64 0 :: un 58 [], σ := [Ob.cells true false 2 [[vb b1237, V.list 2 l1238]], Ob.cells true true 8 []] } by kernel_rfl]
    exact h0
  cases r0 with
  | e0 k1961 l1967 =>
    obtain ⟨z1960, z1962, b1963, l1964, z1965, b1966, rfl⟩ := hr0
    cases h
    exact call_pathL (gs := [.lp (VX.exit 0) (s70_0_0 z1960 k1961 z1962 b1963 l1964 z1965 b1966 l1967)]) (notIn []) rfl rfl (by kernel_rfl) (And.intro h0 True.intro)
/-! ## 71 -/
inductive A71 where
  | a0 (z1984 : Int) (z1985 : Int)
@[reducible] def A71.out : A71 → V × Store
  | .a0 z1984 z1985 => (V.agg [i64 z1984, i64 z1985], [])
def F71 (z1978 : Int) (z1979 : Int) (z1980 : Int) (z1981 : Int) (z1982 : Int) : Option A71 :=
  some (A71.a0 (w64 (z1978 + w64 (z1982 * z1980))) (w64 (z1979 + w64 (z1982 * z1981))))
theorem F71_ok (m : Nat) (z1978 : Int) (z1979 : Int) (z1980 : Int) (z1981 : Int) (z1982 : Int) (r : A71) (h : F71 z1978 z1979 z1980 z1981 z1982 = some r) : call Try.prog X O0 18446744073709551616 (m + 1) 71 ([V.agg [i64 z1978, i64 z1979], V.agg [i64 z1980, i64 z1981], i64 z1982]) ([]) = some r.out := by
  unfold F71 at h
  cases h
  exact call_pathL (gs := [.a, .a, .a, .a, .a]) (notIn []) rfl rfl (by kernel_rfl) True.intro
/-! ## 48 -/
noncomputable abbrev B48 : Code := (Try.f48.body).getD .skip
inductive R48_0 where
  | e0 (z2042 : Int)
@[reducible] def s48_0_0 (l2041 : List (List V)) (z2042 : Int) (z2043 : Int) (z2044 : Int) (b2045 : Bool) : S := { T := V.list 2 l2041 :: U :: U :: i64 z2042 :: i64 z2043 :: U :: U :: i64 z2043 :: V.list 2 l2041 :: i64 z2044 :: vb b2045 :: un 30 [], σ := [] }
def R48_0.St : R48_0 → VX × S → Prop
  | .e0 z2042, p => ∃ l2041 : List (List V), ∃ z2043 : Int, ∃ z2044 : Int, ∃ b2045 : Bool, p = (VX.exit 0, s48_0_0 l2041 z2042 z2043 z2044 b2045)
def L48_0 : Nat → List (List V) → Int → Int → Option R48_0
  | 0, _, _, _ => none
  | n + 1, l2025, z2026, z2027 =>
    if z2027 < (↑(List.length l2025) : Int) then
     if 0 ≤ z2027 then
      ((l2025[Int.toNat z2027]?).bind W43.dec).bind fun e2035 =>
      (F58 (e2035.c0) (e2035.c1)).bind fun r => match r with
      | .a0 z2036 z2037 =>
       if (↑(List.length l2025) : Int) = 0 then
        none -- none
       else
        if 0 ≤ Int.tmod (w64 (z2027 + 1)) (↑(List.length l2025) : Int) then
         ((l2025[Int.toNat (Int.tmod (w64 (z2027 + (1 : Int))) (↑(List.length l2025) : Int))]?).bind W43.dec).bind fun e2038 =>
         (F58 (e2038.c0) (e2038.c1)).bind fun r => match r with
         | .a0 z2039 z2040 =>
          L48_0 n (l2025) (w64 (w64 (z2026 + w64 (z2036 * z2040)) - w64 (z2039 * z2037))) (w64 (z2027 + 1))
        else
         none -- none
     else
      none -- none
    else
     some (R48_0.e0 (z2026))
theorem L48_0_ok (m : Nat) : ∀ (n : Nat) (l2025 : List (List V)) (z2026 : Int) (z2027 : Int) (r : R48_0), L48_0 n l2025 z2026 z2027 = some r → ∃ st, loopFrom Try.prog X (genO X (call Try.prog X O0 18446744073709551616 (m + 3))) 48 (0) 18446744073709551616 B48 0 n ({ T := V.list 2 l2025 :: U :: U :: i64 z2026 :: i64 z2027 :: un 36 [], σ := [] }) = some st ∧ r.St st
  | 0, _, _, _, r, h => by cases h
  | n + 1, l2025, z2026, z2027, r, h => by
    rw [L48_0] at h
    rcases ite_eq h with ⟨h0, h⟩ | ⟨h0, h⟩
    · skip
      rcases ite_eq h with ⟨h1, h⟩ | ⟨h1, h⟩
      · skip
        obtain ⟨e2035, h2, h⟩ := Option.bind_eq_some_iff.mp h
        obtain ⟨r3, h3, h⟩ := Option.bind_eq_some_iff.mp h
        have h3 := F58_ok (m + 0) (e2035.c0) (e2035.c1) r3 h3
        cases r3 with
        | a0 z2036 z2037 =>
          rcases ite_eq h with ⟨h4, h⟩ | ⟨h4, h⟩
          · skip
            cases h
          · skip
            rcases ite_eq h with ⟨h5, h⟩ | ⟨h5, h⟩
            · skip
              obtain ⟨e2038, h6, h⟩ := Option.bind_eq_some_iff.mp h
              obtain ⟨r7, h7, h⟩ := Option.bind_eq_some_iff.mp h
              have h7 := F58_ok (m + 0) (e2038.c0) (e2038.c1) r7 h7
              cases r7 with
              | a0 z2039 z2040 =>
                obtain ⟨st, hs, hr⟩ := L48_0_ok m n (l2025) (w64 (w64 (z2026 + w64 (z2036 * z2040)) - w64 (z2039 * z2037))) (w64 (z2027 + 1)) r h
                exact ⟨st, (round_on (gs := [.t, .t, .el (W43.cells e2035), .an (V.agg [i64 z2036, i64 z2037]) [], .f, .t, .el (W43.cells e2038), .an (V.agg [i64 z2039, i64 z2040]) [], .a, .a, .ft [⟨0, [], []⟩, ⟨1, [], []⟩, ⟨2, [], []⟩, ⟨3, [], []⟩, ⟨4, [], []⟩, ⟨5, [], []⟩, ⟨6, [], []⟩, ⟨7, [], []⟩, ⟨8, [], []⟩, ⟨9, [], []⟩, ⟨10, [], []⟩, ⟨11, [], []⟩, ⟨12, [], []⟩, ⟨13, [], []⟩, ⟨14, [0], [0]⟩, ⟨15, [1], [1]⟩, ⟨16, [0], [0]⟩, ⟨17, [1], [1]⟩], .a, .a, .a, .a]) (notIn []) (by kernel_rfl) (And.intro (decide_eq_true h0) (And.intro (decide_eq_true h1) (And.intro (W43.dec_ok h2) (And.intro h3 (And.intro (decide_eq_false h4) (And.intro (decide_eq_true h5) (And.intro (W43.dec_ok h6) (And.intro h7 (And.intro (Eq.refl ([⟨0, [], []⟩, ⟨1, [], []⟩, ⟨2, [], []⟩, ⟨3, [], []⟩, ⟨4, [], []⟩, ⟨5, [], []⟩, ⟨6, [], []⟩, ⟨7, [], []⟩, ⟨8, [], []⟩, ⟨9, [], []⟩, ⟨10, [], []⟩, ⟨11, [], []⟩, ⟨12, [], []⟩, ⟨13, [], []⟩, ⟨14, [0], [0]⟩, ⟨15, [1], [1]⟩, ⟨16, [0], [0]⟩, ⟨17, [1], [1]⟩] : List Foot)) True.intro))))))))) n).trans hs, hr⟩
            · skip
              cases h
      · skip
        cases h
    · skip
      cases h
      exact ⟨_, round_out (gs := [.f]) (notIn []) (by kernel_rfl) rfl (And.intro (decide_eq_false h0) True.intro) n, l2025, z2027, (↑(List.length l2025) : Int), decide (z2027 < (↑(List.length l2025) : Int)), rfl⟩
inductive A48 where
  | a0 (z2051 : Int)
@[reducible] def A48.out : A48 → V × Store
  | .a0 z2051 => (i64 z2051, [])
def F48 (l2016 : List (List V)) : Option A48 :=
  (L48_0 18446744073709551616 (l2016) (0) (0)).bind fun r => match r with
  | .e0 z2047 =>
   some (A48.a0 (z2047))
theorem F48_ok (m : Nat) (l2016 : List (List V)) (r : A48) (h : F48 l2016 = some r) : call Try.prog X O0 18446744073709551616 (m + 4) 48 ([V.list 2 l2016]) ([]) = some r.out := by
  unfold F48 at h
  obtain ⟨r0, h0, h⟩ := Option.bind_eq_some_iff.mp h
  obtain ⟨st0, h0, hr0⟩ := L48_0_ok m 18446744073709551616 (l2016) (0) (0) r0 h0
  have h0 : loopRun Try.prog X (genO X (call Try.prog X O0 18446744073709551616 (m + 3))) 48 (0) 18446744073709551616 B48 0 ({ T := V.list 2 l2016 :: U :: i64 0 :: i64 0 :: i64 0 :: un 36 [], σ := [] }) = some st0 := by
    rw [loopRun_from, show pre X 48 (0) 0 ({ T := V.list 2 l2016 :: U :: i64 0 :: i64 0 :: i64 0 :: un 36 [], σ := [] }) = { T := V.list 2 l2016 :: U :: U :: i64 0 :: i64 0 :: un 36 [], σ := [] } by kernel_rfl]
    exact h0
  cases r0 with
  | e0 z2047 =>
    obtain ⟨l2046, z2048, z2049, b2050, rfl⟩ := hr0
    cases h
    exact call_pathL (gs := [.lp (VX.exit 0) (s48_0_0 l2046 z2047 z2048 z2049 b2050)]) (notIn []) rfl rfl (by kernel_rfl) (And.intro h0 True.intro)
/-! ## 49 -/
noncomputable abbrev B49 : Code := (Try.f49.body).getD .skip
inductive R49_0 where
  | e0 (k2076 : Nat) (l2081 : List (List V))
@[reducible] def s49_0_0 (l2075 : List (List V)) (k2076 : Nat) (b2077 : Bool) (z2078 : Int) (z2079 : Int) (b2080 : Bool) (l2081 : List (List V)) : S := { T := V.list 2 l2075 :: U :: U :: V.hs 0 0 k2076 :: vb b2077 :: i64 z2078 :: un 4 (i64 z2078 :: V.list 2 l2075 :: i64 z2079 :: vb b2080 :: un 17 []), σ := [Ob.cells true true 2 l2081] }
def R49_0.St : R49_0 → VX × S → Prop
  | .e0 k2076 l2081, p => ∃ l2075 : List (List V), ∃ b2077 : Bool, ∃ z2078 : Int, ∃ z2079 : Int, ∃ b2080 : Bool, p = (VX.exit 0, s49_0_0 l2075 k2076 b2077 z2078 z2079 b2080 l2081)
def L49_0 : Nat → List (List V) → Nat → Bool → Int → List (List V) → Option R49_0
  | 0, _, _, _, _, _ => none
  | n + 1, l2056, k2057, b2058, z2059, l2060 =>
    if z2059 < (↑(List.length l2056) : Int) then
     if (b2058) = true then
      if 0 ≤ w64 (w64 ((↑(List.length l2056) : Int) - 1) - z2059) then
       ((l2056[Int.toNat (w64 (w64 ((↑(List.length l2056) : Int) - (1 : Int)) - z2059))]?).bind W43.dec).bind fun e2073 =>
       if 0 + k2057 ≤ List.length l2060 ∧ (k2057 + 1) * 16 ≤ 140737488355328 ∧ k2057 + 1 ≤ 140737488355328 then
        L49_0 n (l2056) (k2057 + 1) (b2058) (w64 (z2059 + 1)) (List.take k2057 l2060 ++ [[i64 e2073.c0, i64 e2073.c1]])
       else
        none -- none
      else
       none -- none
     else
      if 0 ≤ z2059 then
       ((l2056[Int.toNat z2059]?).bind W43.dec).bind fun e2074 =>
       if 0 + k2057 ≤ List.length l2060 ∧ (k2057 + 1) * 16 ≤ 140737488355328 ∧ k2057 + 1 ≤ 140737488355328 then
        L49_0 n (l2056) (k2057 + 1) (b2058) (w64 (z2059 + 1)) (List.take k2057 l2060 ++ [[i64 e2074.c0, i64 e2074.c1]])
       else
        none -- none
      else
       none -- none
    else
     some (R49_0.e0 (k2057) (l2060))
theorem L49_0_ok (m : Nat) : ∀ (n : Nat) (l2056 : List (List V)) (k2057 : Nat) (b2058 : Bool) (z2059 : Int) (l2060 : List (List V)) (r : R49_0), L49_0 n l2056 k2057 b2058 z2059 l2060 = some r → ∃ st, loopFrom Try.prog X (genO X (call Try.prog X O0 18446744073709551616 (m + 4))) 49 (0) 18446744073709551616 B49 0 n ({ T := V.list 2 l2056 :: U :: U :: V.hs 0 0 k2057 :: vb b2058 :: i64 z2059 :: un 25 [], σ := [Ob.cells true true 2 l2060] }) = some st ∧ r.St st
  | 0, _, _, _, _, _, r, h => by cases h
  | n + 1, l2056, k2057, b2058, z2059, l2060, r, h => by
    rw [L49_0] at h
    rcases ite_eq h with ⟨h0, h⟩ | ⟨h0, h⟩
    · skip
      rcases ite_eq h with ⟨h1, h⟩ | ⟨h1, h⟩
      · skip
        rcases ite_eq h with ⟨h2, h⟩ | ⟨h2, h⟩
        · skip
          obtain ⟨e2073, h3, h⟩ := Option.bind_eq_some_iff.mp h
          rcases ite_eq h with ⟨h4, h⟩ | ⟨h4, h⟩
          · skip
            obtain ⟨st, hs, hr⟩ := L49_0_ok m n (l2056) (k2057 + 1) (b2058) (w64 (z2059 + 1)) (List.take k2057 l2060 ++ [[i64 e2073.c0, i64 e2073.c1]]) r h
            exact ⟨st, (round_on (gs := [.t, .t, .t, .el (W43.cells e2073), .a, .t]) (notIn []) (by kernel_rfl) (And.intro (decide_eq_true h0) (And.intro h1 (And.intro (decide_eq_true h2) (And.intro (W43.dec_ok h3) (And.intro (decide_eq_true h4) True.intro))))) n).trans hs, hr⟩
          · skip
            cases h
        · skip
          cases h
      · skip
        rcases ite_eq h with ⟨h2, h⟩ | ⟨h2, h⟩
        · skip
          obtain ⟨e2074, h3, h⟩ := Option.bind_eq_some_iff.mp h
          rcases ite_eq h with ⟨h4, h⟩ | ⟨h4, h⟩
          · skip
            obtain ⟨st, hs, hr⟩ := L49_0_ok m n (l2056) (k2057 + 1) (b2058) (w64 (z2059 + 1)) (List.take k2057 l2060 ++ [[i64 e2074.c0, i64 e2074.c1]]) r h
            exact ⟨st, (round_on (gs := [.t, .f, .t, .el (W43.cells e2074), .a, .t]) (notIn []) (by kernel_rfl) (And.intro (decide_eq_true h0) (And.intro (Bool.eq_false_iff.mpr h1) (And.intro (decide_eq_true h2) (And.intro (W43.dec_ok h3) (And.intro (decide_eq_true h4) True.intro))))) n).trans hs, hr⟩
          · skip
            cases h
        · skip
          cases h
    · skip
      cases h
      exact ⟨_, round_out (gs := [.f]) (notIn []) (by kernel_rfl) rfl (And.intro (decide_eq_false h0) True.intro) n, l2056, b2058, z2059, (↑(List.length l2056) : Int), decide (z2059 < (↑(List.length l2056) : Int)), rfl⟩
inductive A49 where
  | a0 (k2089 : Nat) (l2090 : List (List V))
@[reducible] def A49.out : A49 → V × Store
  | .a0 k2089 l2090 => (V.hs 0 0 k2089, [Ob.cells true true 2 l2090])
def F49 (l2014 : List (List V)) : Option A49 :=
  (F48 (l2014)).bind fun r => match r with
  | .a0 z2072 =>
   (L49_0 18446744073709551616 (l2014) (0) (decide (z2072 < 0)) (0) ([])).bind fun r => match r with
   | .e0 k2083 l2088 =>
    some (A49.a0 (k2083) (l2088))
theorem F49_ok (m : Nat) (l2014 : List (List V)) (r : A49) (h : F49 l2014 = some r) : call Try.prog X O0 18446744073709551616 (m + 5) 49 ([V.list 2 l2014]) ([]) = some r.out := by
  unfold F49 at h
  obtain ⟨r0, h0, h⟩ := Option.bind_eq_some_iff.mp h
  have h0 := F48_ok (m + 0) (l2014) r0 h0
  cases r0 with
  | a0 z2072 =>
    obtain ⟨r1, h1, h⟩ := Option.bind_eq_some_iff.mp h
    obtain ⟨st1, h1, hr1⟩ := L49_0_ok m 18446744073709551616 (l2014) (0) (decide (z2072 < 0)) (0) ([]) r1 h1
    have h1 : loopRun Try.prog X (genO X (call Try.prog X O0 18446744073709551616 (m + 4))) 49 (0) 18446744073709551616 B49 0 ({ T := V.list 2 l2014 :: U :: V.nilS :: V.nilS :: vb (decide (z2072 < 0)) :: i64 0 :: U :: V.list 2 l2014 :: i64 z2072 :: vb (decide (z2072 < 0)) :: un 21 [], σ := [] }) = some st1 := by
      rw [loopRun_from, show pre X 49 (0) 0 ({ T := V.list 2 l2014 :: U :: V.nilS :: V.nilS :: vb (decide (z2072 < 0)) :: i64 0 :: U :: V.list 2 l2014 :: i64 z2072 :: vb (decide (z2072 < 0)) :: un 21 [], σ := [] }) = { T := V.list 2 l2014 :: U :: U :: V.hs 0 0 0 :: vb (decide (z2072 < 0)) :: i64 0 :: un 25 [], σ := [Ob.cells true true 2 []] } by kernel_rfl]
      exact h1
    cases r1 with
    | e0 k2083 l2088 =>
      obtain ⟨l2082, b2084, z2085, z2086, b2087, rfl⟩ := hr1
      cases h
      exact call_pathL (gs := [.an (i64 z2072) [], .lp (VX.exit 0) (s49_0_0 l2082 k2083 b2084 z2085 z2086 b2087 l2088)]) (notIn []) rfl rfl (by kernel_rfl) (And.intro h0 (And.intro h1 True.intro))
/-! ## 72 -/
noncomputable abbrev B72 : Code := (Try.f72.body).getD .skip
inductive R72_0 where
  | e0 (k2100 : Nat) (l2104 : List (List V))
@[reducible] def s72_0_0 (l2099 : List (List V)) (k2100 : Nat) (z2101 : Int) (z2102 : Int) (b2103 : Bool) (l2104 : List (List V)) : S := { T := V.list 2 l2099 :: U :: V.ptr 0 0 0 :: V.hs 1 0 k2100 :: i64 z2101 :: i64 z2101 :: V.list 2 l2099 :: i64 z2102 :: vb b2103 :: un 13 [], σ := [Ob.cells true false 2 [[vb false, V.hs 2 0 0]], Ob.cells true true 2 l2104, Ob.cells true true 2 []] }
def R72_0.St : R72_0 → VX × S → Prop
  | .e0 k2100 l2104, p => ∃ l2099 : List (List V), ∃ z2101 : Int, ∃ z2102 : Int, ∃ b2103 : Bool, p = (VX.exit 0, s72_0_0 l2099 k2100 z2101 z2102 b2103 l2104)
def L72_0 : Nat → List (List V) → Nat → Int → List (List V) → Option R72_0
  | 0, _, _, _, _ => none
  | n + 1, l2004, k2005, z2006, l2007 =>
    if z2006 < (↑(List.length l2004) : Int) then
     if 0 ≤ z2006 then
      ((l2004[Int.toNat z2006]?).bind W43.dec).bind fun e2096 =>
      (F58 (e2096.c0) (e2096.c1)).bind fun r => match r with
      | .a0 z2097 z2098 =>
       if 0 + k2005 ≤ List.length l2007 ∧ (k2005 + 1) * 16 ≤ 140737488355328 ∧ k2005 + 1 ≤ 140737488355328 then
        L72_0 n (l2004) (k2005 + 1) (w64 (z2006 + 1)) (List.take k2005 l2007 ++ [[i64 z2097, i64 z2098]])
       else
        none -- none
     else
      none -- none
    else
     some (R72_0.e0 (k2005) (l2007))
theorem L72_0_ok (m : Nat) : ∀ (n : Nat) (l2004 : List (List V)) (k2005 : Nat) (z2006 : Int) (l2007 : List (List V)) (r : R72_0), L72_0 n l2004 k2005 z2006 l2007 = some r → ∃ st, loopFrom Try.prog X (genO X (call Try.prog X O0 18446744073709551616 (m + 5))) 72 (0) 18446744073709551616 B72 0 n ({ T := V.list 2 l2004 :: U :: V.ptr 0 0 0 :: V.hs 1 0 k2005 :: i64 z2006 :: un 17 [], σ := [Ob.cells true false 2 [[vb false, V.hs 2 0 0]], Ob.cells true true 2 l2007, Ob.cells true true 2 []] }) = some st ∧ r.St st
  | 0, _, _, _, _, r, h => by cases h
  | n + 1, l2004, k2005, z2006, l2007, r, h => by
    rw [L72_0] at h
    rcases ite_eq h with ⟨h0, h⟩ | ⟨h0, h⟩
    · skip
      rcases ite_eq h with ⟨h1, h⟩ | ⟨h1, h⟩
      · skip
        obtain ⟨e2096, h2, h⟩ := Option.bind_eq_some_iff.mp h
        obtain ⟨r3, h3, h⟩ := Option.bind_eq_some_iff.mp h
        have h3 := F58_ok (m + 2) (e2096.c0) (e2096.c1) r3 h3
        cases r3 with
        | a0 z2097 z2098 =>
          rcases ite_eq h with ⟨h4, h⟩ | ⟨h4, h⟩
          · skip
            obtain ⟨st, hs, hr⟩ := L72_0_ok m n (l2004) (k2005 + 1) (w64 (z2006 + 1)) (List.take k2005 l2007 ++ [[i64 z2097, i64 z2098]]) r h
            exact ⟨st, (round_on (gs := [.t, .t, .el (W43.cells e2096), .an (V.agg [i64 z2097, i64 z2098]) [], .a, .t]) (notIn []) (by kernel_rfl) (And.intro (decide_eq_true h0) (And.intro (decide_eq_true h1) (And.intro (W43.dec_ok h2) (And.intro h3 (And.intro (decide_eq_true h4) True.intro))))) n).trans hs, hr⟩
          · skip
            cases h
      · skip
        cases h
    · skip
      cases h
      exact ⟨_, round_out (gs := [.f]) (notIn []) (by kernel_rfl) rfl (And.intro (decide_eq_false h0) True.intro) n, l2004, z2006, (↑(List.length l2004) : Int), decide (z2006 < (↑(List.length l2004) : Int)), rfl⟩
inductive A72 where
  | a0 (b2113 : Bool) (k2114 : Nat) (l2115 : List (List V))
@[reducible] def A72.out : A72 → V × Store
  | .a0 b2113 k2114 l2115 => (V.agg [vb b2113, V.hs 0 0 k2114], [Ob.cells true true 2 l2115])
def F72 (l1998 : List (List V)) : Option A72 :=
  (L72_0 18446744073709551616 (l1998) (0) (0) ([])).bind fun r => match r with
  | .e0 k2106 l2110 =>
   if 0 + k2106 ≤ List.length l2110 then
    (F49 (List.take k2106 l2110)).bind fun r => match r with
    | .a0 k2111 l2112 =>
     some (A72.a0 (true) (k2111) (l2112))
   else
    none -- none
theorem F72_ok (m : Nat) (l1998 : List (List V)) (r : A72) (h : F72 l1998 = some r) : call Try.prog X O0 18446744073709551616 (m + 6) 72 ([V.list 2 l1998]) ([]) = some r.out := by
  unfold F72 at h
  obtain ⟨r0, h0, h⟩ := Option.bind_eq_some_iff.mp h
  obtain ⟨st0, h0, hr0⟩ := L72_0_ok m 18446744073709551616 (l1998) (0) (0) ([]) r0 h0
  have h0 : loopRun Try.prog X (genO X (call Try.prog X O0 18446744073709551616 (m + 5))) 72 (0) 18446744073709551616 B72 0 ({ T := V.list 2 l1998 :: U :: V.ptr 0 0 0 :: V.nilS :: i64 0 :: un 17 [], σ := [Ob.cells true false 2 [[vb false, V.nilS]]] }) = some st0 := by
    rw [loopRun_from, show pre X 72 (0) 0 ({ T := V.list 2 l1998 :: U :: V.ptr 0 0 0 :: V.nilS :: i64 0 :: un 17 [], σ := [Ob.cells true false 2 [[vb false, V.nilS]]] }) = { T := V.list 2 l1998 :: U :: V.ptr 0 0 0 :: V.hs 1 0 0 :: i64 0 :: un 17 [], σ := [Ob.cells true false 2 [[vb false, V.hs 2 0 0]], Ob.cells true true 2 [], Ob.cells true true 2 []] } by kernel_rfl]
    exact h0
  cases r0 with
  | e0 k2106 l2110 =>
    obtain ⟨l2105, z2107, z2108, b2109, rfl⟩ := hr0
    rcases ite_eq h with ⟨h1, h⟩ | ⟨h1, h⟩
    · skip
      obtain ⟨r2, h2, h⟩ := Option.bind_eq_some_iff.mp h
      have h2 := F49_ok (m + 0) (List.take k2106 l2110) r2 h2
      cases r2 with
      | a0 k2111 l2112 =>
        cases h
        exact call_pathL (gs := [.lp (VX.exit 0) (s72_0_0 l2105 k2106 z2107 z2108 b2109 l2110), .t, .an (V.hs 0 0 k2111) [Ob.cells true true 2 l2112], .a]) (notIn []) rfl rfl (by kernel_rfl) (And.intro h0 (And.intro (decide_eq_true h1) (And.intro h2 True.intro)))
    · skip
      cases h
/-! ## 73 -/
inductive A73 where
  | a0 (k2211 : Nat) (l2212 : List (List V))
@[reducible] def A73.out : A73 → V × Store
  | .a0 k2211 l2212 => (V.hs 0 0 k2211, [Ob.cells true true 2 l2212])
def F73 (z2180 : Int) (z2181 : Int) (z2182 : Int) (z2183 : Int) (z2184 : Int) (z2185 : Int) (z2186 : Int) (z2187 : Int) (z2188 : Int) (z2189 : Int) (z2190 : Int) (z2191 : Int) (z2192 : Int) (z2193 : Int) (z2194 : Int) (z2195 : Int) : Option A73 :=
  (F71 (z2188) (z2189) (z2186) (z2187) (1)).bind fun r => match r with
  | .a0 z2197 z2198 =>
   (F71 (z2188) (z2189) (z2194) (z2195) (1)).bind fun r => match r with
   | .a0 z2199 z2200 =>
    (F72 ([[i64 z2188, i64 z2189], [i64 z2197, i64 z2198], [i64 z2199, i64 z2200]])).bind fun r => match r with
    | .a0 b2201 k2202 l2203 =>
     (F71 (z2188) (z2189) (z2186) (z2187) (-1)).bind fun r => match r with
     | .a0 z2204 z2205 =>
      (F71 (z2188) (z2189) (z2194) (z2195) (-1)).bind fun r => match r with
      | .a0 z2206 z2207 =>
       (F72 ([[i64 z2188, i64 z2189], [i64 z2204, i64 z2205], [i64 z2206, i64 z2207]])).bind fun r => match r with
       | .a0 b2208 k2209 l2210 =>
        if 0 + k2202 ≤ List.length l2203 then
         if 0 + k2209 ≤ List.length l2210 then
          some (A73.a0 (2) ([[vb b2201, V.list 2 (List.take k2202 l2203)], [vb b2208, V.list 2 (List.take k2209 l2210)]]))
         else
          none -- none
        else
         none -- none
theorem F73_ok (m : Nat) (z2180 : Int) (z2181 : Int) (z2182 : Int) (z2183 : Int) (z2184 : Int) (z2185 : Int) (z2186 : Int) (z2187 : Int) (z2188 : Int) (z2189 : Int) (z2190 : Int) (z2191 : Int) (z2192 : Int) (z2193 : Int) (z2194 : Int) (z2195 : Int) (r : A73) (h : F73 z2180 z2181 z2182 z2183 z2184 z2185 z2186 z2187 z2188 z2189 z2190 z2191 z2192 z2193 z2194 z2195 = some r) : call Try.prog X O0 18446744073709551616 (m + 7) 73 ([V.agg [i64 z2180, i64 z2181, i64 z2182, i64 z2183, i64 z2184, i64 z2185, i64 z2186, i64 z2187], V.agg [i64 z2188, i64 z2189, i64 z2190, i64 z2191, i64 z2192, i64 z2193, i64 z2194, i64 z2195]]) ([]) = some r.out := by
  unfold F73 at h
  obtain ⟨r0, h0, h⟩ := Option.bind_eq_some_iff.mp h
  have h0 := F71_ok (m + 5) (z2188) (z2189) (z2186) (z2187) (1) r0 h0
  cases r0 with
  | a0 z2197 z2198 =>
    obtain ⟨r1, h1, h⟩ := Option.bind_eq_some_iff.mp h
    have h1 := F71_ok (m + 5) (z2188) (z2189) (z2194) (z2195) (1) r1 h1
    cases r1 with
    | a0 z2199 z2200 =>
      obtain ⟨r2, h2, h⟩ := Option.bind_eq_some_iff.mp h
      have h2 := F72_ok (m + 0) ([[i64 z2188, i64 z2189], [i64 z2197, i64 z2198], [i64 z2199, i64 z2200]]) r2 h2
      cases r2 with
      | a0 b2201 k2202 l2203 =>
        obtain ⟨r3, h3, h⟩ := Option.bind_eq_some_iff.mp h
        have h3 := F71_ok (m + 5) (z2188) (z2189) (z2186) (z2187) (-1) r3 h3
        cases r3 with
        | a0 z2204 z2205 =>
          obtain ⟨r4, h4, h⟩ := Option.bind_eq_some_iff.mp h
          have h4 := F71_ok (m + 5) (z2188) (z2189) (z2194) (z2195) (-1) r4 h4
          cases r4 with
          | a0 z2206 z2207 =>
            obtain ⟨r5, h5, h⟩ := Option.bind_eq_some_iff.mp h
            have h5 := F72_ok (m + 0) ([[i64 z2188, i64 z2189], [i64 z2204, i64 z2205], [i64 z2206, i64 z2207]]) r5 h5
            cases r5 with
            | a0 b2208 k2209 l2210 =>
              rcases ite_eq h with ⟨h6, h⟩ | ⟨h6, h⟩
              · skip
                rcases ite_eq h with ⟨h7, h⟩ | ⟨h7, h⟩
                · skip
                  cases h
                  exact call_pathL (gs := [.a, .a, .a, .a, .a, .an (V.agg [i64 z2197, i64 z2198]) [], .a, .a, .an (V.agg [i64 z2199, i64 z2200]) [], .a, .an (V.agg [vb b2201, V.hs 0 0 k2202]) [Ob.cells true true 2 l2203], .a, .a, .a, .an (V.agg [i64 z2204, i64 z2205]) [], .a, .a, .an (V.agg [i64 z2206, i64 z2207]) [], .a, .an (V.agg [vb b2208, V.hs 0 0 k2209]) [Ob.cells true true 2 l2210], .t, .t, .ft [⟨0, [2], []⟩, ⟨1, [2], []⟩, ⟨2, [0], []⟩, ⟨3, [0], []⟩, ⟨4, [], []⟩, ⟨5, [2], []⟩, ⟨6, [1], []⟩, ⟨7, [1], []⟩, ⟨8, [], []⟩, ⟨9, [3], [3]⟩, ⟨10, [3, 4], [3, 4]⟩, ⟨11, [2], []⟩, ⟨12, [2], []⟩, ⟨13, [0], []⟩, ⟨14, [0], []⟩, ⟨15, [], []⟩, ⟨16, [2], []⟩, ⟨17, [1], []⟩, ⟨18, [1], []⟩, ⟨19, [], []⟩, ⟨20, [5], [5]⟩, ⟨21, [5, 6], [5, 6]⟩, ⟨22, [4, 6, 7], [4, 6, 7]⟩, ⟨23, [], []⟩]]) (notIn []) rfl rfl (by kernel_rfl) (And.intro h0 (And.intro h1 (And.intro h2 (And.intro h3 (And.intro h4 (And.intro h5 (And.intro (decide_eq_true h6) (And.intro (decide_eq_true h7) (And.intro (Eq.refl ([⟨0, [2], []⟩, ⟨1, [2], []⟩, ⟨2, [0], []⟩, ⟨3, [0], []⟩, ⟨4, [], []⟩, ⟨5, [2], []⟩, ⟨6, [1], []⟩, ⟨7, [1], []⟩, ⟨8, [], []⟩, ⟨9, [3], [3]⟩, ⟨10, [3, 4], [3, 4]⟩, ⟨11, [2], []⟩, ⟨12, [2], []⟩, ⟨13, [0], []⟩, ⟨14, [0], []⟩, ⟨15, [], []⟩, ⟨16, [2], []⟩, ⟨17, [1], []⟩, ⟨18, [1], []⟩, ⟨19, [], []⟩, ⟨20, [5], [5]⟩, ⟨21, [5, 6], [5, 6]⟩, ⟨22, [4, 6, 7], [4, 6, 7]⟩, ⟨23, [], []⟩] : List Foot)) True.intro)))))))))
                · skip
                  cases h
              · skip
                cases h
/-! ## 47 -/
noncomputable abbrev B47 : Code := (Try.f47.body).getD .skip
inductive R47_2 where
  | e0 (k2340 : Nat) (k2341 : Nat) (b2345 : Bool) (l2347 : List (List V)) (l2348 : List (List V))
@[reducible] def s47_2_0 (k2340 : Nat) (k2341 : Nat) (z2342 : Int) (z2343 : Int) (b2344 : Bool) (b2345 : Bool) (l2346 : List (List V)) (l2347 : List (List V)) (l2348 : List (List V)) : S := { T := U :: U :: U :: V.ptr 0 0 0 :: un 4 (V.hs 1 0 k2340 :: V.hs 2 0 k2341 :: U :: U :: U :: i64 z2342 :: un 96 (i64 z2342 :: V.hs 1 0 k2340 :: i64 z2343 :: vb b2344 :: un 34 [])), σ := [Ob.cells true false 2 [[vb b2345, V.list 2 l2346]], Ob.cells true true 8 l2347, Ob.cells true true 2 l2348] }
def R47_2.St : R47_2 → VX × S → Prop
  | .e0 k2340 k2341 b2345 l2347 l2348, p => ∃ z2342 : Int, ∃ z2343 : Int, ∃ b2344 : Bool, ∃ l2346 : List (List V), p = (VX.exit 2, s47_2_0 k2340 k2341 z2342 z2343 b2344 b2345 l2346 l2347 l2348)
def L47_2 : Nat → Nat → Nat → Int → Bool → List (List V) → List (List V) → List (List V) → Option R47_2
  | 0, _, _, _, _, _, _, _ => none
  | n + 1, k2215, k2216, z2217, b2218, l2219, l2220, l2221 =>
    if z2217 < (↑k2215 : Int) then
     if 0 ≤ w64 (z2217 - 1) ∧ w64 (z2217 - 1) < (↑k2215 : Int) then
      ((l2220[(0 : Nat) + Int.toNat (w64 (z2217 - (1 : Int)))]?).bind W86.dec).bind fun e2336 =>
      if 0 ≤ z2217 ∧ z2217 < (↑k2215 : Int) then
       ((l2220[(0 : Nat) + Int.toNat z2217]?).bind W86.dec).bind fun e2337 =>
       (F73 (e2336.c0) (e2336.c1) (e2336.c2) (e2336.c3) (e2336.c4) (e2336.c5) (e2336.c6) (e2336.c7) (e2337.c0) (e2337.c1) (e2337.c2) (e2337.c3) (e2337.c4) (e2337.c5) (e2337.c6) (e2337.c7)).bind fun r => match r with
       | .a0 k2338 l2339 =>
        if 0 + k2338 ≤ List.length l2339 then
         if 0 + k2216 ≤ List.length l2221 ∧ (k2216 + List.length (List.take k2338 l2339)) * 32 ≤ 140737488355328 ∧ k2216 + List.length (List.take k2338 l2339) ≤ 140737488355328 then
          L47_2 n (k2215) (k2216 + List.length (List.take k2338 l2339)) (w64 (z2217 + 1)) (b2218) (l2219) (l2220) (List.take k2216 l2221 ++ List.take k2338 l2339)
         else
          none -- none
        else
         none -- none
      else
       none -- none
     else
      none -- none
    else
     some (R47_2.e0 (k2215) (k2216) (b2218) (l2220) (l2221))
theorem L47_2_ok (m : Nat) : ∀ (n : Nat) (k2215 : Nat) (k2216 : Nat) (z2217 : Int) (b2218 : Bool) (l2219 : List (List V)) (l2220 : List (List V)) (l2221 : List (List V)) (r : R47_2), L47_2 n k2215 k2216 z2217 b2218 l2219 l2220 l2221 = some r → ∃ st, loopFrom Try.prog X (genO X (call Try.prog X O0 18446744073709551616 (m + 7))) 47 (0) 18446744073709551616 B47 2 n ({ T := U :: U :: U :: V.ptr 0 0 0 :: un 4 (V.hs 1 0 k2215 :: V.hs 2 0 k2216 :: U :: U :: U :: i64 z2217 :: un 134 []), σ := [Ob.cells true false 2 [[vb b2218, V.list 2 l2219]], Ob.cells true true 8 l2220, Ob.cells true true 2 l2221] }) = some st ∧ r.St st
  | 0, _, _, _, _, _, _, _, r, h => by cases h
  | n + 1, k2215, k2216, z2217, b2218, l2219, l2220, l2221, r, h => by
    rw [L47_2] at h
    rcases ite_eq h with ⟨h0, h⟩ | ⟨h0, h⟩
    · skip
      rcases ite_eq h with ⟨h1, h⟩ | ⟨h1, h⟩
      · skip
        obtain ⟨e2336, h2, h⟩ := Option.bind_eq_some_iff.mp h
        rcases ite_eq h with ⟨h3, h⟩ | ⟨h3, h⟩
        · skip
          obtain ⟨e2337, h4, h⟩ := Option.bind_eq_some_iff.mp h
          obtain ⟨r5, h5, h⟩ := Option.bind_eq_some_iff.mp h
          have h5 := F73_ok (m + 0) (e2336.c0) (e2336.c1) (e2336.c2) (e2336.c3) (e2336.c4) (e2336.c5) (e2336.c6) (e2336.c7) (e2337.c0) (e2337.c1) (e2337.c2) (e2337.c3) (e2337.c4) (e2337.c5) (e2337.c6) (e2337.c7) r5 h5
          cases r5 with
          | a0 k2338 l2339 =>
            rcases ite_eq h with ⟨h6, h⟩ | ⟨h6, h⟩
            · skip
              rcases ite_eq h with ⟨h7, h⟩ | ⟨h7, h⟩
              · skip
                obtain ⟨st, hs, hr⟩ := L47_2_ok m n (k2215) (k2216 + List.length (List.take k2338 l2339)) (w64 (z2217 + 1)) (b2218) (l2219) (l2220) (List.take k2216 l2221 ++ List.take k2338 l2339) r h
                exact ⟨st, (round_on (gs := [.t, .t, .el (W86.cells e2336), .t, .el (W86.cells e2337), .an (V.hs 0 0 k2338) [Ob.cells true true 2 l2339], .t, .t, .ft [⟨0, [], []⟩, ⟨1, [], []⟩, ⟨2, [], []⟩, ⟨3, [], []⟩, ⟨4, [1], []⟩, ⟨5, [1], []⟩, ⟨6, [], []⟩, ⟨7, [], []⟩, ⟨8, [1], []⟩, ⟨9, [1], []⟩, ⟨10, [3], [3]⟩, ⟨11, [3, 4, 2], [2, 4]⟩, ⟨12, [], []⟩]]) (notIn []) (by kernel_rfl) (And.intro (decide_eq_true h0) (And.intro (decide_eq_true h1) (And.intro (W86.dec_ok h2) (And.intro (decide_eq_true h3) (And.intro (W86.dec_ok h4) (And.intro h5 (And.intro (decide_eq_true h6) (And.intro (decide_eq_true h7) (And.intro (Eq.refl ([⟨0, [], []⟩, ⟨1, [], []⟩, ⟨2, [], []⟩, ⟨3, [], []⟩, ⟨4, [1], []⟩, ⟨5, [1], []⟩, ⟨6, [], []⟩, ⟨7, [], []⟩, ⟨8, [1], []⟩, ⟨9, [1], []⟩, ⟨10, [3], [3]⟩, ⟨11, [3, 4, 2], [2, 4]⟩, ⟨12, [], []⟩] : List Foot)) True.intro))))))))) n).trans hs, hr⟩
              · skip
                cases h
            · skip
              cases h
        · skip
          cases h
      · skip
        cases h
    · skip
      cases h
      exact ⟨_, round_out (gs := [.f]) (notIn []) (by kernel_rfl) rfl (And.intro (decide_eq_false h0) True.intro) n, z2217, (↑k2215 : Int), decide (z2217 < (↑k2215 : Int)), l2219, rfl⟩
inductive R47_0 where
  | e0 (k2317 : Nat) (k2318 : Nat) (b2322 : Bool) (l2323 : List (List V)) (l2324 : List (List V)) (l2325 : List (List V))
@[reducible] def s47_0_0 (z2316 : Int) (k2317 : Nat) (k2318 : Nat) (z2319 : Int) (z2320 : Int) (b2321 : Bool) (b2322 : Bool) (l2323 : List (List V)) (l2324 : List (List V)) (l2325 : List (List V)) : S := { T := U :: U :: i64 z2316 :: V.ptr 0 0 0 :: un 4 (V.hs 1 0 k2317 :: V.hs 2 0 k2318 :: i64 z2319 :: un 11 (i64 z2319 :: V.hs 1 0 k2317 :: i64 z2320 :: vb b2321 :: un 122 [])), σ := [Ob.cells true false 2 [[vb b2322, V.list 2 l2323]], Ob.cells true true 8 l2324, Ob.cells true true 2 l2325] }
def R47_0.St : R47_0 → VX × S → Prop
  | .e0 k2317 k2318 b2322 l2323 l2324 l2325, p => ∃ z2316 : Int, ∃ z2319 : Int, ∃ z2320 : Int, ∃ b2321 : Bool, p = (VX.exit 0, s47_0_0 z2316 k2317 k2318 z2319 z2320 b2321 b2322 l2323 l2324 l2325)
def L47_0 : Nat → Int → Nat → Nat → Int → Bool → List (List V) → List (List V) → List (List V) → Option R47_0
  | 0, _, _, _, _, _, _, _, _ => none
  | n + 1, z2119, k2120, k2121, z2122, b2123, l2124, l2125, l2126 =>
    if z2122 < (↑k2120 : Int) then
     if 0 ≤ z2122 ∧ z2122 < (↑k2120 : Int) then
      ((l2125[(0 : Nat) + Int.toNat z2122]?).bind W86.dec).bind fun e2243 =>
      if (z2119 == 1) = true then
       if (!b2123) = true then
        if (z2122 == 0) = true then
         (F71 (e2243.c0) (e2243.c1) (e2243.c4) (e2243.c5) (-1)).bind fun r => match r with
         | .a0 z2244 z2245 =>
          if (z2122 == w64 ((↑k2120 : Int) - 1)) = true then
           (F71 (e2243.c2) (e2243.c3) (e2243.c4) (e2243.c5) (1)).bind fun r => match r with
           | .a0 z2246 z2247 =>
            (F71 (z2244) (z2245) (e2243.c6) (e2243.c7) (1)).bind fun r => match r with
            | .a0 z2248 z2249 =>
             (F71 (z2246) (z2247) (e2243.c6) (e2243.c7) (1)).bind fun r => match r with
             | .a0 z2250 z2251 =>
              (F71 (z2246) (z2247) (e2243.c6) (e2243.c7) (-1)).bind fun r => match r with
              | .a0 z2252 z2253 =>
               (F71 (z2244) (z2245) (e2243.c6) (e2243.c7) (-1)).bind fun r => match r with
               | .a0 z2254 z2255 =>
                (F72 ([[i64 z2248, i64 z2249], [i64 z2250, i64 z2251], [i64 z2252, i64 z2253], [i64 z2254, i64 z2255]])).bind fun r => match r with
                | .a0 b2256 k2257 l2258 =>
                 if 0 + k2257 ≤ List.length l2258 then
                  if 0 + k2121 ≤ List.length l2126 ∧ (k2121 + 1) * 32 ≤ 140737488355328 ∧ k2121 + 1 ≤ 140737488355328 then
                   L47_0 n (z2119) (k2120) (k2121 + 1) (w64 (z2122 + 1)) (b2123) (l2124) (l2125) (List.take k2121 l2126 ++ [[vb b2256, V.list 2 (List.take k2257 l2258)]])
                  else
                   none -- none
                 else
                  none -- none
          else
           (F71 (z2244) (z2245) (e2243.c6) (e2243.c7) (1)).bind fun r => match r with
           | .a0 z2259 z2260 =>
            (F71 (e2243.c2) (e2243.c3) (e2243.c6) (e2243.c7) (1)).bind fun r => match r with
            | .a0 z2261 z2262 =>
             (F71 (e2243.c2) (e2243.c3) (e2243.c6) (e2243.c7) (-1)).bind fun r => match r with
             | .a0 z2263 z2264 =>
              (F71 (z2244) (z2245) (e2243.c6) (e2243.c7) (-1)).bind fun r => match r with
              | .a0 z2265 z2266 =>
               (F72 ([[i64 z2259, i64 z2260], [i64 z2261, i64 z2262], [i64 z2263, i64 z2264], [i64 z2265, i64 z2266]])).bind fun r => match r with
               | .a0 b2267 k2268 l2269 =>
                if 0 + k2268 ≤ List.length l2269 then
                 if 0 + k2121 ≤ List.length l2126 ∧ (k2121 + 1) * 32 ≤ 140737488355328 ∧ k2121 + 1 ≤ 140737488355328 then
                  L47_0 n (z2119) (k2120) (k2121 + 1) (w64 (z2122 + 1)) (b2123) (l2124) (l2125) (List.take k2121 l2126 ++ [[vb b2267, V.list 2 (List.take k2268 l2269)]])
                 else
                  none -- none
                else
                 none -- none
        else
         if (z2122 == w64 ((↑k2120 : Int) - 1)) = true then
          (F71 (e2243.c2) (e2243.c3) (e2243.c4) (e2243.c5) (1)).bind fun r => match r with
          | .a0 z2270 z2271 =>
           (F71 (e2243.c0) (e2243.c1) (e2243.c6) (e2243.c7) (1)).bind fun r => match r with
           | .a0 z2272 z2273 =>
            (F71 (z2270) (z2271) (e2243.c6) (e2243.c7) (1)).bind fun r => match r with
            | .a0 z2274 z2275 =>
             (F71 (z2270) (z2271) (e2243.c6) (e2243.c7) (-1)).bind fun r => match r with
             | .a0 z2276 z2277 =>
              (F71 (e2243.c0) (e2243.c1) (e2243.c6) (e2243.c7) (-1)).bind fun r => match r with
              | .a0 z2278 z2279 =>
               (F72 ([[i64 z2272, i64 z2273], [i64 z2274, i64 z2275], [i64 z2276, i64 z2277], [i64 z2278, i64 z2279]])).bind fun r => match r with
               | .a0 b2280 k2281 l2282 =>
                if 0 + k2281 ≤ List.length l2282 then
                 if 0 + k2121 ≤ List.length l2126 ∧ (k2121 + 1) * 32 ≤ 140737488355328 ∧ k2121 + 1 ≤ 140737488355328 then
                  L47_0 n (z2119) (k2120) (k2121 + 1) (w64 (z2122 + 1)) (b2123) (l2124) (l2125) (List.take k2121 l2126 ++ [[vb b2280, V.list 2 (List.take k2281 l2282)]])
                 else
                  none -- none
                else
                 none -- none
         else
          (F71 (e2243.c0) (e2243.c1) (e2243.c6) (e2243.c7) (1)).bind fun r => match r with
          | .a0 z2283 z2284 =>
           (F71 (e2243.c2) (e2243.c3) (e2243.c6) (e2243.c7) (1)).bind fun r => match r with
           | .a0 z2285 z2286 =>
            (F71 (e2243.c2) (e2243.c3) (e2243.c6) (e2243.c7) (-1)).bind fun r => match r with
            | .a0 z2287 z2288 =>
             (F71 (e2243.c0) (e2243.c1) (e2243.c6) (e2243.c7) (-1)).bind fun r => match r with
             | .a0 z2289 z2290 =>
              (F72 ([[i64 z2283, i64 z2284], [i64 z2285, i64 z2286], [i64 z2287, i64 z2288], [i64 z2289, i64 z2290]])).bind fun r => match r with
              | .a0 b2291 k2292 l2293 =>
               if 0 + k2292 ≤ List.length l2293 then
                if 0 + k2121 ≤ List.length l2126 ∧ (k2121 + 1) * 32 ≤ 140737488355328 ∧ k2121 + 1 ≤ 140737488355328 then
                 L47_0 n (z2119) (k2120) (k2121 + 1) (w64 (z2122 + 1)) (b2123) (l2124) (l2125) (List.take k2121 l2126 ++ [[vb b2291, V.list 2 (List.take k2292 l2293)]])
                else
                 none -- none
               else
                none -- none
       else
        (F71 (e2243.c0) (e2243.c1) (e2243.c6) (e2243.c7) (1)).bind fun r => match r with
        | .a0 z2294 z2295 =>
         (F71 (e2243.c2) (e2243.c3) (e2243.c6) (e2243.c7) (1)).bind fun r => match r with
         | .a0 z2296 z2297 =>
          (F71 (e2243.c2) (e2243.c3) (e2243.c6) (e2243.c7) (-1)).bind fun r => match r with
          | .a0 z2298 z2299 =>
           (F71 (e2243.c0) (e2243.c1) (e2243.c6) (e2243.c7) (-1)).bind fun r => match r with
           | .a0 z2300 z2301 =>
            (F72 ([[i64 z2294, i64 z2295], [i64 z2296, i64 z2297], [i64 z2298, i64 z2299], [i64 z2300, i64 z2301]])).bind fun r => match r with
            | .a0 b2302 k2303 l2304 =>
             if 0 + k2303 ≤ List.length l2304 then
              if 0 + k2121 ≤ List.length l2126 ∧ (k2121 + 1) * 32 ≤ 140737488355328 ∧ k2121 + 1 ≤ 140737488355328 then
               L47_0 n (z2119) (k2120) (k2121 + 1) (w64 (z2122 + 1)) (b2123) (l2124) (l2125) (List.take k2121 l2126 ++ [[vb b2302, V.list 2 (List.take k2303 l2304)]])
              else
               none -- none
             else
              none -- none
      else
       (F71 (e2243.c0) (e2243.c1) (e2243.c6) (e2243.c7) (1)).bind fun r => match r with
       | .a0 z2305 z2306 =>
        (F71 (e2243.c2) (e2243.c3) (e2243.c6) (e2243.c7) (1)).bind fun r => match r with
        | .a0 z2307 z2308 =>
         (F71 (e2243.c2) (e2243.c3) (e2243.c6) (e2243.c7) (-1)).bind fun r => match r with
         | .a0 z2309 z2310 =>
          (F71 (e2243.c0) (e2243.c1) (e2243.c6) (e2243.c7) (-1)).bind fun r => match r with
          | .a0 z2311 z2312 =>
           (F72 ([[i64 z2305, i64 z2306], [i64 z2307, i64 z2308], [i64 z2309, i64 z2310], [i64 z2311, i64 z2312]])).bind fun r => match r with
           | .a0 b2313 k2314 l2315 =>
            if 0 + k2314 ≤ List.length l2315 then
             if 0 + k2121 ≤ List.length l2126 ∧ (k2121 + 1) * 32 ≤ 140737488355328 ∧ k2121 + 1 ≤ 140737488355328 then
              L47_0 n (z2119) (k2120) (k2121 + 1) (w64 (z2122 + 1)) (b2123) (l2124) (l2125) (List.take k2121 l2126 ++ [[vb b2313, V.list 2 (List.take k2314 l2315)]])
             else
              none -- none
            else
             none -- none
     else
      none -- none
    else
     some (R47_0.e0 (k2120) (k2121) (b2123) (l2124) (l2125) (l2126))
theorem L47_0_ok (m : Nat) : ∀ (n : Nat) (z2119 : Int) (k2120 : Nat) (k2121 : Nat) (z2122 : Int) (b2123 : Bool) (l2124 : List (List V)) (l2125 : List (List V)) (l2126 : List (List V)) (r : R47_0), L47_0 n z2119 k2120 k2121 z2122 b2123 l2124 l2125 l2126 = some r → ∃ st, loopFrom Try.prog X (genO X (call Try.prog X O0 18446744073709551616 (m + 7))) 47 (0) 18446744073709551616 B47 0 n ({ T := U :: U :: i64 z2119 :: V.ptr 0 0 0 :: un 4 (V.hs 1 0 k2120 :: V.hs 2 0 k2121 :: i64 z2122 :: un 137 []), σ := [Ob.cells true false 2 [[vb b2123, V.list 2 l2124]], Ob.cells true true 8 l2125, Ob.cells true true 2 l2126] }) = some st ∧ r.St st
  | 0, _, _, _, _, _, _, _, _, r, h => by cases h
  | n + 1, z2119, k2120, k2121, z2122, b2123, l2124, l2125, l2126, r, h => by
    rw [L47_0] at h
    rcases ite_eq h with ⟨h0, h⟩ | ⟨h0, h⟩
    · skip
      rcases ite_eq h with ⟨h1, h⟩ | ⟨h1, h⟩
      · skip
        obtain ⟨e2243, h2, h⟩ := Option.bind_eq_some_iff.mp h
        rcases ite_eq h with ⟨h3, h⟩ | ⟨h3, h⟩
        · skip
          rcases ite_eq h with ⟨h4, h⟩ | ⟨h4, h⟩
          · skip
            rcases ite_eq h with ⟨h5, h⟩ | ⟨h5, h⟩
            · skip
              obtain ⟨r6, h6, h⟩ := Option.bind_eq_some_iff.mp h
              have h6 := F71_ok (m + 6) (e2243.c0) (e2243.c1) (e2243.c4) (e2243.c5) (-1) r6 h6
              cases r6 with
              | a0 z2244 z2245 =>
                rcases ite_eq h with ⟨h7, h⟩ | ⟨h7, h⟩
                · skip
                  obtain ⟨r8, h8, h⟩ := Option.bind_eq_some_iff.mp h
                  have h8 := F71_ok (m + 6) (e2243.c2) (e2243.c3) (e2243.c4) (e2243.c5) (1) r8 h8
                  cases r8 with
                  | a0 z2246 z2247 =>
                    obtain ⟨r9, h9, h⟩ := Option.bind_eq_some_iff.mp h
                    have h9 := F71_ok (m + 6) (z2244) (z2245) (e2243.c6) (e2243.c7) (1) r9 h9
                    cases r9 with
                    | a0 z2248 z2249 =>
                      obtain ⟨r10, h10, h⟩ := Option.bind_eq_some_iff.mp h
                      have h10 := F71_ok (m + 6) (z2246) (z2247) (e2243.c6) (e2243.c7) (1) r10 h10
                      cases r10 with
                      | a0 z2250 z2251 =>
                        obtain ⟨r11, h11, h⟩ := Option.bind_eq_some_iff.mp h
                        have h11 := F71_ok (m + 6) (z2246) (z2247) (e2243.c6) (e2243.c7) (-1) r11 h11
                        cases r11 with
                        | a0 z2252 z2253 =>
                          obtain ⟨r12, h12, h⟩ := Option.bind_eq_some_iff.mp h
                          have h12 := F71_ok (m + 6) (z2244) (z2245) (e2243.c6) (e2243.c7) (-1) r12 h12
                          cases r12 with
                          | a0 z2254 z2255 =>
                            obtain ⟨r13, h13, h⟩ := Option.bind_eq_some_iff.mp h
                            have h13 := F72_ok (m + 1) ([[i64 z2248, i64 z2249], [i64 z2250, i64 z2251], [i64 z2252, i64 z2253], [i64 z2254, i64 z2255]]) r13 h13
                            cases r13 with
                            | a0 b2256 k2257 l2258 =>
                              rcases ite_eq h with ⟨h14, h⟩ | ⟨h14, h⟩
                              · skip
                                rcases ite_eq h with ⟨h15, h⟩ | ⟨h15, h⟩
                                · skip
                                  obtain ⟨st, hs, hr⟩ := L47_0_ok m n (z2119) (k2120) (k2121 + 1) (w64 (z2122 + 1)) (b2123) (l2124) (l2125) (List.take k2121 l2126 ++ [[vb b2256, V.list 2 (List.take k2257 l2258)]]) r h
                                  exact ⟨st, (round_on (gs := [.t, .t, .el (W86.cells e2243), .t, .el (W86.cells e2243), .a, .a, .ft [⟨0, [], []⟩, ⟨1, [], []⟩, ⟨2, [1], []⟩, ⟨3, [1], []⟩, ⟨4, [1], []⟩, ⟨5, [], []⟩, ⟨6, [], []⟩, ⟨7, [1], []⟩, ⟨8, [1], []⟩, ⟨9, [1], []⟩, ⟨10, [3], [3]⟩, ⟨11, [4], [4]⟩, ⟨12, [3], [3]⟩, ⟨13, [4], [4]⟩], .t, .t, .a, .t, .t, .t, .t, .t, .t, .a, .t, .el (W86.cells e2243), .an (V.agg [i64 z2244, i64 z2245]) [], .a, .ft [⟨0, [3], []⟩, ⟨1, [], []⟩, ⟨2, [], []⟩, ⟨3, [1], []⟩, ⟨4, [1], []⟩, ⟨5, [1], []⟩, ⟨6, [], []⟩, ⟨7, [3], [3]⟩], .t, .t, .a, .t, .t, .t, .t, .t, .t, .t, .t, .t, .a, .t, .el (W86.cells e2243), .an (V.agg [i64 z2246, i64 z2247]) [], .a, .ft [⟨0, [4], []⟩, ⟨1, [], []⟩, ⟨2, [], []⟩, ⟨3, [1], []⟩, ⟨4, [1], []⟩, ⟨5, [1], []⟩, ⟨6, [], []⟩, ⟨7, [4], [4]⟩], .a, .t, .el (W86.cells e2243), .an (V.agg [i64 z2248, i64 z2249]) [], .a, .t, .el (W86.cells e2243), .an (V.agg [i64 z2250, i64 z2251]) [], .a, .t, .el (W86.cells e2243), .an (V.agg [i64 z2252, i64 z2253]) [], .a, .t, .el (W86.cells e2243), .an (V.agg [i64 z2254, i64 z2255]) [], .a, .an (V.agg [vb b2256, V.hs 0 0 k2257]) [Ob.cells true true 2 l2258], .t, .a, .t, .ft [⟨0, [], []⟩, ⟨1, [3], []⟩, ⟨2, [], []⟩, ⟨3, [], []⟩, ⟨4, [1], []⟩, ⟨5, [1], []⟩, ⟨6, [1], []⟩, ⟨7, [], []⟩, ⟨8, [4], []⟩, ⟨9, [], []⟩, ⟨10, [], []⟩, ⟨11, [1], []⟩, ⟨12, [1], []⟩, ⟨13, [1], []⟩, ⟨14, [], []⟩, ⟨15, [4], []⟩, ⟨16, [], []⟩, ⟨17, [], []⟩, ⟨18, [1], []⟩, ⟨19, [1], []⟩, ⟨20, [1], []⟩, ⟨21, [], []⟩, ⟨22, [3], []⟩, ⟨23, [], []⟩, ⟨24, [], []⟩, ⟨25, [1], []⟩, ⟨26, [1], []⟩, ⟨27, [1], []⟩, ⟨28, [], []⟩, ⟨29, [5], [5]⟩, ⟨30, [5, 6], [5, 6]⟩, ⟨31, [6, 7], [6, 7]⟩, ⟨32, [7, 8, 2], [2, 8]⟩, ⟨33, [], []⟩]]) (notIn []) (by kernel_rfl) (And.intro (decide_eq_true h0) (And.intro (decide_eq_true h1) (And.intro (W86.dec_ok h2) (And.intro (decide_eq_true h1) (And.intro (W86.dec_ok h2) (And.intro (Eq.refl ([⟨0, [], []⟩, ⟨1, [], []⟩, ⟨2, [1], []⟩, ⟨3, [1], []⟩, ⟨4, [1], []⟩, ⟨5, [], []⟩, ⟨6, [], []⟩, ⟨7, [1], []⟩, ⟨8, [1], []⟩, ⟨9, [1], []⟩, ⟨10, [3], [3]⟩, ⟨11, [4], [4]⟩, ⟨12, [3], [3]⟩, ⟨13, [4], [4]⟩] : List Foot)) (And.intro h3 (And.intro h3 (And.intro h3 (And.intro h3 (And.intro h4 (And.intro h4 (And.intro h4 (And.intro h5 (And.intro (decide_eq_true h1) (And.intro (W86.dec_ok h2) (And.intro h6 (And.intro (Eq.refl ([⟨0, [3], []⟩, ⟨1, [], []⟩, ⟨2, [], []⟩, ⟨3, [1], []⟩, ⟨4, [1], []⟩, ⟨5, [1], []⟩, ⟨6, [], []⟩, ⟨7, [3], [3]⟩] : List Foot)) (And.intro h3 (And.intro h3 (And.intro h3 (And.intro h3 (And.intro h4 (And.intro h4 (And.intro h4 (And.intro h4 (And.intro h4 (And.intro h4 (And.intro h7 (And.intro (decide_eq_true h1) (And.intro (W86.dec_ok h2) (And.intro h8 (And.intro (Eq.refl ([⟨0, [4], []⟩, ⟨1, [], []⟩, ⟨2, [], []⟩, ⟨3, [1], []⟩, ⟨4, [1], []⟩, ⟨5, [1], []⟩, ⟨6, [], []⟩, ⟨7, [4], [4]⟩] : List Foot)) (And.intro (decide_eq_true h1) (And.intro (W86.dec_ok h2) (And.intro h9 (And.intro (decide_eq_true h1) (And.intro (W86.dec_ok h2) (And.intro h10 (And.intro (decide_eq_true h1) (And.intro (W86.dec_ok h2) (And.intro h11 (And.intro (decide_eq_true h1) (And.intro (W86.dec_ok h2) (And.intro h12 (And.intro h13 (And.intro (decide_eq_true h14) (And.intro (decide_eq_true h15) (And.intro (Eq.refl ([⟨0, [], []⟩, ⟨1, [3], []⟩, ⟨2, [], []⟩, ⟨3, [], []⟩, ⟨4, [1], []⟩, ⟨5, [1], []⟩, ⟨6, [1], []⟩, ⟨7, [], []⟩, ⟨8, [4], []⟩, ⟨9, [], []⟩, ⟨10, [], []⟩, ⟨11, [1], []⟩, ⟨12, [1], []⟩, ⟨13, [1], []⟩, ⟨14, [], []⟩, ⟨15, [4], []⟩, ⟨16, [], []⟩, ⟨17, [], []⟩, ⟨18, [1], []⟩, ⟨19, [1], []⟩, ⟨20, [1], []⟩, ⟨21, [], []⟩, ⟨22, [3], []⟩, ⟨23, [], []⟩, ⟨24, [], []⟩, ⟨25, [1], []⟩, ⟨26, [1], []⟩, ⟨27, [1], []⟩, ⟨28, [], []⟩, ⟨29, [5], [5]⟩, ⟨30, [5, 6], [5, 6]⟩, ⟨31, [6, 7], [6, 7]⟩, ⟨32, [7, 8, 2], [2, 8]⟩, ⟨33, [], []⟩] : List Foot)) True.intro))))))))))))))))))))))))))))))))))))))))))))))))) n).trans hs, hr⟩
                                · skip
                                  cases h
                              · skip
                                cases h
                · skip
                  obtain ⟨r8, h8, h⟩ := Option.bind_eq_some_iff.mp h
                  have h8 := F71_ok (m + 6) (z2244) (z2245) (e2243.c6) (e2243.c7) (1) r8 h8
                  cases r8 with
                  | a0 z2259 z2260 =>
                    obtain ⟨r9, h9, h⟩ := Option.bind_eq_some_iff.mp h
                    have h9 := F71_ok (m + 6) (e2243.c2) (e2243.c3) (e2243.c6) (e2243.c7) (1) r9 h9
                    cases r9 with
                    | a0 z2261 z2262 =>
                      obtain ⟨r10, h10, h⟩ := Option.bind_eq_some_iff.mp h
                      have h10 := F71_ok (m + 6) (e2243.c2) (e2243.c3) (e2243.c6) (e2243.c7) (-1) r10 h10
                      cases r10 with
                      | a0 z2263 z2264 =>
                        obtain ⟨r11, h11, h⟩ := Option.bind_eq_some_iff.mp h
                        have h11 := F71_ok (m + 6) (z2244) (z2245) (e2243.c6) (e2243.c7) (-1) r11 h11
                        cases r11 with
                        | a0 z2265 z2266 =>
                          obtain ⟨r12, h12, h⟩ := Option.bind_eq_some_iff.mp h
                          have h12 := F72_ok (m + 1) ([[i64 z2259, i64 z2260], [i64 z2261, i64 z2262], [i64 z2263, i64 z2264], [i64 z2265, i64 z2266]]) r12 h12
                          cases r12 with
                          | a0 b2267 k2268 l2269 =>
                            rcases ite_eq h with ⟨h13, h⟩ | ⟨h13, h⟩
                            · skip
                              rcases ite_eq h with ⟨h14, h⟩ | ⟨h14, h⟩
                              · skip
                                obtain ⟨st, hs, hr⟩ := L47_0_ok m n (z2119) (k2120) (k2121 + 1) (w64 (z2122 + 1)) (b2123) (l2124) (l2125) (List.take k2121 l2126 ++ [[vb b2267, V.list 2 (List.take k2268 l2269)]]) r h
                                exact ⟨st, (round_on (gs := [.t, .t, .el (W86.cells e2243), .t, .el (W86.cells e2243), .a, .a, .ft [⟨0, [], []⟩, ⟨1, [], []⟩, ⟨2, [1], []⟩, ⟨3, [1], []⟩, ⟨4, [1], []⟩, ⟨5, [], []⟩, ⟨6, [], []⟩, ⟨7, [1], []⟩, ⟨8, [1], []⟩, ⟨9, [1], []⟩, ⟨10, [3], [3]⟩, ⟨11, [4], [4]⟩, ⟨12, [3], [3]⟩, ⟨13, [4], [4]⟩], .t, .t, .a, .t, .t, .t, .t, .t, .t, .a, .t, .el (W86.cells e2243), .an (V.agg [i64 z2244, i64 z2245]) [], .a, .ft [⟨0, [3], []⟩, ⟨1, [], []⟩, ⟨2, [], []⟩, ⟨3, [1], []⟩, ⟨4, [1], []⟩, ⟨5, [1], []⟩, ⟨6, [], []⟩, ⟨7, [3], [3]⟩], .t, .t, .a, .t, .t, .t, .t, .t, .t, .t, .t, .f, .a, .t, .el (W86.cells e2243), .an (V.agg [i64 z2259, i64 z2260]) [], .a, .t, .el (W86.cells e2243), .an (V.agg [i64 z2261, i64 z2262]) [], .a, .t, .el (W86.cells e2243), .an (V.agg [i64 z2263, i64 z2264]) [], .a, .t, .el (W86.cells e2243), .an (V.agg [i64 z2265, i64 z2266]) [], .a, .an (V.agg [vb b2267, V.hs 0 0 k2268]) [Ob.cells true true 2 l2269], .t, .a, .t, .ft [⟨0, [], []⟩, ⟨1, [3], []⟩, ⟨2, [], []⟩, ⟨3, [], []⟩, ⟨4, [1], []⟩, ⟨5, [1], []⟩, ⟨6, [1], []⟩, ⟨7, [], []⟩, ⟨8, [4], []⟩, ⟨9, [], []⟩, ⟨10, [], []⟩, ⟨11, [1], []⟩, ⟨12, [1], []⟩, ⟨13, [1], []⟩, ⟨14, [], []⟩, ⟨15, [4], []⟩, ⟨16, [], []⟩, ⟨17, [], []⟩, ⟨18, [1], []⟩, ⟨19, [1], []⟩, ⟨20, [1], []⟩, ⟨21, [], []⟩, ⟨22, [3], []⟩, ⟨23, [], []⟩, ⟨24, [], []⟩, ⟨25, [1], []⟩, ⟨26, [1], []⟩, ⟨27, [1], []⟩, ⟨28, [], []⟩, ⟨29, [5], [5]⟩, ⟨30, [5, 6], [5, 6]⟩, ⟨31, [6, 7], [6, 7]⟩, ⟨32, [7, 8, 2], [2, 8]⟩, ⟨33, [], []⟩]]) (notIn []) (by kernel_rfl) (And.intro (decide_eq_true h0) (And.intro (decide_eq_true h1) (And.intro (W86.dec_ok h2) (And.intro (decide_eq_true h1) (And.intro (W86.dec_ok h2) (And.intro (Eq.refl ([⟨0, [], []⟩, ⟨1, [], []⟩, ⟨2, [1], []⟩, ⟨3, [1], []⟩, ⟨4, [1], []⟩, ⟨5, [], []⟩, ⟨6, [], []⟩, ⟨7, [1], []⟩, ⟨8, [1], []⟩, ⟨9, [1], []⟩, ⟨10, [3], [3]⟩, ⟨11, [4], [4]⟩, ⟨12, [3], [3]⟩, ⟨13, [4], [4]⟩] : List Foot)) (And.intro h3 (And.intro h3 (And.intro h3 (And.intro h3 (And.intro h4 (And.intro h4 (And.intro h4 (And.intro h5 (And.intro (decide_eq_true h1) (And.intro (W86.dec_ok h2) (And.intro h6 (And.intro (Eq.refl ([⟨0, [3], []⟩, ⟨1, [], []⟩, ⟨2, [], []⟩, ⟨3, [1], []⟩, ⟨4, [1], []⟩, ⟨5, [1], []⟩, ⟨6, [], []⟩, ⟨7, [3], [3]⟩] : List Foot)) (And.intro h3 (And.intro h3 (And.intro h3 (And.intro h3 (And.intro h4 (And.intro h4 (And.intro h4 (And.intro h4 (And.intro h4 (And.intro h4 (And.intro (Bool.eq_false_iff.mpr h7) (And.intro (decide_eq_true h1) (And.intro (W86.dec_ok h2) (And.intro h8 (And.intro (decide_eq_true h1) (And.intro (W86.dec_ok h2) (And.intro h9 (And.intro (decide_eq_true h1) (And.intro (W86.dec_ok h2) (And.intro h10 (And.intro (decide_eq_true h1) (And.intro (W86.dec_ok h2) (And.intro h11 (And.intro h12 (And.intro (decide_eq_true h13) (And.intro (decide_eq_true h14) (And.intro (Eq.refl ([⟨0, [], []⟩, ⟨1, [3], []⟩, ⟨2, [], []⟩, ⟨3, [], []⟩, ⟨4, [1], []⟩, ⟨5, [1], []⟩, ⟨6, [1], []⟩, ⟨7, [], []⟩, ⟨8, [4], []⟩, ⟨9, [], []⟩, ⟨10, [], []⟩, ⟨11, [1], []⟩, ⟨12, [1], []⟩, ⟨13, [1], []⟩, ⟨14, [], []⟩, ⟨15, [4], []⟩, ⟨16, [], []⟩, ⟨17, [], []⟩, ⟨18, [1], []⟩, ⟨19, [1], []⟩, ⟨20, [1], []⟩, ⟨21, [], []⟩, ⟨22, [3], []⟩, ⟨23, [], []⟩, ⟨24, [], []⟩, ⟨25, [1], []⟩, ⟨26, [1], []⟩, ⟨27, [1], []⟩, ⟨28, [], []⟩, ⟨29, [5], [5]⟩, ⟨30, [5, 6], [5, 6]⟩, ⟨31, [6, 7], [6, 7]⟩, ⟨32, [7, 8, 2], [2, 8]⟩, ⟨33, [], []⟩] : List Foot)) True.intro))))))))))))))))))))))))))))))))))))))))))))) n).trans hs, hr⟩
                              · skip
                                cases h
                            · skip
                              cases h
            · skip
              rcases ite_eq h with ⟨h6, h⟩ | ⟨h6, h⟩
              · skip
                obtain ⟨r7, h7, h⟩ := Option.bind_eq_some_iff.mp h
                have h7 := F71_ok (m + 6) (e2243.c2) (e2243.c3) (e2243.c4) (e2243.c5) (1) r7 h7
                cases r7 with
                | a0 z2270 z2271 =>
                  obtain ⟨r8, h8, h⟩ := Option.bind_eq_some_iff.mp h
                  have h8 := F71_ok (m + 6) (e2243.c0) (e2243.c1) (e2243.c6) (e2243.c7) (1) r8 h8
                  cases r8 with
                  | a0 z2272 z2273 =>
                    obtain ⟨r9, h9, h⟩ := Option.bind_eq_some_iff.mp h
                    have h9 := F71_ok (m + 6) (z2270) (z2271) (e2243.c6) (e2243.c7) (1) r9 h9
                    cases r9 with
                    | a0 z2274 z2275 =>
                      obtain ⟨r10, h10, h⟩ := Option.bind_eq_some_iff.mp h
                      have h10 := F71_ok (m + 6) (z2270) (z2271) (e2243.c6) (e2243.c7) (-1) r10 h10
                      cases r10 with
                      | a0 z2276 z2277 =>
                        obtain ⟨r11, h11, h⟩ := Option.bind_eq_some_iff.mp h
                        have h11 := F71_ok (m + 6) (e2243.c0) (e2243.c1) (e2243.c6) (e2243.c7) (-1) r11 h11
                        cases r11 with
                        | a0 z2278 z2279 =>
                          obtain ⟨r12, h12, h⟩ := Option.bind_eq_some_iff.mp h
                          have h12 := F72_ok (m + 1) ([[i64 z2272, i64 z2273], [i64 z2274, i64 z2275], [i64 z2276, i64 z2277], [i64 z2278, i64 z2279]]) r12 h12
                          cases r12 with
                          | a0 b2280 k2281 l2282 =>
                            rcases ite_eq h with ⟨h13, h⟩ | ⟨h13, h⟩
                            · skip
                              rcases ite_eq h with ⟨h14, h⟩ | ⟨h14, h⟩
                              · skip
                                obtain ⟨st, hs, hr⟩ := L47_0_ok m n (z2119) (k2120) (k2121 + 1) (w64 (z2122 + 1)) (b2123) (l2124) (l2125) (List.take k2121 l2126 ++ [[vb b2280, V.list 2 (List.take k2281 l2282)]]) r h
                                exact ⟨st, (round_on (gs := [.t, .t, .el (W86.cells e2243), .t, .el (W86.cells e2243), .a, .a, .ft [⟨0, [], []⟩, ⟨1, [], []⟩, ⟨2, [1], []⟩, ⟨3, [1], []⟩, ⟨4, [1], []⟩, ⟨5, [], []⟩, ⟨6, [], []⟩, ⟨7, [1], []⟩, ⟨8, [1], []⟩, ⟨9, [1], []⟩, ⟨10, [3], [3]⟩, ⟨11, [4], [4]⟩, ⟨12, [3], [3]⟩, ⟨13, [4], [4]⟩], .t, .t, .a, .t, .t, .t, .t, .t, .f, .t, .t, .a, .t, .t, .t, .t, .t, .t, .t, .t, .t, .a, .t, .el (W86.cells e2243), .an (V.agg [i64 z2270, i64 z2271]) [], .a, .ft [⟨0, [4], []⟩, ⟨1, [], []⟩, ⟨2, [], []⟩, ⟨3, [1], []⟩, ⟨4, [1], []⟩, ⟨5, [1], []⟩, ⟨6, [], []⟩, ⟨7, [4], [4]⟩], .a, .t, .el (W86.cells e2243), .an (V.agg [i64 z2272, i64 z2273]) [], .a, .t, .el (W86.cells e2243), .an (V.agg [i64 z2274, i64 z2275]) [], .a, .t, .el (W86.cells e2243), .an (V.agg [i64 z2276, i64 z2277]) [], .a, .t, .el (W86.cells e2243), .an (V.agg [i64 z2278, i64 z2279]) [], .a, .an (V.agg [vb b2280, V.hs 0 0 k2281]) [Ob.cells true true 2 l2282], .t, .a, .t, .ft [⟨0, [], []⟩, ⟨1, [3], []⟩, ⟨2, [], []⟩, ⟨3, [], []⟩, ⟨4, [1], []⟩, ⟨5, [1], []⟩, ⟨6, [1], []⟩, ⟨7, [], []⟩, ⟨8, [4], []⟩, ⟨9, [], []⟩, ⟨10, [], []⟩, ⟨11, [1], []⟩, ⟨12, [1], []⟩, ⟨13, [1], []⟩, ⟨14, [], []⟩, ⟨15, [4], []⟩, ⟨16, [], []⟩, ⟨17, [], []⟩, ⟨18, [1], []⟩, ⟨19, [1], []⟩, ⟨20, [1], []⟩, ⟨21, [], []⟩, ⟨22, [3], []⟩, ⟨23, [], []⟩, ⟨24, [], []⟩, ⟨25, [1], []⟩, ⟨26, [1], []⟩, ⟨27, [1], []⟩, ⟨28, [], []⟩, ⟨29, [5], [5]⟩, ⟨30, [5, 6], [5, 6]⟩, ⟨31, [6, 7], [6, 7]⟩, ⟨32, [7, 8, 2], [2, 8]⟩, ⟨33, [], []⟩]]) (notIn []) (by kernel_rfl) (And.intro (decide_eq_true h0) (And.intro (decide_eq_true h1) (And.intro (W86.dec_ok h2) (And.intro (decide_eq_true h1) (And.intro (W86.dec_ok h2) (And.intro (Eq.refl ([⟨0, [], []⟩, ⟨1, [], []⟩, ⟨2, [1], []⟩, ⟨3, [1], []⟩, ⟨4, [1], []⟩, ⟨5, [], []⟩, ⟨6, [], []⟩, ⟨7, [1], []⟩, ⟨8, [1], []⟩, ⟨9, [1], []⟩, ⟨10, [3], [3]⟩, ⟨11, [4], [4]⟩, ⟨12, [3], [3]⟩, ⟨13, [4], [4]⟩] : List Foot)) (And.intro h3 (And.intro h3 (And.intro h3 (And.intro h3 (And.intro h4 (And.intro h4 (And.intro h4 (And.intro (Bool.eq_false_iff.mpr h5) (And.intro h3 (And.intro h3 (And.intro h3 (And.intro h3 (And.intro h4 (And.intro h4 (And.intro h4 (And.intro h4 (And.intro h4 (And.intro h4 (And.intro h6 (And.intro (decide_eq_true h1) (And.intro (W86.dec_ok h2) (And.intro h7 (And.intro (Eq.refl ([⟨0, [4], []⟩, ⟨1, [], []⟩, ⟨2, [], []⟩, ⟨3, [1], []⟩, ⟨4, [1], []⟩, ⟨5, [1], []⟩, ⟨6, [], []⟩, ⟨7, [4], [4]⟩] : List Foot)) (And.intro (decide_eq_true h1) (And.intro (W86.dec_ok h2) (And.intro h8 (And.intro (decide_eq_true h1) (And.intro (W86.dec_ok h2) (And.intro h9 (And.intro (decide_eq_true h1) (And.intro (W86.dec_ok h2) (And.intro h10 (And.intro (decide_eq_true h1) (And.intro (W86.dec_ok h2) (And.intro h11 (And.intro h12 (And.intro (decide_eq_true h13) (And.intro (decide_eq_true h14) (And.intro (Eq.refl ([⟨0, [], []⟩, ⟨1, [3], []⟩, ⟨2, [], []⟩, ⟨3, [], []⟩, ⟨4, [1], []⟩, ⟨5, [1], []⟩, ⟨6, [1], []⟩, ⟨7, [], []⟩, ⟨8, [4], []⟩, ⟨9, [], []⟩, ⟨10, [], []⟩, ⟨11, [1], []⟩, ⟨12, [1], []⟩, ⟨13, [1], []⟩, ⟨14, [], []⟩, ⟨15, [4], []⟩, ⟨16, [], []⟩, ⟨17, [], []⟩, ⟨18, [1], []⟩, ⟨19, [1], []⟩, ⟨20, [1], []⟩, ⟨21, [], []⟩, ⟨22, [3], []⟩, ⟨23, [], []⟩, ⟨24, [], []⟩, ⟨25, [1], []⟩, ⟨26, [1], []⟩, ⟨27, [1], []⟩, ⟨28, [], []⟩, ⟨29, [5], [5]⟩, ⟨30, [5, 6], [5, 6]⟩, ⟨31, [6, 7], [6, 7]⟩, ⟨32, [7, 8, 2], [2, 8]⟩, ⟨33, [], []⟩] : List Foot)) True.intro))))))))))))))))))))))))))))))))))))))))))))) n).trans hs, hr⟩
                              · skip
                                cases h
                            · skip
                              cases h
              · skip
                obtain ⟨r7, h7, h⟩ := Option.bind_eq_some_iff.mp h
                have h7 := F71_ok (m + 6) (e2243.c0) (e2243.c1) (e2243.c6) (e2243.c7) (1) r7 h7
                cases r7 with
                | a0 z2283 z2284 =>
                  obtain ⟨r8, h8, h⟩ := Option.bind_eq_some_iff.mp h
                  have h8 := F71_ok (m + 6) (e2243.c2) (e2243.c3) (e2243.c6) (e2243.c7) (1) r8 h8
                  cases r8 with
                  | a0 z2285 z2286 =>
                    obtain ⟨r9, h9, h⟩ := Option.bind_eq_some_iff.mp h
                    have h9 := F71_ok (m + 6) (e2243.c2) (e2243.c3) (e2243.c6) (e2243.c7) (-1) r9 h9
                    cases r9 with
                    | a0 z2287 z2288 =>
                      obtain ⟨r10, h10, h⟩ := Option.bind_eq_some_iff.mp h
                      have h10 := F71_ok (m + 6) (e2243.c0) (e2243.c1) (e2243.c6) (e2243.c7) (-1) r10 h10
                      cases r10 with
                      | a0 z2289 z2290 =>
                        obtain ⟨r11, h11, h⟩ := Option.bind_eq_some_iff.mp h
                        have h11 := F72_ok (m + 1) ([[i64 z2283, i64 z2284], [i64 z2285, i64 z2286], [i64 z2287, i64 z2288], [i64 z2289, i64 z2290]]) r11 h11
                        cases r11 with
                        | a0 b2291 k2292 l2293 =>
                          rcases ite_eq h with ⟨h12, h⟩ | ⟨h12, h⟩
                          · skip
                            rcases ite_eq h with ⟨h13, h⟩ | ⟨h13, h⟩
                            · skip
                              obtain ⟨st, hs, hr⟩ := L47_0_ok m n (z2119) (k2120) (k2121 + 1) (w64 (z2122 + 1)) (b2123) (l2124) (l2125) (List.take k2121 l2126 ++ [[vb b2291, V.list 2 (List.take k2292 l2293)]]) r h
                              exact ⟨st, (round_on (gs := [.t, .t, .el (W86.cells e2243), .t, .el (W86.cells e2243), .a, .a, .ft [⟨0, [], []⟩, ⟨1, [], []⟩, ⟨2, [1], []⟩, ⟨3, [1], []⟩, ⟨4, [1], []⟩, ⟨5, [], []⟩, ⟨6, [], []⟩, ⟨7, [1], []⟩, ⟨8, [1], []⟩, ⟨9, [1], []⟩, ⟨10, [3], [3]⟩, ⟨11, [4], [4]⟩, ⟨12, [3], [3]⟩, ⟨13, [4], [4]⟩], .t, .t, .a, .t, .t, .t, .t, .t, .f, .t, .t, .a, .t, .t, .t, .t, .t, .t, .t, .t, .f, .a, .t, .el (W86.cells e2243), .an (V.agg [i64 z2283, i64 z2284]) [], .a, .t, .el (W86.cells e2243), .an (V.agg [i64 z2285, i64 z2286]) [], .a, .t, .el (W86.cells e2243), .an (V.agg [i64 z2287, i64 z2288]) [], .a, .t, .el (W86.cells e2243), .an (V.agg [i64 z2289, i64 z2290]) [], .a, .an (V.agg [vb b2291, V.hs 0 0 k2292]) [Ob.cells true true 2 l2293], .t, .a, .t, .ft [⟨0, [], []⟩, ⟨1, [3], []⟩, ⟨2, [], []⟩, ⟨3, [], []⟩, ⟨4, [1], []⟩, ⟨5, [1], []⟩, ⟨6, [1], []⟩, ⟨7, [], []⟩, ⟨8, [4], []⟩, ⟨9, [], []⟩, ⟨10, [], []⟩, ⟨11, [1], []⟩, ⟨12, [1], []⟩, ⟨13, [1], []⟩, ⟨14, [], []⟩, ⟨15, [4], []⟩, ⟨16, [], []⟩, ⟨17, [], []⟩, ⟨18, [1], []⟩, ⟨19, [1], []⟩, ⟨20, [1], []⟩, ⟨21, [], []⟩, ⟨22, [3], []⟩, ⟨23, [], []⟩, ⟨24, [], []⟩, ⟨25, [1], []⟩, ⟨26, [1], []⟩, ⟨27, [1], []⟩, ⟨28, [], []⟩, ⟨29, [5], [5]⟩, ⟨30, [5, 6], [5, 6]⟩, ⟨31, [6, 7], [6, 7]⟩, ⟨32, [7, 8, 2], [2, 8]⟩, ⟨33, [], []⟩]]) (notIn []) (by kernel_rfl) (And.intro (decide_eq_true h0) (And.intro (decide_eq_true h1) (And.intro (W86.dec_ok h2) (And.intro (decide_eq_true h1) (And.intro (W86.dec_ok h2) (And.intro (Eq.refl ([⟨0, [], []⟩, ⟨1, [], []⟩, ⟨2, [1], []⟩, ⟨3, [1], []⟩, ⟨4, [1], []⟩, ⟨5, [], []⟩, ⟨6, [], []⟩, ⟨7, [1], []⟩, ⟨8, [1], []⟩, ⟨9, [1], []⟩, ⟨10, [3], [3]⟩, ⟨11, [4], [4]⟩, ⟨12, [3], [3]⟩, ⟨13, [4], [4]⟩] : List Foot)) (And.intro h3 (And.intro h3 (And.intro h3 (And.intro h3 (And.intro h4 (And.intro h4 (And.intro h4 (And.intro (Bool.eq_false_iff.mpr h5) (And.intro h3 (And.intro h3 (And.intro h3 (And.intro h3 (And.intro h4 (And.intro h4 (And.intro h4 (And.intro h4 (And.intro h4 (And.intro h4 (And.intro (Bool.eq_false_iff.mpr h6) (And.intro (decide_eq_true h1) (And.intro (W86.dec_ok h2) (And.intro h7 (And.intro (decide_eq_true h1) (And.intro (W86.dec_ok h2) (And.intro h8 (And.intro (decide_eq_true h1) (And.intro (W86.dec_ok h2) (And.intro h9 (And.intro (decide_eq_true h1) (And.intro (W86.dec_ok h2) (And.intro h10 (And.intro h11 (And.intro (decide_eq_true h12) (And.intro (decide_eq_true h13) (And.intro (Eq.refl ([⟨0, [], []⟩, ⟨1, [3], []⟩, ⟨2, [], []⟩, ⟨3, [], []⟩, ⟨4, [1], []⟩, ⟨5, [1], []⟩, ⟨6, [1], []⟩, ⟨7, [], []⟩, ⟨8, [4], []⟩, ⟨9, [], []⟩, ⟨10, [], []⟩, ⟨11, [1], []⟩, ⟨12, [1], []⟩, ⟨13, [1], []⟩, ⟨14, [], []⟩, ⟨15, [4], []⟩, ⟨16, [], []⟩, ⟨17, [], []⟩, ⟨18, [1], []⟩, ⟨19, [1], []⟩, ⟨20, [1], []⟩, ⟨21, [], []⟩, ⟨22, [3], []⟩, ⟨23, [], []⟩, ⟨24, [], []⟩, ⟨25, [1], []⟩, ⟨26, [1], []⟩, ⟨27, [1], []⟩, ⟨28, [], []⟩, ⟨29, [5], [5]⟩, ⟨30, [5, 6], [5, 6]⟩, ⟨31, [6, 7], [6, 7]⟩, ⟨32, [7, 8, 2], [2, 8]⟩, ⟨33, [], []⟩] : List Foot)) True.intro))))))))))))))))))))))))))))))))))))))))) n).trans hs, hr⟩
                            · skip
                              cases h
                          · skip
                            cases h
          · skip
            obtain ⟨r5, h5, h⟩ := Option.bind_eq_some_iff.mp h
            have h5 := F71_ok (m + 6) (e2243.c0) (e2243.c1) (e2243.c6) (e2243.c7) (1) r5 h5
            cases r5 with
            | a0 z2294 z2295 =>
              obtain ⟨r6, h6, h⟩ := Option.bind_eq_some_iff.mp h
              have h6 := F71_ok (m + 6) (e2243.c2) (e2243.c3) (e2243.c6) (e2243.c7) (1) r6 h6
              cases r6 with
              | a0 z2296 z2297 =>
                obtain ⟨r7, h7, h⟩ := Option.bind_eq_some_iff.mp h
                have h7 := F71_ok (m + 6) (e2243.c2) (e2243.c3) (e2243.c6) (e2243.c7) (-1) r7 h7
                cases r7 with
                | a0 z2298 z2299 =>
                  obtain ⟨r8, h8, h⟩ := Option.bind_eq_some_iff.mp h
                  have h8 := F71_ok (m + 6) (e2243.c0) (e2243.c1) (e2243.c6) (e2243.c7) (-1) r8 h8
                  cases r8 with
                  | a0 z2300 z2301 =>
                    obtain ⟨r9, h9, h⟩ := Option.bind_eq_some_iff.mp h
                    have h9 := F72_ok (m + 1) ([[i64 z2294, i64 z2295], [i64 z2296, i64 z2297], [i64 z2298, i64 z2299], [i64 z2300, i64 z2301]]) r9 h9
                    cases r9 with
                    | a0 b2302 k2303 l2304 =>
                      rcases ite_eq h with ⟨h10, h⟩ | ⟨h10, h⟩
                      · skip
                        rcases ite_eq h with ⟨h11, h⟩ | ⟨h11, h⟩
                        · skip
                          obtain ⟨st, hs, hr⟩ := L47_0_ok m n (z2119) (k2120) (k2121 + 1) (w64 (z2122 + 1)) (b2123) (l2124) (l2125) (List.take k2121 l2126 ++ [[vb b2302, V.list 2 (List.take k2303 l2304)]]) r h
                          exact ⟨st, (round_on (gs := [.t, .t, .el (W86.cells e2243), .t, .el (W86.cells e2243), .a, .a, .ft [⟨0, [], []⟩, ⟨1, [], []⟩, ⟨2, [1], []⟩, ⟨3, [1], []⟩, ⟨4, [1], []⟩, ⟨5, [], []⟩, ⟨6, [], []⟩, ⟨7, [1], []⟩, ⟨8, [1], []⟩, ⟨9, [1], []⟩, ⟨10, [3], [3]⟩, ⟨11, [4], [4]⟩, ⟨12, [3], [3]⟩, ⟨13, [4], [4]⟩], .t, .t, .a, .t, .t, .f, .f, .f, .a, .t, .t, .a, .t, .t, .f, .f, .f, .f, .f, .f, .a, .a, .t, .el (W86.cells e2243), .an (V.agg [i64 z2294, i64 z2295]) [], .a, .t, .el (W86.cells e2243), .an (V.agg [i64 z2296, i64 z2297]) [], .a, .t, .el (W86.cells e2243), .an (V.agg [i64 z2298, i64 z2299]) [], .a, .t, .el (W86.cells e2243), .an (V.agg [i64 z2300, i64 z2301]) [], .a, .an (V.agg [vb b2302, V.hs 0 0 k2303]) [Ob.cells true true 2 l2304], .t, .a, .t, .ft [⟨0, [], []⟩, ⟨1, [3], []⟩, ⟨2, [], []⟩, ⟨3, [], []⟩, ⟨4, [1], []⟩, ⟨5, [1], []⟩, ⟨6, [1], []⟩, ⟨7, [], []⟩, ⟨8, [4], []⟩, ⟨9, [], []⟩, ⟨10, [], []⟩, ⟨11, [1], []⟩, ⟨12, [1], []⟩, ⟨13, [1], []⟩, ⟨14, [], []⟩, ⟨15, [4], []⟩, ⟨16, [], []⟩, ⟨17, [], []⟩, ⟨18, [1], []⟩, ⟨19, [1], []⟩, ⟨20, [1], []⟩, ⟨21, [], []⟩, ⟨22, [3], []⟩, ⟨23, [], []⟩, ⟨24, [], []⟩, ⟨25, [1], []⟩, ⟨26, [1], []⟩, ⟨27, [1], []⟩, ⟨28, [], []⟩, ⟨29, [5], [5]⟩, ⟨30, [5, 6], [5, 6]⟩, ⟨31, [6, 7], [6, 7]⟩, ⟨32, [7, 8, 2], [2, 8]⟩, ⟨33, [], []⟩]]) (notIn []) (by kernel_rfl) (And.intro (decide_eq_true h0) (And.intro (decide_eq_true h1) (And.intro (W86.dec_ok h2) (And.intro (decide_eq_true h1) (And.intro (W86.dec_ok h2) (And.intro (Eq.refl ([⟨0, [], []⟩, ⟨1, [], []⟩, ⟨2, [1], []⟩, ⟨3, [1], []⟩, ⟨4, [1], []⟩, ⟨5, [], []⟩, ⟨6, [], []⟩, ⟨7, [1], []⟩, ⟨8, [1], []⟩, ⟨9, [1], []⟩, ⟨10, [3], [3]⟩, ⟨11, [4], [4]⟩, ⟨12, [3], [3]⟩, ⟨13, [4], [4]⟩] : List Foot)) (And.intro h3 (And.intro h3 (And.intro h3 (And.intro h3 (And.intro (Bool.eq_false_iff.mpr h4) (And.intro (Bool.eq_false_iff.mpr h4) (And.intro (Bool.eq_false_iff.mpr h4) (And.intro h3 (And.intro h3 (And.intro h3 (And.intro h3 (And.intro (Bool.eq_false_iff.mpr h4) (And.intro (Bool.eq_false_iff.mpr h4) (And.intro (Bool.eq_false_iff.mpr h4) (And.intro (Bool.eq_false_iff.mpr h4) (And.intro (Bool.eq_false_iff.mpr h4) (And.intro (Bool.eq_false_iff.mpr h4) (And.intro (decide_eq_true h1) (And.intro (W86.dec_ok h2) (And.intro h5 (And.intro (decide_eq_true h1) (And.intro (W86.dec_ok h2) (And.intro h6 (And.intro (decide_eq_true h1) (And.intro (W86.dec_ok h2) (And.intro h7 (And.intro (decide_eq_true h1) (And.intro (W86.dec_ok h2) (And.intro h8 (And.intro h9 (And.intro (decide_eq_true h10) (And.intro (decide_eq_true h11) (And.intro (Eq.refl ([⟨0, [], []⟩, ⟨1, [3], []⟩, ⟨2, [], []⟩, ⟨3, [], []⟩, ⟨4, [1], []⟩, ⟨5, [1], []⟩, ⟨6, [1], []⟩, ⟨7, [], []⟩, ⟨8, [4], []⟩, ⟨9, [], []⟩, ⟨10, [], []⟩, ⟨11, [1], []⟩, ⟨12, [1], []⟩, ⟨13, [1], []⟩, ⟨14, [], []⟩, ⟨15, [4], []⟩, ⟨16, [], []⟩, ⟨17, [], []⟩, ⟨18, [1], []⟩, ⟨19, [1], []⟩, ⟨20, [1], []⟩, ⟨21, [], []⟩, ⟨22, [3], []⟩, ⟨23, [], []⟩, ⟨24, [], []⟩, ⟨25, [1], []⟩, ⟨26, [1], []⟩, ⟨27, [1], []⟩, ⟨28, [], []⟩, ⟨29, [5], [5]⟩, ⟨30, [5, 6], [5, 6]⟩, ⟨31, [6, 7], [6, 7]⟩, ⟨32, [7, 8, 2], [2, 8]⟩, ⟨33, [], []⟩] : List Foot)) True.intro))))))))))))))))))))))))))))))))))))))) n).trans hs, hr⟩
                        · skip
                          cases h
                      · skip
                        cases h
        · skip
          obtain ⟨r4, h4, h⟩ := Option.bind_eq_some_iff.mp h
          have h4 := F71_ok (m + 6) (e2243.c0) (e2243.c1) (e2243.c6) (e2243.c7) (1) r4 h4
          cases r4 with
          | a0 z2305 z2306 =>
            obtain ⟨r5, h5, h⟩ := Option.bind_eq_some_iff.mp h
            have h5 := F71_ok (m + 6) (e2243.c2) (e2243.c3) (e2243.c6) (e2243.c7) (1) r5 h5
            cases r5 with
            | a0 z2307 z2308 =>
              obtain ⟨r6, h6, h⟩ := Option.bind_eq_some_iff.mp h
              have h6 := F71_ok (m + 6) (e2243.c2) (e2243.c3) (e2243.c6) (e2243.c7) (-1) r6 h6
              cases r6 with
              | a0 z2309 z2310 =>
                obtain ⟨r7, h7, h⟩ := Option.bind_eq_some_iff.mp h
                have h7 := F71_ok (m + 6) (e2243.c0) (e2243.c1) (e2243.c6) (e2243.c7) (-1) r7 h7
                cases r7 with
                | a0 z2311 z2312 =>
                  obtain ⟨r8, h8, h⟩ := Option.bind_eq_some_iff.mp h
                  have h8 := F72_ok (m + 1) ([[i64 z2305, i64 z2306], [i64 z2307, i64 z2308], [i64 z2309, i64 z2310], [i64 z2311, i64 z2312]]) r8 h8
                  cases r8 with
                  | a0 b2313 k2314 l2315 =>
                    rcases ite_eq h with ⟨h9, h⟩ | ⟨h9, h⟩
                    · skip
                      rcases ite_eq h with ⟨h10, h⟩ | ⟨h10, h⟩
                      · skip
                        obtain ⟨st, hs, hr⟩ := L47_0_ok m n (z2119) (k2120) (k2121 + 1) (w64 (z2122 + 1)) (b2123) (l2124) (l2125) (List.take k2121 l2126 ++ [[vb b2313, V.list 2 (List.take k2314 l2315)]]) r h
                        exact ⟨st, (round_on (gs := [.t, .t, .el (W86.cells e2243), .t, .el (W86.cells e2243), .a, .a, .ft [⟨0, [], []⟩, ⟨1, [], []⟩, ⟨2, [1], []⟩, ⟨3, [1], []⟩, ⟨4, [1], []⟩, ⟨5, [], []⟩, ⟨6, [], []⟩, ⟨7, [1], []⟩, ⟨8, [1], []⟩, ⟨9, [1], []⟩, ⟨10, [3], [3]⟩, ⟨11, [4], [4]⟩, ⟨12, [3], [3]⟩, ⟨13, [4], [4]⟩], .f, .f, .f, .f, .a, .a, .a, .a, .f, .f, .f, .f, .a, .a, .a, .a, .a, .a, .a, .a, .t, .el (W86.cells e2243), .an (V.agg [i64 z2305, i64 z2306]) [], .a, .t, .el (W86.cells e2243), .an (V.agg [i64 z2307, i64 z2308]) [], .a, .t, .el (W86.cells e2243), .an (V.agg [i64 z2309, i64 z2310]) [], .a, .t, .el (W86.cells e2243), .an (V.agg [i64 z2311, i64 z2312]) [], .a, .an (V.agg [vb b2313, V.hs 0 0 k2314]) [Ob.cells true true 2 l2315], .t, .a, .t, .ft [⟨0, [], []⟩, ⟨1, [3], []⟩, ⟨2, [], []⟩, ⟨3, [], []⟩, ⟨4, [1], []⟩, ⟨5, [1], []⟩, ⟨6, [1], []⟩, ⟨7, [], []⟩, ⟨8, [4], []⟩, ⟨9, [], []⟩, ⟨10, [], []⟩, ⟨11, [1], []⟩, ⟨12, [1], []⟩, ⟨13, [1], []⟩, ⟨14, [], []⟩, ⟨15, [4], []⟩, ⟨16, [], []⟩, ⟨17, [], []⟩, ⟨18, [1], []⟩, ⟨19, [1], []⟩, ⟨20, [1], []⟩, ⟨21, [], []⟩, ⟨22, [3], []⟩, ⟨23, [], []⟩, ⟨24, [], []⟩, ⟨25, [1], []⟩, ⟨26, [1], []⟩, ⟨27, [1], []⟩, ⟨28, [], []⟩, ⟨29, [5], [5]⟩, ⟨30, [5, 6], [5, 6]⟩, ⟨31, [6, 7], [6, 7]⟩, ⟨32, [7, 8, 2], [2, 8]⟩, ⟨33, [], []⟩]]) (notIn []) (by kernel_rfl) (And.intro (decide_eq_true h0) (And.intro (decide_eq_true h1) (And.intro (W86.dec_ok h2) (And.intro (decide_eq_true h1) (And.intro (W86.dec_ok h2) (And.intro (Eq.refl ([⟨0, [], []⟩, ⟨1, [], []⟩, ⟨2, [1], []⟩, ⟨3, [1], []⟩, ⟨4, [1], []⟩, ⟨5, [], []⟩, ⟨6, [], []⟩, ⟨7, [1], []⟩, ⟨8, [1], []⟩, ⟨9, [1], []⟩, ⟨10, [3], [3]⟩, ⟨11, [4], [4]⟩, ⟨12, [3], [3]⟩, ⟨13, [4], [4]⟩] : List Foot)) (And.intro (Bool.eq_false_iff.mpr h3) (And.intro (Bool.eq_false_iff.mpr h3) (And.intro (Bool.eq_false_iff.mpr h3) (And.intro (Bool.eq_false_iff.mpr h3) (And.intro (Bool.eq_false_iff.mpr h3) (And.intro (Bool.eq_false_iff.mpr h3) (And.intro (Bool.eq_false_iff.mpr h3) (And.intro (Bool.eq_false_iff.mpr h3) (And.intro (decide_eq_true h1) (And.intro (W86.dec_ok h2) (And.intro h4 (And.intro (decide_eq_true h1) (And.intro (W86.dec_ok h2) (And.intro h5 (And.intro (decide_eq_true h1) (And.intro (W86.dec_ok h2) (And.intro h6 (And.intro (decide_eq_true h1) (And.intro (W86.dec_ok h2) (And.intro h7 (And.intro h8 (And.intro (decide_eq_true h9) (And.intro (decide_eq_true h10) (And.intro (Eq.refl ([⟨0, [], []⟩, ⟨1, [3], []⟩, ⟨2, [], []⟩, ⟨3, [], []⟩, ⟨4, [1], []⟩, ⟨5, [1], []⟩, ⟨6, [1], []⟩, ⟨7, [], []⟩, ⟨8, [4], []⟩, ⟨9, [], []⟩, ⟨10, [], []⟩, ⟨11, [1], []⟩, ⟨12, [1], []⟩, ⟨13, [1], []⟩, ⟨14, [], []⟩, ⟨15, [4], []⟩, ⟨16, [], []⟩, ⟨17, [], []⟩, ⟨18, [1], []⟩, ⟨19, [1], []⟩, ⟨20, [1], []⟩, ⟨21, [], []⟩, ⟨22, [3], []⟩, ⟨23, [], []⟩, ⟨24, [], []⟩, ⟨25, [1], []⟩, ⟨26, [1], []⟩, ⟨27, [1], []⟩, ⟨28, [], []⟩, ⟨29, [5], [5]⟩, ⟨30, [5, 6], [5, 6]⟩, ⟨31, [6, 7], [6, 7]⟩, ⟨32, [7, 8, 2], [2, 8]⟩, ⟨33, [], []⟩] : List Foot)) True.intro)))))))))))))))))))))))))))))) n).trans hs, hr⟩
                      · skip
                        cases h
                    · skip
                      cases h
      · skip
        cases h
    · skip
      cases h
      exact ⟨_, round_out (gs := [.f]) (notIn []) (by kernel_rfl) rfl (And.intro (decide_eq_false h0) True.intro) n, z2119, z2122, (↑k2120 : Int), decide (z2122 < (↑k2120 : Int)), rfl⟩
inductive A47 where
  | a0 (k2239 : Nat) (l2240 : List (List V))
@[reducible] def A47.out : A47 → V × Store
  | .a0 k2239 l2240 => (V.hs 0 0 k2239, [Ob.cells true true 2 l2240])
def F47 (b1223 : Bool) (l1224 : List (List V)) (z1225 : Int) (z1226 : Int) : Option A47 :=
  bnd (F67 (Int.fdiv z1225 2) (0) (67108864)) fun z2238 =>
  if (z2238 == 0) = true then
   some (A47.a0 (0) ([]))
  else
   (F70 (b1223) (l1224) (z2238)).bind fun r => match r with
   | .a0 k2241 l2242 =>
    (L47_0 18446744073709551616 (z1226) (k2241) (0) (0) (b1223) (l1224) (l2242) ([])).bind fun r => match r with
    | .e0 k2327 k2328 b2332 l2333 l2334 l2335 =>
     (L47_2 18446744073709551616 (k2327) (k2328) (1) (b2332) (l2333) (l2334) (l2335)).bind fun r => match r with
     | .e0 k2349 k2350 b2354 l2356 l2357 =>
      if (b2354) = true then
       if (↑k2349 : Int) ≥ 2 then
        if 0 ≤ w64 ((↑k2349 : Int) - 1) ∧ w64 ((↑k2349 : Int) - 1) < (↑k2349 : Int) then
         ((l2356[(0 : Nat) + Int.toNat (w64 ((↑k2349 : Int) - (1 : Int)))]?).bind W86.dec).bind fun e2358 =>
         if (0 : Int) ≤ (0 : Int) ∧ (0 : Int) < (↑k2349 : Int) then
          ((l2356[(0 : Nat)]?).bind W86.dec).bind fun e2359 =>
          (F73 (e2358.c0) (e2358.c1) (e2358.c2) (e2358.c3) (e2358.c4) (e2358.c5) (e2358.c6) (e2358.c7) (e2359.c0) (e2359.c1) (e2359.c2) (e2359.c3) (e2359.c4) (e2359.c5) (e2359.c6) (e2359.c7)).bind fun r => match r with
          | .a0 k2360 l2361 =>
           if 0 + k2360 ≤ List.length l2361 then
            if 0 + k2350 ≤ List.length l2357 ∧ (k2350 + List.length (List.take k2360 l2361)) * 32 ≤ 140737488355328 ∧ k2350 + List.length (List.take k2360 l2361) ≤ 140737488355328 then
             some (A47.a0 (k2350 + List.length (List.take k2360 l2361)) (List.take k2350 l2357 ++ List.take k2360 l2361))
            else
             none -- none
           else
            none -- none
         else
          none -- none
        else
         none -- none
       else
        some (A47.a0 (k2350) (l2357))
      else
       some (A47.a0 (k2350) (l2357))
theorem F47_ok (m : Nat) (b1223 : Bool) (l1224 : List (List V)) (z1225 : Int) (z1226 : Int) (r : A47) (h : F47 b1223 l1224 z1225 z1226 = some r) : call Try.prog X O0 18446744073709551616 (m + 8) 47 ([V.agg [vb b1223, V.list 2 l1224], i64 z1225, i64 z1226]) ([]) = some r.out := by
  unfold F47 at h
  obtain ⟨z2238, h0, h⟩ := bnd_eq h
  rcases ite_eq h with ⟨h1, h⟩ | ⟨h1, h⟩
  · skip
    cases h
    exact call_pathL (gs := [.a, .an (i64 z2238) [], .t]) (notIn []) rfl rfl (by kernel_rfl) (And.intro (F67_ok (m + 6) (Int.fdiv z1225 2) (0) (67108864) z2238 h0) (And.intro h1 True.intro))
  · skip
    obtain ⟨r2, h2, h⟩ := Option.bind_eq_some_iff.mp h
    have h2 := F70_ok (m + 1) (b1223) (l1224) (z2238) r2 h2
    cases r2 with
    | a0 k2241 l2242 =>
      obtain ⟨r3, h3, h⟩ := Option.bind_eq_some_iff.mp h
      obtain ⟨st3, h3, hr3⟩ := L47_0_ok m 18446744073709551616 (z1226) (k2241) (0) (0) (b1223) (l1224) (l2242) ([]) r3 h3
      have h3 : loopRun Try.prog X (genO X (call Try.prog X O0 18446744073709551616 (m + 7))) 47 (0) 18446744073709551616 B47 0 ({ T := V.agg [vb b1223, V.list 2 l1224] :: i64 z1225 :: i64 z1226 :: V.ptr 0 0 0 :: U :: U :: V.nilS :: i64 z2238 :: V.hs 1 0 k2241 :: V.nilS :: i64 0 :: U :: U :: U :: i64 z1225 :: i64 (Int.fdiv z1225 2) :: i64 z2238 :: i64 z2238 :: vb (z2238 == 0) :: V.agg [vb b1223, V.list 2 l1224] :: i64 z2238 :: V.hs 1 0 k2241 :: un 126 [], σ := [Ob.cells true false 2 [[vb b1223, V.list 2 l1224]], Ob.cells true true 8 l2242] }) = some st3 := by
        rw [loopRun_from, show pre X 47 (0) 0 ({ T := V.agg [vb b1223, V.list 2 l1224] :: i64 z1225 :: i64 z1226 :: V.ptr 0 0 0 :: U :: U :: V.nilS :: i64 z2238 :: V.hs 1 0 k2241 :: V.nilS :: i64 0 :: U :: U :: U :: i64 z1225 :: i64 (Int.fdiv z1225 2) :: i64 z2238 :: i64 z2238 :: vb (z2238 == 0) :: V.agg [vb b1223, V.list 2 l1224] :: i64 z2238 :: V.hs 1 0 k2241 :: un 126 [], σ := [Ob.cells true false 2 [[vb b1223, V.list 2 l1224]], Ob.cells true true 8 l2242] }) = { T := U :: U :: i64 z1226 :: V.ptr 0 0 0 :: un 4 (V.hs 1 0 k2241 :: V.hs 2 0 0 :: i64 0 :: un 137 []), σ := [Ob.cells true false 2 [[vb b1223, V.list 2 l1224]], Ob.cells true true 8 l2242, Ob.cells true true 2 []] } by kernel_rfl]
        exact h3
      cases r3 with
      | e0 k2327 k2328 b2332 l2333 l2334 l2335 =>
        obtain ⟨z2326, z2329, z2330, b2331, rfl⟩ := hr3
        obtain ⟨r4, h4, h⟩ := Option.bind_eq_some_iff.mp h
        obtain ⟨st4, h4, hr4⟩ := L47_2_ok m 18446744073709551616 (k2327) (k2328) (1) (b2332) (l2333) (l2334) (l2335) r4 h4
        have h4 : loopRun Try.prog X (genO X (call Try.prog X O0 18446744073709551616 (m + 7))) 47 (0) 18446744073709551616 B47 2 ({ T := U :: U :: i64 z2326 :: V.ptr 0 0 0 :: un 4 (V.hs 1 0 k2327 :: V.hs 2 0 k2328 :: i64 z2329 :: U :: U :: i64 1 :: un 8 (i64 z2329 :: V.hs 1 0 k2327 :: i64 z2330 :: vb b2331 :: un 122 [])), σ := [Ob.cells true false 2 [[vb b2332, V.list 2 l2333]], Ob.cells true true 8 l2334, Ob.cells true true 2 l2335] }) = some st4 := by
          rw [loopRun_from, show pre X 47 (0) 2 ({ T := U :: U :: i64 z2326 :: V.ptr 0 0 0 :: un 4 (V.hs 1 0 k2327 :: V.hs 2 0 k2328 :: i64 z2329 :: U :: U :: i64 1 :: un 8 (i64 z2329 :: V.hs 1 0 k2327 :: i64 z2330 :: vb b2331 :: un 122 [])), σ := [Ob.cells true false 2 [[vb b2332, V.list 2 l2333]], Ob.cells true true 8 l2334, Ob.cells true true 2 l2335] }) = { T := U :: U :: U :: V.ptr 0 0 0 :: un 4 (V.hs 1 0 k2327 :: V.hs 2 0 k2328 :: U :: U :: U :: i64 1 :: un 134 []), σ := [Ob.cells true false 2 [[vb b2332, V.list 2 l2333]], Ob.cells true true 8 l2334, Ob.cells true true 2 l2335] } by kernel_rfl]
          exact h4
        cases r4 with
        | e0 k2349 k2350 b2354 l2356 l2357 =>
          obtain ⟨z2351, z2352, b2353, l2355, rfl⟩ := hr4
          rcases ite_eq h with ⟨h5, h⟩ | ⟨h5, h⟩
          · skip
            rcases ite_eq h with ⟨h6, h⟩ | ⟨h6, h⟩
            · skip
              rcases ite_eq h with ⟨h7, h⟩ | ⟨h7, h⟩
              · skip
                obtain ⟨e2358, h8, h⟩ := Option.bind_eq_some_iff.mp h
                rcases ite_eq h with ⟨h9, h⟩ | ⟨h9, h⟩
                · skip
                  obtain ⟨e2359, h10, h⟩ := Option.bind_eq_some_iff.mp h
                  obtain ⟨r11, h11, h⟩ := Option.bind_eq_some_iff.mp h
                  have h11 := F73_ok (m + 0) (e2358.c0) (e2358.c1) (e2358.c2) (e2358.c3) (e2358.c4) (e2358.c5) (e2358.c6) (e2358.c7) (e2359.c0) (e2359.c1) (e2359.c2) (e2359.c3) (e2359.c4) (e2359.c5) (e2359.c6) (e2359.c7) r11 h11
                  cases r11 with
                  | a0 k2360 l2361 =>
                    rcases ite_eq h with ⟨h12, h⟩ | ⟨h12, h⟩
                    · skip
                      rcases ite_eq h with ⟨h13, h⟩ | ⟨h13, h⟩
                      · skip
                        cases h
                        exact call_pathL (gs := [.a, .an (i64 z2238) [], .f, .a, .an (V.hs 0 0 k2241) [Ob.cells true true 8 l2242], .lp (VX.exit 0) (s47_0_0 z2326 k2327 k2328 z2329 z2330 b2331 b2332 l2333 l2334 l2335), .lp (VX.exit 2) (s47_2_0 k2349 k2350 z2351 z2352 b2353 b2354 l2355 l2356 l2357), .a, .t, .t, .t, .t, .t, .t, .el (W86.cells e2358), .t, .el (W86.cells e2359), .an (V.hs 0 0 k2360) [Ob.cells true true 2 l2361], .t, .t, .ft [⟨0, [], []⟩, ⟨1, [], []⟩, ⟨2, [], []⟩, ⟨3, [1], []⟩, ⟨4, [], []⟩, ⟨5, [1], []⟩, ⟨6, [1], []⟩, ⟨7, [], []⟩, ⟨8, [1], []⟩, ⟨9, [1], []⟩, ⟨10, [3], [3]⟩, ⟨11, [3, 4, 2], [2, 4]⟩, ⟨12, [], []⟩]]) (notIn []) rfl rfl (by kernel_rfl) (And.intro (F67_ok (m + 6) (Int.fdiv z1225 2) (0) (67108864) z2238 h0) (And.intro (Bool.eq_false_iff.mpr h1) (And.intro h2 (And.intro h3 (And.intro h4 (And.intro h5 (And.intro h5 (And.intro h5 (And.intro h5 (And.intro (decide_eq_true h6) (And.intro (decide_eq_true h7) (And.intro (W86.dec_ok h8) (And.intro (decide_eq_true h9) (And.intro (W86.dec_ok h10) (And.intro h11 (And.intro (decide_eq_true h12) (And.intro (decide_eq_true h13) (And.intro (Eq.refl ([⟨0, [], []⟩, ⟨1, [], []⟩, ⟨2, [], []⟩, ⟨3, [1], []⟩, ⟨4, [], []⟩, ⟨5, [1], []⟩, ⟨6, [1], []⟩, ⟨7, [], []⟩, ⟨8, [1], []⟩, ⟨9, [1], []⟩, ⟨10, [3], [3]⟩, ⟨11, [3, 4, 2], [2, 4]⟩, ⟨12, [], []⟩] : List Foot)) True.intro))))))))))))))))))
                      · skip
                        cases h
                    · skip
                      cases h
                · skip
                  cases h
              · skip
                cases h
            · skip
              cases h
              exact call_pathL (gs := [.a, .an (i64 z2238) [], .f, .a, .an (V.hs 0 0 k2241) [Ob.cells true true 8 l2242], .lp (VX.exit 0) (s47_0_0 z2326 k2327 k2328 z2329 z2330 b2331 b2332 l2333 l2334 l2335), .lp (VX.exit 2) (s47_2_0 k2349 k2350 z2351 z2352 b2353 b2354 l2355 l2356 l2357), .a, .t, .t, .t, .t, .f]) (notIn []) rfl rfl (by kernel_rfl) (And.intro (F67_ok (m + 6) (Int.fdiv z1225 2) (0) (67108864) z2238 h0) (And.intro (Bool.eq_false_iff.mpr h1) (And.intro h2 (And.intro h3 (And.intro h4 (And.intro h5 (And.intro h5 (And.intro h5 (And.intro h5 (And.intro (decide_eq_false h6) True.intro))))))))))
          · skip
            cases h
            exact call_pathL (gs := [.a, .an (i64 z2238) [], .f, .a, .an (V.hs 0 0 k2241) [Ob.cells true true 8 l2242], .lp (VX.exit 0) (s47_0_0 z2326 k2327 k2328 z2329 z2330 b2331 b2332 l2333 l2334 l2335), .lp (VX.exit 2) (s47_2_0 k2349 k2350 z2351 z2352 b2353 b2354 l2355 l2356 l2357), .a, .f, .f, .f, .f, .a]) (notIn []) rfl rfl (by kernel_rfl) (And.intro (F67_ok (m + 6) (Int.fdiv z1225 2) (0) (67108864) z2238 h0) (And.intro (Bool.eq_false_iff.mpr h1) (And.intro h2 (And.intro h3 (And.intro h4 (And.intro (Bool.eq_false_iff.mpr h5) (And.intro (Bool.eq_false_iff.mpr h5) (And.intro (Bool.eq_false_iff.mpr h5) (And.intro (Bool.eq_false_iff.mpr h5) True.intro)))))))))
/-! ## 24 -/
noncomputable abbrev B24 : Code := (Try.f24.body).getD .skip
inductive R24_0 where
  | e0
  | e1
  | e2
@[reducible] def s24_0_0 (l2427 : List (List V)) (l2428 : List (List V)) (z2429 : Int) (z2430 : Int) (b2431 : Bool) (b2432 : Bool) (l2433 : List (List V)) (b2434 : Bool) (l2435 : List (List V)) (b2436 : Bool) : S := { T := V.list 2 l2427 :: V.list 2 l2428 :: U :: U :: vb false :: i64 z2429 :: un 5 [i64 z2429, V.list 2 l2427, i64 z2430, vb b2431, U, U, V.list 2 l2427, i64 z2429, V.pp [vb b2432, V.list 2 l2433], V.pp [vb b2432, V.list 2 l2433], vb b2432, V.list 2 l2428, i64 z2429, V.pp [vb b2434, V.list 2 l2435], V.pp [vb b2434, V.list 2 l2435], vb b2434, vb b2436, vb b2436, E, E, E, E, E, E, E, E, E, E, E, E, vb true], σ := [] }
@[reducible] def s24_0_1 (l2438 : List (List V)) (l2439 : List (List V)) (z2440 : Int) (z2441 : Int) (b2442 : Bool) (b2443 : Bool) (l2444 : List (List V)) (b2445 : Bool) (l2446 : List (List V)) (b2447 : Bool) (b2448 : Bool) (b2449 : Bool) : S := { T := V.list 2 l2438 :: V.list 2 l2439 :: U :: U :: vb false :: i64 z2440 :: un 5 [i64 z2440, V.list 2 l2438, i64 z2441, vb b2442, U, U, V.list 2 l2438, i64 z2440, V.pp [vb b2443, V.list 2 l2444], V.pp [vb b2443, V.list 2 l2444], vb b2443, V.list 2 l2439, i64 z2440, V.pp [vb b2445, V.list 2 l2446], V.pp [vb b2445, V.list 2 l2446], vb b2445, vb b2447, vb b2447, V.list 2 l2438, i64 z2440, V.pp [vb b2443, V.list 2 l2444], V.pp [V.list 2 l2444], V.list 2 l2444, V.list 2 l2439, i64 z2440, V.pp [vb b2445, V.list 2 l2446], V.pp [V.list 2 l2446], V.list 2 l2446, vb b2448, vb b2449, vb b2449], σ := [] }
@[reducible] def s24_0_2 (l2450 : List (List V)) (l2451 : List (List V)) (z2452 : Int) (z2453 : Int) (b2454 : Bool) : S := { T := V.list 2 l2450 :: V.list 2 l2451 :: U :: U :: U :: i64 z2452 :: un 5 (i64 z2452 :: V.list 2 l2450 :: i64 z2453 :: vb b2454 :: un 27 []), σ := [] }
def R24_0.St : R24_0 → VX × S → Prop
  | .e0, p => ∃ l2427 : List (List V), ∃ l2428 : List (List V), ∃ z2429 : Int, ∃ z2430 : Int, ∃ b2431 : Bool, ∃ b2432 : Bool, ∃ l2433 : List (List V), ∃ b2434 : Bool, ∃ l2435 : List (List V), ∃ b2436 : Bool, p = (VX.ret, s24_0_0 l2427 l2428 z2429 z2430 b2431 b2432 l2433 b2434 l2435 b2436)
  | .e1, p => ∃ l2438 : List (List V), ∃ l2439 : List (List V), ∃ z2440 : Int, ∃ z2441 : Int, ∃ b2442 : Bool, ∃ b2443 : Bool, ∃ l2444 : List (List V), ∃ b2445 : Bool, ∃ l2446 : List (List V), ∃ b2447 : Bool, ∃ b2448 : Bool, ∃ b2449 : Bool, p = (VX.ret, s24_0_1 l2438 l2439 z2440 z2441 b2442 b2443 l2444 b2445 l2446 b2447 b2448 b2449)
  | .e2, p => ∃ l2450 : List (List V), ∃ l2451 : List (List V), ∃ z2452 : Int, ∃ z2453 : Int, ∃ b2454 : Bool, p = (VX.exit 0, s24_0_2 l2450 l2451 z2452 z2453 b2454)
def L24_0 : Nat → List (List V) → List (List V) → Int → Option R24_0
  | 0, _, _, _ => none
  | n + 1, l2393, l2394, z2395 =>
    if z2395 < (↑(List.length l2393) : Int) then
     if 0 ≤ z2395 then
      ((l2393[Int.toNat z2395]?).bind W25.dec).bind fun e2425 =>
      ((l2394[Int.toNat z2395]?).bind W25.dec).bind fun e2426 =>
      if (!e2425.c0 == e2426.c0) = true then
       some (R24_0.e0)
      else
       (F19 (e2425.2) (e2426.2)).bind fun r => match r with
       | .a0 b2437 =>
        if (!b2437) = true then
         some (R24_0.e1)
        else
         L24_0 n (l2393) (l2394) (w64 (z2395 + 1))
     else
      none -- none
    else
     some (R24_0.e2)
theorem L24_0_ok (m : Nat) : ∀ (n : Nat) (l2393 : List (List V)) (l2394 : List (List V)) (z2395 : Int) (r : R24_0), L24_0 n l2393 l2394 z2395 = some r → ∃ st, loopFrom Try.prog X (genO X (call Try.prog X O0 18446744073709551616 (m + 1))) 24 (0) 18446744073709551616 B24 0 n ({ T := V.list 2 l2393 :: V.list 2 l2394 :: U :: U :: U :: i64 z2395 :: un 36 [], σ := [] }) = some st ∧ r.St st
  | 0, _, _, _, r, h => by cases h
  | n + 1, l2393, l2394, z2395, r, h => by
    rw [L24_0] at h
    rcases ite_eq h with ⟨h0, h⟩ | ⟨h0, h⟩
    · skip
      rcases ite_eq h with ⟨h1, h⟩ | ⟨h1, h⟩
      · skip
        obtain ⟨e2425, h2, h⟩ := Option.bind_eq_some_iff.mp h
        obtain ⟨e2426, h3, h⟩ := Option.bind_eq_some_iff.mp h
        rcases ite_eq h with ⟨h4, h⟩ | ⟨h4, h⟩
        · skip
          cases h
          exact ⟨_, round_out (gs := [.t, .t, .el (W25.cells e2425), .t, .el (W25.cells e2426), .t, .t, .t, .t, .t, .t, .t, .t, .t, .t, .t, .t, .t, .ft [⟨0, [], []⟩, ⟨1, [], []⟩, ⟨2, [], []⟩, ⟨3, [], []⟩, ⟨4, [], []⟩, ⟨5, [], []⟩, ⟨6, [], []⟩, ⟨7, [], []⟩, ⟨8, [], []⟩, ⟨9, [], []⟩, ⟨10, [], []⟩, ⟨11, [], []⟩, ⟨12, [], []⟩, ⟨13, [], []⟩, ⟨14, [], []⟩, ⟨15, [], []⟩, ⟨16, [], []⟩, ⟨17, [], []⟩, ⟨18, [], []⟩, ⟨19, [], []⟩, ⟨20, [], []⟩, ⟨21, [], []⟩, ⟨22, [], []⟩, ⟨23, [], []⟩, ⟨24, [], []⟩], .a]) (notIn []) (by kernel_rfl) rfl (And.intro (decide_eq_true h0) (And.intro (decide_eq_true h1) (And.intro (W25.dec_ok h2) (And.intro (decide_eq_true h1) (And.intro (W25.dec_ok h3) (And.intro h4 (And.intro h4 (And.intro h4 (And.intro h4 (And.intro h4 (And.intro h4 (And.intro h4 (And.intro h4 (And.intro h4 (And.intro h4 (And.intro h4 (And.intro h4 (And.intro h4 (And.intro (Eq.refl ([⟨0, [], []⟩, ⟨1, [], []⟩, ⟨2, [], []⟩, ⟨3, [], []⟩, ⟨4, [], []⟩, ⟨5, [], []⟩, ⟨6, [], []⟩, ⟨7, [], []⟩, ⟨8, [], []⟩, ⟨9, [], []⟩, ⟨10, [], []⟩, ⟨11, [], []⟩, ⟨12, [], []⟩, ⟨13, [], []⟩, ⟨14, [], []⟩, ⟨15, [], []⟩, ⟨16, [], []⟩, ⟨17, [], []⟩, ⟨18, [], []⟩, ⟨19, [], []⟩, ⟨20, [], []⟩, ⟨21, [], []⟩, ⟨22, [], []⟩, ⟨23, [], []⟩, ⟨24, [], []⟩] : List Foot)) True.intro))))))))))))))))))) n, l2393, l2394, z2395, (↑(List.length l2393) : Int), decide (z2395 < (↑(List.length l2393) : Int)), e2425.c0, e2425.2, e2426.c0, e2426.2, !e2425.c0 == e2426.c0, rfl⟩
        · skip
          obtain ⟨r5, h5, h⟩ := Option.bind_eq_some_iff.mp h
          have h5 := F19_ok (m + 0) (e2425.2) (e2426.2) r5 h5
          cases r5 with
          | a0 b2437 =>
            rcases ite_eq h with ⟨h6, h⟩ | ⟨h6, h⟩
            · skip
              cases h
              exact ⟨_, round_out (gs := [.t, .t, .el (W25.cells e2425), .t, .el (W25.cells e2426), .f, .f, .f, .t, .el (W25.cells e2425), .f, .f, .f, .f, .f, .t, .el (W25.cells e2426), .f, .f, .f, .an (vb b2437) [], .f, .f, .ft [⟨0, [], []⟩, ⟨1, [], []⟩, ⟨2, [], []⟩, ⟨3, [], []⟩, ⟨4, [], []⟩, ⟨5, [], []⟩, ⟨6, [], []⟩, ⟨7, [], []⟩, ⟨8, [], []⟩, ⟨9, [], []⟩, ⟨10, [], []⟩, ⟨11, [], []⟩, ⟨12, [], []⟩, ⟨13, [], []⟩, ⟨14, [], []⟩, ⟨15, [], []⟩, ⟨16, [], []⟩, ⟨17, [], []⟩, ⟨18, [], []⟩, ⟨19, [], []⟩, ⟨20, [], []⟩, ⟨21, [], []⟩, ⟨22, [], []⟩, ⟨23, [], []⟩, ⟨24, [], []⟩], .t]) (notIn []) (by kernel_rfl) rfl (And.intro (decide_eq_true h0) (And.intro (decide_eq_true h1) (And.intro (W25.dec_ok h2) (And.intro (decide_eq_true h1) (And.intro (W25.dec_ok h3) (And.intro (Bool.eq_false_iff.mpr h4) (And.intro (Bool.eq_false_iff.mpr h4) (And.intro (Bool.eq_false_iff.mpr h4) (And.intro (decide_eq_true h1) (And.intro (W25.dec_ok h2) (And.intro (Bool.eq_false_iff.mpr h4) (And.intro (Bool.eq_false_iff.mpr h4) (And.intro (Bool.eq_false_iff.mpr h4) (And.intro (Bool.eq_false_iff.mpr h4) (And.intro (Bool.eq_false_iff.mpr h4) (And.intro (decide_eq_true h1) (And.intro (W25.dec_ok h3) (And.intro (Bool.eq_false_iff.mpr h4) (And.intro (Bool.eq_false_iff.mpr h4) (And.intro (Bool.eq_false_iff.mpr h4) (And.intro h5 (And.intro (Bool.eq_false_iff.mpr h4) (And.intro (Bool.eq_false_iff.mpr h4) (And.intro (Eq.refl ([⟨0, [], []⟩, ⟨1, [], []⟩, ⟨2, [], []⟩, ⟨3, [], []⟩, ⟨4, [], []⟩, ⟨5, [], []⟩, ⟨6, [], []⟩, ⟨7, [], []⟩, ⟨8, [], []⟩, ⟨9, [], []⟩, ⟨10, [], []⟩, ⟨11, [], []⟩, ⟨12, [], []⟩, ⟨13, [], []⟩, ⟨14, [], []⟩, ⟨15, [], []⟩, ⟨16, [], []⟩, ⟨17, [], []⟩, ⟨18, [], []⟩, ⟨19, [], []⟩, ⟨20, [], []⟩, ⟨21, [], []⟩, ⟨22, [], []⟩, ⟨23, [], []⟩, ⟨24, [], []⟩] : List Foot)) (And.intro h6 True.intro))))))))))))))))))))))))) n, l2393, l2394, z2395, (↑(List.length l2393) : Int), decide (z2395 < (↑(List.length l2393) : Int)), e2425.c0, e2425.2, e2426.c0, e2426.2, !e2425.c0 == e2426.c0, b2437, !b2437, rfl⟩
            · skip
              obtain ⟨st, hs, hr⟩ := L24_0_ok m n (l2393) (l2394) (w64 (z2395 + 1)) r h
              exact ⟨st, (round_on (gs := [.t, .t, .el (W25.cells e2425), .t, .el (W25.cells e2426), .f, .f, .f, .t, .el (W25.cells e2425), .f, .f, .f, .f, .f, .t, .el (W25.cells e2426), .f, .f, .f, .an (vb b2437) [], .f, .f, .ft [⟨0, [], []⟩, ⟨1, [], []⟩, ⟨2, [], []⟩, ⟨3, [], []⟩, ⟨4, [], []⟩, ⟨5, [], []⟩, ⟨6, [], []⟩, ⟨7, [], []⟩, ⟨8, [], []⟩, ⟨9, [], []⟩, ⟨10, [], []⟩, ⟨11, [], []⟩, ⟨12, [], []⟩, ⟨13, [], []⟩, ⟨14, [], []⟩, ⟨15, [], []⟩, ⟨16, [], []⟩, ⟨17, [], []⟩, ⟨18, [], []⟩, ⟨19, [], []⟩, ⟨20, [], []⟩, ⟨21, [], []⟩, ⟨22, [], []⟩, ⟨23, [], []⟩, ⟨24, [], []⟩], .f]) (notIn []) (by kernel_rfl) (And.intro (decide_eq_true h0) (And.intro (decide_eq_true h1) (And.intro (W25.dec_ok h2) (And.intro (decide_eq_true h1) (And.intro (W25.dec_ok h3) (And.intro (Bool.eq_false_iff.mpr h4) (And.intro (Bool.eq_false_iff.mpr h4) (And.intro (Bool.eq_false_iff.mpr h4) (And.intro (decide_eq_true h1) (And.intro (W25.dec_ok h2) (And.intro (Bool.eq_false_iff.mpr h4) (And.intro (Bool.eq_false_iff.mpr h4) (And.intro (Bool.eq_false_iff.mpr h4) (And.intro (Bool.eq_false_iff.mpr h4) (And.intro (Bool.eq_false_iff.mpr h4) (And.intro (decide_eq_true h1) (And.intro (W25.dec_ok h3) (And.intro (Bool.eq_false_iff.mpr h4) (And.intro (Bool.eq_false_iff.mpr h4) (And.intro (Bool.eq_false_iff.mpr h4) (And.intro h5 (And.intro (Bool.eq_false_iff.mpr h4) (And.intro (Bool.eq_false_iff.mpr h4) (And.intro (Eq.refl ([⟨0, [], []⟩, ⟨1, [], []⟩, ⟨2, [], []⟩, ⟨3, [], []⟩, ⟨4, [], []⟩, ⟨5, [], []⟩, ⟨6, [], []⟩, ⟨7, [], []⟩, ⟨8, [], []⟩, ⟨9, [], []⟩, ⟨10, [], []⟩, ⟨11, [], []⟩, ⟨12, [], []⟩, ⟨13, [], []⟩, ⟨14, [], []⟩, ⟨15, [], []⟩, ⟨16, [], []⟩, ⟨17, [], []⟩, ⟨18, [], []⟩, ⟨19, [], []⟩, ⟨20, [], []⟩, ⟨21, [], []⟩, ⟨22, [], []⟩, ⟨23, [], []⟩, ⟨24, [], []⟩] : List Foot)) (And.intro (Bool.eq_false_iff.mpr h6) True.intro))))))))))))))))))))))))) n).trans hs, hr⟩
      · skip
        cases h
    · skip
      cases h
      exact ⟨_, round_out (gs := [.f]) (notIn []) (by kernel_rfl) rfl (And.intro (decide_eq_false h0) True.intro) n, l2393, l2394, z2395, (↑(List.length l2393) : Int), decide (z2395 < (↑(List.length l2393) : Int)), rfl⟩
inductive A24 where
  | a0 (b2424 : Bool)
@[reducible] def A24.out : A24 → V × Store
  | .a0 b2424 => (vb b2424, [])
def F24 (l2364 : List (List V)) (l2365 : List (List V)) : Option A24 :=
  if ((↑(List.length l2364) : Int) != (↑(List.length l2365) : Int)) = true then
   some (A24.a0 (false))
  else
   (L24_0 18446744073709551616 (l2364) (l2365) (0)).bind fun r => match r with
   | .e0 =>
    some (A24.a0 (false))
   | .e1 =>
    some (A24.a0 (false))
   | .e2 =>
    some (A24.a0 (true))
theorem F24_ok (m : Nat) (l2364 : List (List V)) (l2365 : List (List V)) (r : A24) (h : F24 l2364 l2365 = some r) : call Try.prog X O0 18446744073709551616 (m + 2) 24 ([V.list 2 l2364, V.list 2 l2365]) ([]) = some r.out := by
  unfold F24 at h
  rcases ite_eq h with ⟨h0, h⟩ | ⟨h0, h⟩
  · skip
    cases h
    exact call_pathL (gs := [.t]) (notIn []) rfl rfl (by kernel_rfl) (And.intro h0 True.intro)
  · skip
    obtain ⟨r1, h1, h⟩ := Option.bind_eq_some_iff.mp h
    obtain ⟨st1, h1, hr1⟩ := L24_0_ok m 18446744073709551616 (l2364) (l2365) (0) r1 h1
    have h1 : loopRun Try.prog X (genO X (call Try.prog X O0 18446744073709551616 (m + 1))) 24 (0) 18446744073709551616 B24 0 ({ T := V.list 2 l2364 :: V.list 2 l2365 :: U :: U :: vb false :: i64 0 :: V.list 2 l2364 :: i64 (↑(List.length l2364) : Int) :: V.list 2 l2365 :: i64 (↑(List.length l2365) : Int) :: vb ((↑(List.length l2364) : Int) != (↑(List.length l2365) : Int)) :: un 31 [], σ := [] }) = some st1 := by
      rw [loopRun_from, show pre X 24 (0) 0 ({ T := V.list 2 l2364 :: V.list 2 l2365 :: U :: U :: vb false :: i64 0 :: V.list 2 l2364 :: i64 (↑(List.length l2364) : Int) :: V.list 2 l2365 :: i64 (↑(List.length l2365) : Int) :: vb ((↑(List.length l2364) : Int) != (↑(List.length l2365) : Int)) :: un 31 [], σ := [] }) = { T := V.list 2 l2364 :: V.list 2 l2365 :: U :: U :: U :: i64 0 :: un 36 [], σ := [] } by kernel_rfl]
      exact h1
    cases r1 with
    | e0 =>
      obtain ⟨l2455, l2456, z2457, z2458, b2459, b2460, l2461, b2462, l2463, b2464, rfl⟩ := hr1
      cases h
      exact call_pathL (gs := [.f, .lp (VX.ret) (s24_0_0 l2455 l2456 z2457 z2458 b2459 b2460 l2461 b2462 l2463 b2464)]) (notIn []) rfl rfl (by kernel_rfl) (And.intro (Bool.eq_false_iff.mpr h0) (And.intro h1 True.intro))
    | e1 =>
      obtain ⟨l2465, l2466, z2467, z2468, b2469, b2470, l2471, b2472, l2473, b2474, b2475, b2476, rfl⟩ := hr1
      cases h
      exact call_pathL (gs := [.f, .lp (VX.ret) (s24_0_1 l2465 l2466 z2467 z2468 b2469 b2470 l2471 b2472 l2473 b2474 b2475 b2476)]) (notIn []) rfl rfl (by kernel_rfl) (And.intro (Bool.eq_false_iff.mpr h0) (And.intro h1 True.intro))
    | e2 =>
      obtain ⟨l2477, l2478, z2479, z2480, b2481, rfl⟩ := hr1
      cases h
      exact call_pathL (gs := [.f, .lp (VX.exit 0) (s24_0_2 l2477 l2478 z2479 z2480 b2481)]) (notIn []) rfl rfl (by kernel_rfl) (And.intro (Bool.eq_false_iff.mpr h0) (And.intro h1 True.intro))
/-! ## 27 -/
inductive A27 where
  | a0 (b2490 : Bool)
@[reducible] def A27.out : A27 → V × Store
  | .a0 b2490 => (vb b2490, [])
def F27 (b1216 : Bool) (l1217 : List (List V)) (z1218 : Int) (z1219 : Int) : Option A27 :=
  (F16 (b1216) (l1217) (z1218) (z1219)).bind fun r => match r with
  | .a0 k1221 l1222 =>
   (F47 (b1216) (l1217) (z1218) (z1219)).bind fun r => match r with
   | .a0 k2362 l2363 =>
    if 0 + k1221 ≤ List.length l1222 then
     if 0 + k2362 ≤ List.length l2363 then
      (F24 (List.take k1221 l1222) (List.take k2362 l2363)).bind fun r => match r with
      | .a0 b2482 =>
       if (b2482) = true then
        (F17 (l1217)).bind fun r => match r with
        | .a0 z2483 =>
         (F48 (l1217)).bind fun r => match r with
         | .a0 z2484 =>
          if (z2483 == z2484) = true then
           (F18 (l1217)).bind fun r => match r with
           | .a0 k2485 l2486 =>
            (F49 (l1217)).bind fun r => match r with
            | .a0 k2487 l2488 =>
             if 0 + k2485 ≤ List.length l2486 then
              if 0 + k2487 ≤ List.length l2488 then
               (F19 (List.take k2485 l2486) (List.take k2487 l2488)).bind fun r => match r with
               | .a0 b2489 =>
                some (A27.a0 (b2489))
              else
               none -- none
             else
              none -- none
          else
           some (A27.a0 (false))
       else
        some (A27.a0 (false))
     else
      none -- none
    else
     none -- none
theorem F27_ok (m : Nat) (b1216 : Bool) (l1217 : List (List V)) (z1218 : Int) (z1219 : Int) (r : A27) (h : F27 b1216 l1217 z1218 z1219 = some r) : call Try.prog X O0 18446744073709551616 (m + 9) 27 ([V.agg [vb b1216, V.list 2 l1217], i64 z1218, i64 z1219]) ([]) = some r.out := by
  unfold F27 at h
  obtain ⟨r0, h0, h⟩ := Option.bind_eq_some_iff.mp h
  have h0 := F16_ok (m + 0) (b1216) (l1217) (z1218) (z1219) r0 h0
  cases r0 with
  | a0 k1221 l1222 =>
    obtain ⟨r1, h1, h⟩ := Option.bind_eq_some_iff.mp h
    have h1 := F47_ok (m + 0) (b1216) (l1217) (z1218) (z1219) r1 h1
    cases r1 with
    | a0 k2362 l2363 =>
      rcases ite_eq h with ⟨h2, h⟩ | ⟨h2, h⟩
      · skip
        rcases ite_eq h with ⟨h3, h⟩ | ⟨h3, h⟩
        · skip
          obtain ⟨r4, h4, h⟩ := Option.bind_eq_some_iff.mp h
          have h4 := F24_ok (m + 6) (List.take k1221 l1222) (List.take k2362 l2363) r4 h4
          cases r4 with
          | a0 b2482 =>
            rcases ite_eq h with ⟨h5, h⟩ | ⟨h5, h⟩
            · skip
              obtain ⟨r6, h6, h⟩ := Option.bind_eq_some_iff.mp h
              have h6 := F17_ok (m + 4) (l1217) r6 h6
              cases r6 with
              | a0 z2483 =>
                obtain ⟨r7, h7, h⟩ := Option.bind_eq_some_iff.mp h
                have h7 := F48_ok (m + 4) (l1217) r7 h7
                cases r7 with
                | a0 z2484 =>
                  rcases ite_eq h with ⟨h8, h⟩ | ⟨h8, h⟩
                  · skip
                    obtain ⟨r9, h9, h⟩ := Option.bind_eq_some_iff.mp h
                    have h9 := F18_ok (m + 3) (l1217) r9 h9
                    cases r9 with
                    | a0 k2485 l2486 =>
                      obtain ⟨r10, h10, h⟩ := Option.bind_eq_some_iff.mp h
                      have h10 := F49_ok (m + 3) (l1217) r10 h10
                      cases r10 with
                      | a0 k2487 l2488 =>
                        rcases ite_eq h with ⟨h11, h⟩ | ⟨h11, h⟩
                        · skip
                          rcases ite_eq h with ⟨h12, h⟩ | ⟨h12, h⟩
                          · skip
                            obtain ⟨r13, h13, h⟩ := Option.bind_eq_some_iff.mp h
                            have h13 := F19_ok (m + 7) (List.take k2485 l2486) (List.take k2487 l2488) r13 h13
                            cases r13 with
                            | a0 b2489 =>
                              cases h
                              exact call_pathL (gs := [.a, .an (V.hs 0 0 k1221) [Ob.cells true true 2 l1222], .a, .an (V.hs 0 0 k2362) [Ob.cells true true 2 l2363], .t, .t, .an (vb b2482) [], .t, .t, .a, .t, .an (i64 z2483) [], .t, .t, .a, .t, .an (i64 z2484) [], .t, .t, .t, .t, .a, .t, .an (V.hs 0 0 k2485) [Ob.cells true true 2 l2486], .t, .t, .a, .t, .an (V.hs 0 0 k2487) [Ob.cells true true 2 l2488], .t, .t, .t, .an (vb b2489) [], .t, .ft [⟨0, [0], []⟩, ⟨1, [], []⟩, ⟨2, [], []⟩, ⟨3, [1], [1]⟩, ⟨4, [0], []⟩, ⟨5, [], []⟩, ⟨6, [], []⟩, ⟨7, [2], [2]⟩, ⟨8, [1, 2], []⟩, ⟨9, [], []⟩, ⟨10, [0], []⟩, ⟨11, [0], []⟩, ⟨12, [], []⟩, ⟨13, [0], []⟩, ⟨14, [0], []⟩, ⟨15, [], []⟩, ⟨16, [], []⟩, ⟨17, [], []⟩, ⟨18, [], []⟩, ⟨19, [0], []⟩, ⟨20, [0], []⟩, ⟨21, [3], [3]⟩, ⟨22, [0], []⟩, ⟨23, [0], []⟩, ⟨24, [4], [4]⟩, ⟨25, [3, 4], []⟩, ⟨26, [], []⟩, ⟨27, [], []⟩]]) (notIn []) rfl rfl (by kernel_rfl) (And.intro h0 (And.intro h1 (And.intro (decide_eq_true h2) (And.intro (decide_eq_true h3) (And.intro h4 (And.intro h5 (And.intro h5 (And.intro h5 (And.intro h6 (And.intro h5 (And.intro h5 (And.intro h5 (And.intro h7 (And.intro h5 (And.intro h5 (And.intro h8 (And.intro h8 (And.intro h8 (And.intro h9 (And.intro h8 (And.intro h8 (And.intro h8 (And.intro h10 (And.intro h8 (And.intro (decide_eq_true h11) (And.intro (decide_eq_true h12) (And.intro h13 (And.intro h8 (And.intro (Eq.refl ([⟨0, [0], []⟩, ⟨1, [], []⟩, ⟨2, [], []⟩, ⟨3, [1], [1]⟩, ⟨4, [0], []⟩, ⟨5, [], []⟩, ⟨6, [], []⟩, ⟨7, [2], [2]⟩, ⟨8, [1, 2], []⟩, ⟨9, [], []⟩, ⟨10, [0], []⟩, ⟨11, [0], []⟩, ⟨12, [], []⟩, ⟨13, [0], []⟩, ⟨14, [0], []⟩, ⟨15, [], []⟩, ⟨16, [], []⟩, ⟨17, [], []⟩, ⟨18, [], []⟩, ⟨19, [0], []⟩, ⟨20, [0], []⟩, ⟨21, [3], [3]⟩, ⟨22, [0], []⟩, ⟨23, [0], []⟩, ⟨24, [4], [4]⟩, ⟨25, [3, 4], []⟩, ⟨26, [], []⟩, ⟨27, [], []⟩] : List Foot)) True.intro)))))))))))))))))))))))))))))
                          · skip
                            cases h
                        · skip
                          cases h
                  · skip
                    cases h
                    exact call_pathL (gs := [.a, .an (V.hs 0 0 k1221) [Ob.cells true true 2 l1222], .a, .an (V.hs 0 0 k2362) [Ob.cells true true 2 l2363], .t, .t, .an (vb b2482) [], .t, .t, .a, .t, .an (i64 z2483) [], .t, .t, .a, .t, .an (i64 z2484) [], .t, .t, .f, .f, .f, .f, .f, .f, .f, .f, .ft [⟨0, [0], []⟩, ⟨1, [], []⟩, ⟨2, [], []⟩, ⟨3, [1], [1]⟩, ⟨4, [0], []⟩, ⟨5, [], []⟩, ⟨6, [], []⟩, ⟨7, [2], [2]⟩, ⟨8, [1, 2], []⟩, ⟨9, [], []⟩, ⟨10, [0], []⟩, ⟨11, [0], []⟩, ⟨12, [], []⟩, ⟨13, [0], []⟩, ⟨14, [0], []⟩, ⟨15, [], []⟩, ⟨16, [], []⟩, ⟨17, [], []⟩, ⟨18, [], []⟩, ⟨19, [], []⟩, ⟨20, [], []⟩, ⟨21, [], []⟩, ⟨22, [], []⟩, ⟨23, [], []⟩, ⟨24, [], []⟩, ⟨25, [], []⟩, ⟨26, [], []⟩, ⟨27, [], []⟩]]) (notIn []) rfl rfl (by kernel_rfl) (And.intro h0 (And.intro h1 (And.intro (decide_eq_true h2) (And.intro (decide_eq_true h3) (And.intro h4 (And.intro h5 (And.intro h5 (And.intro h5 (And.intro h6 (And.intro h5 (And.intro h5 (And.intro h5 (And.intro h7 (And.intro h5 (And.intro h5 (And.intro (Bool.eq_false_iff.mpr h8) (And.intro (Bool.eq_false_iff.mpr h8) (And.intro (Bool.eq_false_iff.mpr h8) (And.intro (Bool.eq_false_iff.mpr h8) (And.intro (Bool.eq_false_iff.mpr h8) (And.intro (Bool.eq_false_iff.mpr h8) (And.intro (Bool.eq_false_iff.mpr h8) (And.intro (Bool.eq_false_iff.mpr h8) (And.intro (Eq.refl ([⟨0, [0], []⟩, ⟨1, [], []⟩, ⟨2, [], []⟩, ⟨3, [1], [1]⟩, ⟨4, [0], []⟩, ⟨5, [], []⟩, ⟨6, [], []⟩, ⟨7, [2], [2]⟩, ⟨8, [1, 2], []⟩, ⟨9, [], []⟩, ⟨10, [0], []⟩, ⟨11, [0], []⟩, ⟨12, [], []⟩, ⟨13, [0], []⟩, ⟨14, [0], []⟩, ⟨15, [], []⟩, ⟨16, [], []⟩, ⟨17, [], []⟩, ⟨18, [], []⟩, ⟨19, [], []⟩, ⟨20, [], []⟩, ⟨21, [], []⟩, ⟨22, [], []⟩, ⟨23, [], []⟩, ⟨24, [], []⟩, ⟨25, [], []⟩, ⟨26, [], []⟩, ⟨27, [], []⟩] : List Foot)) True.intro))))))))))))))))))))))))
            · skip
              cases h
              exact call_pathL (gs := [.a, .an (V.hs 0 0 k1221) [Ob.cells true true 2 l1222], .a, .an (V.hs 0 0 k2362) [Ob.cells true true 2 l2363], .t, .t, .an (vb b2482) [], .f, .f, .f, .f, .f, .f, .f, .f, .a, .a, .a, .a, .a, .a, .a, .a, .ft [⟨0, [0], []⟩, ⟨1, [], []⟩, ⟨2, [], []⟩, ⟨3, [1], [1]⟩, ⟨4, [0], []⟩, ⟨5, [], []⟩, ⟨6, [], []⟩, ⟨7, [2], [2]⟩, ⟨8, [1, 2], []⟩, ⟨9, [], []⟩, ⟨10, [], []⟩, ⟨11, [], []⟩, ⟨12, [], []⟩, ⟨13, [], []⟩, ⟨14, [], []⟩, ⟨15, [], []⟩, ⟨16, [], []⟩, ⟨17, [], []⟩, ⟨18, [], []⟩, ⟨19, [], []⟩, ⟨20, [], []⟩, ⟨21, [], []⟩, ⟨22, [], []⟩, ⟨23, [], []⟩, ⟨24, [], []⟩, ⟨25, [], []⟩, ⟨26, [], []⟩, ⟨27, [], []⟩]]) (notIn []) rfl rfl (by kernel_rfl) (And.intro h0 (And.intro h1 (And.intro (decide_eq_true h2) (And.intro (decide_eq_true h3) (And.intro h4 (And.intro (Bool.eq_false_iff.mpr h5) (And.intro (Bool.eq_false_iff.mpr h5) (And.intro (Bool.eq_false_iff.mpr h5) (And.intro (Bool.eq_false_iff.mpr h5) (And.intro (Bool.eq_false_iff.mpr h5) (And.intro (Bool.eq_false_iff.mpr h5) (And.intro (Bool.eq_false_iff.mpr h5) (And.intro (Bool.eq_false_iff.mpr h5) (And.intro (Eq.refl ([⟨0, [0], []⟩, ⟨1, [], []⟩, ⟨2, [], []⟩, ⟨3, [1], [1]⟩, ⟨4, [0], []⟩, ⟨5, [], []⟩, ⟨6, [], []⟩, ⟨7, [2], [2]⟩, ⟨8, [1, 2], []⟩, ⟨9, [], []⟩, ⟨10, [], []⟩, ⟨11, [], []⟩, ⟨12, [], []⟩, ⟨13, [], []⟩, ⟨14, [], []⟩, ⟨15, [], []⟩, ⟨16, [], []⟩, ⟨17, [], []⟩, ⟨18, [], []⟩, ⟨19, [], []⟩, ⟨20, [], []⟩, ⟨21, [], []⟩, ⟨22, [], []⟩, ⟨23, [], []⟩, ⟨24, [], []⟩, ⟨25, [], []⟩, ⟨26, [], []⟩, ⟨27, [], []⟩] : List Foot)) True.intro))))))))))))))
        · skip
          cases h
      · skip
        cases h
/-! ## 10 -/
inductive A10 where
  | a0 (b2495 : Bool)
@[reducible] def A10.out : A10 → V × Store
  | .a0 b2495 => (vb b2495, [])
def F10 (l1205 : List (List V)) (z1206 : Int) (z1207 : Int) (b1208 : Bool) (l1209 : List (List V)) : Option A10 :=
  (F15 (l1205) (0)).bind fun r => match r with
  | .a0 b1211 k1212 l1213 z1214 l1215 =>
   if (↑(List.length l1209) : Int) > 8 then
    if (0 : Int) ≤ (0 : Int) ∧ (0 : Int) ≤ (8 : Int) ∧ (8 : Int) ≤ (↑(List.length l1209) : Int) then
     if 0 + k1212 ≤ List.length l1215 then
      (F27 (b1211) (List.take k1212 l1215) (z1206) (z1207)).bind fun r => match r with
      | .a0 b2491 =>
       if (b2491) = true then
        (F27 (b1211) (List.take k1212 l1215) (w64 (↑(BitVec.toNat (BitVec.ofInt (IntKind.bits IntKind.i64) z1206 &&& BitVec.ofInt (IntKind.bits IntKind.i64) 524287)) : Int)) (w64 (↑(BitVec.toNat (BitVec.ofInt (IntKind.bits IntKind.i64) z1207 &&& BitVec.ofInt (IntKind.bits IntKind.i64) 1)) : Int))).bind fun r => match r with
        | .a0 b2492 =>
         if (b2492) = true then
          (F27 (b1208) (List.take 8 l1209) (w64 (↑(BitVec.toNat (BitVec.ofInt (IntKind.bits IntKind.i64) z1206 &&& BitVec.ofInt (IntKind.bits IntKind.i64) 524287)) : Int)) (w64 (↑(BitVec.toNat (BitVec.ofInt (IntKind.bits IntKind.i64) z1207 &&& BitVec.ofInt (IntKind.bits IntKind.i64) 1)) : Int))).bind fun r => match r with
          | .a0 b2493 =>
           if (b2493) = true then
            (F20).bind fun r => match r with
            | .a0 b2494 =>
             some (A10.a0 (b2494))
           else
            none -- false
         else
          none -- false
       else
        none -- false
     else
      none -- none
    else
     none -- none
   else
    if 0 + k1212 ≤ List.length l1215 then
     (F27 (b1211) (List.take k1212 l1215) (z1206) (z1207)).bind fun r => match r with
     | .a0 b2496 =>
      if (b2496) = true then
       (F27 (b1211) (List.take k1212 l1215) (w64 (↑(BitVec.toNat (BitVec.ofInt (IntKind.bits IntKind.i64) z1206 &&& BitVec.ofInt (IntKind.bits IntKind.i64) 524287)) : Int)) (w64 (↑(BitVec.toNat (BitVec.ofInt (IntKind.bits IntKind.i64) z1207 &&& BitVec.ofInt (IntKind.bits IntKind.i64) 1)) : Int))).bind fun r => match r with
       | .a0 b2497 =>
        if (b2497) = true then
         (F27 (b1208) (l1209) (w64 (↑(BitVec.toNat (BitVec.ofInt (IntKind.bits IntKind.i64) z1206 &&& BitVec.ofInt (IntKind.bits IntKind.i64) 524287)) : Int)) (w64 (↑(BitVec.toNat (BitVec.ofInt (IntKind.bits IntKind.i64) z1207 &&& BitVec.ofInt (IntKind.bits IntKind.i64) 1)) : Int))).bind fun r => match r with
         | .a0 b2498 =>
          if (b2498) = true then
           (F20).bind fun r => match r with
           | .a0 b2499 =>
            some (A10.a0 (b2499))
          else
           none -- false
        else
         none -- false
      else
       none -- false
    else
     none -- none
theorem F10_ok (m : Nat) (l1205 : List (List V)) (z1206 : Int) (z1207 : Int) (b1208 : Bool) (l1209 : List (List V)) (r : A10) (h : F10 l1205 z1206 z1207 b1208 l1209 = some r) : call Try.prog X O0 18446744073709551616 (m + 10) 10 ([V.list 1 l1205, i64 z1206, i64 z1207, V.agg [vb b1208, V.list 2 l1209]]) ([]) = some r.out := by
  unfold F10 at h
  obtain ⟨r0, h0, h⟩ := Option.bind_eq_some_iff.mp h
  have h0 := F15_ok (m + 5) (l1205) (0) r0 h0
  cases r0 with
  | a0 b1211 k1212 l1213 z1214 l1215 =>
    rcases ite_eq h with ⟨h1, h⟩ | ⟨h1, h⟩
    · skip
      rcases ite_eq h with ⟨h2, h⟩ | ⟨h2, h⟩
      · skip
        rcases ite_eq h with ⟨h3, h⟩ | ⟨h3, h⟩
        · skip
          obtain ⟨r4, h4, h⟩ := Option.bind_eq_some_iff.mp h
          have h4 := F27_ok (m + 0) (b1211) (List.take k1212 l1215) (z1206) (z1207) r4 h4
          cases r4 with
          | a0 b2491 =>
            rcases ite_eq h with ⟨h5, h⟩ | ⟨h5, h⟩
            · skip
              obtain ⟨r6, h6, h⟩ := Option.bind_eq_some_iff.mp h
              have h6 := F27_ok (m + 0) (b1211) (List.take k1212 l1215) (w64 (↑(BitVec.toNat (BitVec.ofInt (IntKind.bits IntKind.i64) z1206 &&& BitVec.ofInt (IntKind.bits IntKind.i64) 524287)) : Int)) (w64 (↑(BitVec.toNat (BitVec.ofInt (IntKind.bits IntKind.i64) z1207 &&& BitVec.ofInt (IntKind.bits IntKind.i64) 1)) : Int)) r6 h6
              cases r6 with
              | a0 b2492 =>
                rcases ite_eq h with ⟨h7, h⟩ | ⟨h7, h⟩
                · skip
                  obtain ⟨r8, h8, h⟩ := Option.bind_eq_some_iff.mp h
                  have h8 := F27_ok (m + 0) (b1208) (List.take 8 l1209) (w64 (↑(BitVec.toNat (BitVec.ofInt (IntKind.bits IntKind.i64) z1206 &&& BitVec.ofInt (IntKind.bits IntKind.i64) 524287)) : Int)) (w64 (↑(BitVec.toNat (BitVec.ofInt (IntKind.bits IntKind.i64) z1207 &&& BitVec.ofInt (IntKind.bits IntKind.i64) 1)) : Int)) r8 h8
                  cases r8 with
                  | a0 b2493 =>
                    rcases ite_eq h with ⟨h9, h⟩ | ⟨h9, h⟩
                    · skip
                      obtain ⟨r10, h10, h⟩ := Option.bind_eq_some_iff.mp h
                      have h10 := F20_ok (m + 0) r10 h10
                      cases r10 with
                      | a0 b2494 =>
                        cases h
                        exact call_pathL (gs := [.an (V.agg [vb b1211, V.hs 1 0 k1212]) [Ob.cells true false 2 [[V.list 1 l1213, i64 z1214]], Ob.cells true true 2 l1215], .a, .a, .t, .a, .t, .a, .a, .t, .an (vb b2491) [], .t, .a, .t, .t, .t, .t, .t, .t, .an (vb b2492) [], .t, .t, .a, .t, .t, .t, .t, .t, .an (vb b2493) [], .t, .t, .an (vb b2494) [], .t]) (notIn []) rfl rfl (by kernel_rfl) (And.intro h0 (And.intro (decide_eq_true h1) (And.intro (decide_eq_true h2) (And.intro (decide_eq_true h3) (And.intro h4 (And.intro h5 (And.intro h5 (And.intro h5 (And.intro h5 (And.intro h5 (And.intro h5 (And.intro (decide_eq_true h3) (And.intro h6 (And.intro h5 (And.intro h7 (And.intro h7 (And.intro h7 (And.intro h7 (And.intro h7 (And.intro h7 (And.intro h8 (And.intro h7 (And.intro h9 (And.intro h10 (And.intro h9 True.intro)))))))))))))))))))))))))
                    · skip
                      cases h
                · skip
                  cases h
            · skip
              cases h
        · skip
          cases h
      · skip
        cases h
    · skip
      rcases ite_eq h with ⟨h2, h⟩ | ⟨h2, h⟩
      · skip
        obtain ⟨r3, h3, h⟩ := Option.bind_eq_some_iff.mp h
        have h3 := F27_ok (m + 0) (b1211) (List.take k1212 l1215) (z1206) (z1207) r3 h3
        cases r3 with
        | a0 b2496 =>
          rcases ite_eq h with ⟨h4, h⟩ | ⟨h4, h⟩
          · skip
            obtain ⟨r5, h5, h⟩ := Option.bind_eq_some_iff.mp h
            have h5 := F27_ok (m + 0) (b1211) (List.take k1212 l1215) (w64 (↑(BitVec.toNat (BitVec.ofInt (IntKind.bits IntKind.i64) z1206 &&& BitVec.ofInt (IntKind.bits IntKind.i64) 524287)) : Int)) (w64 (↑(BitVec.toNat (BitVec.ofInt (IntKind.bits IntKind.i64) z1207 &&& BitVec.ofInt (IntKind.bits IntKind.i64) 1)) : Int)) r5 h5
            cases r5 with
            | a0 b2497 =>
              rcases ite_eq h with ⟨h6, h⟩ | ⟨h6, h⟩
              · skip
                obtain ⟨r7, h7, h⟩ := Option.bind_eq_some_iff.mp h
                have h7 := F27_ok (m + 0) (b1208) (l1209) (w64 (↑(BitVec.toNat (BitVec.ofInt (IntKind.bits IntKind.i64) z1206 &&& BitVec.ofInt (IntKind.bits IntKind.i64) 524287)) : Int)) (w64 (↑(BitVec.toNat (BitVec.ofInt (IntKind.bits IntKind.i64) z1207 &&& BitVec.ofInt (IntKind.bits IntKind.i64) 1)) : Int)) r7 h7
                cases r7 with
                | a0 b2498 =>
                  rcases ite_eq h with ⟨h8, h⟩ | ⟨h8, h⟩
                  · skip
                    obtain ⟨r9, h9, h⟩ := Option.bind_eq_some_iff.mp h
                    have h9 := F20_ok (m + 0) r9 h9
                    cases r9 with
                    | a0 b2499 =>
                      cases h
                      exact call_pathL (gs := [.an (V.agg [vb b1211, V.hs 1 0 k1212]) [Ob.cells true false 2 [[V.list 1 l1213, i64 z1214]], Ob.cells true true 2 l1215], .a, .a, .f, .a, .t, .an (vb b2496) [], .t, .a, .t, .t, .t, .t, .t, .t, .an (vb b2497) [], .t, .t, .a, .t, .t, .t, .t, .t, .an (vb b2498) [], .t, .t, .an (vb b2499) [], .t]) (notIn []) rfl rfl (by kernel_rfl) (And.intro h0 (And.intro (decide_eq_false h1) (And.intro (decide_eq_true h2) (And.intro h3 (And.intro h4 (And.intro h4 (And.intro h4 (And.intro h4 (And.intro h4 (And.intro h4 (And.intro (decide_eq_true h2) (And.intro h5 (And.intro h4 (And.intro h6 (And.intro h6 (And.intro h6 (And.intro h6 (And.intro h6 (And.intro h6 (And.intro h7 (And.intro h6 (And.intro h8 (And.intro h9 (And.intro h8 True.intro))))))))))))))))))))))))
                  · skip
                    cases h
              · skip
                cases h
          · skip
            cases h
      · skip
        cases h
/-! ## 26 -/
noncomputable abbrev B26 : Code := (Try.f26.body).getD .skip
inductive R26_0 where
  | e0 (k2509 : Nat) (l2512 : List (List V))
@[reducible] def s26_0_0 (z2508 : Int) (k2509 : Nat) (z2510 : Int) (b2511 : Bool) (l2512 : List (List V)) : S := { T := i64 z2508 :: U :: U :: V.hs 0 0 k2509 :: i64 z2510 :: i64 z2510 :: vb b2511 :: un 20 [], σ := [Ob.cells true true 1 l2512] }
def R26_0.St : R26_0 → VX × S → Prop
  | .e0 k2509 l2512, p => ∃ z2508 : Int, ∃ z2510 : Int, ∃ b2511 : Bool, p = (VX.exit 0, s26_0_0 z2508 k2509 z2510 b2511 l2512)
def L26_0 : Nat → Int → Nat → Int → List (List V) → Option R26_0
  | 0, _, _, _, _ => none
  | n + 1, z2504, k2505, z2506, l2507 =>
    if z2506 < 60 then
     if 0 + k2505 ≤ List.length l2507 ∧ (k2505 + 1) * 8 ≤ 140737488355328 ∧ k2505 + 1 ≤ 140737488355328 then
      L26_0 n (z2504) (k2505 + 1) (w64 (z2506 + 1)) (List.take k2505 l2507 ++ [[i64 (Int.tmod (w64 (w64 (w64 (w64 (z2506 * z2506) * 11) + w64 (z2504 * 19)) + w64 (z2506 * z2504))) 103)]])
     else
      none -- none
    else
     some (R26_0.e0 (k2505) (l2507))
theorem L26_0_ok (m : Nat) : ∀ (n : Nat) (z2504 : Int) (k2505 : Nat) (z2506 : Int) (l2507 : List (List V)) (r : R26_0), L26_0 n z2504 k2505 z2506 l2507 = some r → ∃ st, loopFrom Try.prog X (genO X (call Try.prog X O0 18446744073709551616 (m + 0))) 26 (0) 18446744073709551616 B26 0 n ({ T := i64 z2504 :: U :: U :: V.hs 0 0 k2505 :: i64 z2506 :: un 22 [], σ := [Ob.cells true true 1 l2507] }) = some st ∧ r.St st
  | 0, _, _, _, _, r, h => by cases h
  | n + 1, z2504, k2505, z2506, l2507, r, h => by
    rw [L26_0] at h
    rcases ite_eq h with ⟨h0, h⟩ | ⟨h0, h⟩
    · skip
      rcases ite_eq h with ⟨h1, h⟩ | ⟨h1, h⟩
      · skip
        obtain ⟨st, hs, hr⟩ := L26_0_ok m n (z2504) (k2505 + 1) (w64 (z2506 + 1)) (List.take k2505 l2507 ++ [[i64 (Int.tmod (w64 (w64 (w64 (w64 (z2506 * z2506) * 11) + w64 (z2504 * 19)) + w64 (z2506 * z2504))) 103)]]) r h
        exact ⟨st, (round_on (gs := [.t, .a, .a, .t]) (notIn []) (by kernel_rfl) (And.intro (decide_eq_true h0) (And.intro (decide_eq_true h1) True.intro)) n).trans hs, hr⟩
      · skip
        cases h
    · skip
      cases h
      exact ⟨_, round_out (gs := [.f]) (notIn []) (by kernel_rfl) rfl (And.intro (decide_eq_false h0) True.intro) n, z2504, z2506, decide (z2506 < 60), rfl⟩
inductive A26 where
  | a0 (k2518 : Nat) (z2519 : Int) (l2520 : List (List V))
@[reducible] def A26.out : A26 → V × Store
  | .a0 k2518 z2519 l2520 => (V.ptr 0 0 0, [Ob.cells true false 2 [[V.hs 1 0 k2518, i64 z2519]], Ob.cells true true 1 l2520])
def F26 (z2501 : Int) : Option A26 :=
  (L26_0 18446744073709551616 (z2501) (0) (0) ([])).bind fun r => match r with
  | .e0 k2514 l2517 =>
   some (A26.a0 (k2514) (0) (l2517))
theorem F26_ok (m : Nat) (z2501 : Int) (r : A26) (h : F26 z2501 = some r) : call Try.prog X O0 18446744073709551616 (m + 1) 26 ([i64 z2501]) ([]) = some r.out := by
  unfold F26 at h
  obtain ⟨r0, h0, h⟩ := Option.bind_eq_some_iff.mp h
  obtain ⟨st0, h0, hr0⟩ := L26_0_ok m 18446744073709551616 (z2501) (0) (0) ([]) r0 h0
  have h0 : loopRun Try.prog X (genO X (call Try.prog X O0 18446744073709551616 (m + 0))) 26 (0) 18446744073709551616 B26 0 ({ T := i64 z2501 :: U :: V.nilP :: V.nilS :: i64 0 :: un 22 [], σ := [] }) = some st0 := by
    rw [loopRun_from, show pre X 26 (0) 0 ({ T := i64 z2501 :: U :: V.nilP :: V.nilS :: i64 0 :: un 22 [], σ := [] }) = { T := i64 z2501 :: U :: U :: V.hs 0 0 0 :: i64 0 :: un 22 [], σ := [Ob.cells true true 1 []] } by kernel_rfl]
    exact h0
  cases r0 with
  | e0 k2514 l2517 =>
    obtain ⟨z2513, z2515, b2516, rfl⟩ := hr0
    cases h
    exact call_pathL (gs := [.lp (VX.exit 0) (s26_0_0 z2513 k2514 z2515 b2516 l2517)]) (notIn []) rfl rfl (by kernel_rfl) (And.intro h0 True.intro)
/-! ## 28 -/
inductive A28v1 where
  | a0 (z2533 : Int) (k2534 : Nat) (z2535 : Int) (l2536 : List (List V))
@[reducible] def A28v1.out : A28v1 → V × Store
  | .a0 z2533 k2534 z2535 l2536 => (i64 z2533, [Ob.cells true false 2 [[V.hs 1 0 k2534, i64 z2535]], Ob.cells true true 1 l2536])
def F28v1 (z2528 : Int) (k2529 : Nat) (z2530 : Int) (l2531 : List (List V)) : Option A28v1 :=
  if z2530 ≥ (↑k2529 : Int) then
   some (A28v1.a0 (0) (k2529) (z2530) (l2531))
  else
   if 0 ≤ w64 (w64 (z2530 + 1) - 1) ∧ w64 (w64 (z2530 + 1) - 1) < (↑k2529 : Int) then
    ((l2531[(0 : Nat) + Int.toNat (w64 (w64 (z2530 + (1 : Int)) - (1 : Int)))]?).bind W3.dec).bind fun e2537 =>
    (F50 (e2537.c0) (0) (1073741824)).bind fun r => match r with
    | .a0 z2538 =>
     if z2528 = 0 then
      none -- none
     else
      some (A28v1.a0 (Int.tmod z2538 z2528) (k2529) (w64 (z2530 + 1)) (l2531))
   else
    none -- none
theorem F28v1_ok (m : Nat) (z2528 : Int) (k2529 : Nat) (z2530 : Int) (l2531 : List (List V)) (r : A28v1) (h : F28v1 z2528 k2529 z2530 l2531 = some r) : call Try.prog X O0 18446744073709551616 (m + 2) 28 ([V.ptr 0 0 0, i64 z2528]) ([Ob.cells true false 2 [[V.hs 1 0 k2529, i64 z2530]], Ob.cells true true 1 l2531]) = some r.out := by
  unfold F28v1 at h
  rcases ite_eq h with ⟨h0, h⟩ | ⟨h0, h⟩
  · skip
    cases h
    exact call_pathL (gs := [.a, .a, .ft [⟨0, [], []⟩, ⟨1, [0], []⟩, ⟨2, [0], []⟩, ⟨3, [0], []⟩, ⟨4, [], []⟩, ⟨5, [0], []⟩, ⟨6, [0], []⟩, ⟨7, [0], []⟩, ⟨8, [1], []⟩, ⟨9, [], []⟩], .t]) (notIn []) rfl rfl (by kernel_rfl) (And.intro (Eq.refl ([⟨0, [], []⟩, ⟨1, [0], []⟩, ⟨2, [0], []⟩, ⟨3, [0], []⟩, ⟨4, [], []⟩, ⟨5, [0], []⟩, ⟨6, [0], []⟩, ⟨7, [0], []⟩, ⟨8, [1], []⟩, ⟨9, [], []⟩] : List Foot)) (And.intro (decide_eq_true h0) True.intro))
  · skip
    rcases ite_eq h with ⟨h1, h⟩ | ⟨h1, h⟩
    · skip
      obtain ⟨e2537, h2, h⟩ := Option.bind_eq_some_iff.mp h
      obtain ⟨r3, h3, h⟩ := Option.bind_eq_some_iff.mp h
      have h3 := F50_ok (m + 0) (e2537.c0) (0) (1073741824) r3 h3
      cases r3 with
      | a0 z2538 =>
        rcases ite_eq h with ⟨h4, h⟩ | ⟨h4, h⟩
        · skip
          cases h
        · skip
          cases h
          exact call_pathL (gs := [.a, .a, .ft [⟨0, [], []⟩, ⟨1, [0], []⟩, ⟨2, [0], []⟩, ⟨3, [0], []⟩, ⟨4, [], []⟩, ⟨5, [0], []⟩, ⟨6, [0], []⟩, ⟨7, [0], []⟩, ⟨8, [1], []⟩, ⟨9, [], []⟩], .f, .a, .a, .a, .a, .t, .el (W3.cells e2537), .an (i64 z2538) [], .f, .ft [⟨0, [], []⟩, ⟨1, [0], []⟩, ⟨2, [0], []⟩, ⟨3, [0], []⟩, ⟨4, [], []⟩, ⟨5, [0], []⟩, ⟨6, [0], []⟩, ⟨7, [0], []⟩, ⟨8, [], []⟩, ⟨9, [1], []⟩, ⟨10, [1], []⟩, ⟨11, [], []⟩, ⟨12, [], []⟩, ⟨13, [], []⟩, ⟨14, [], []⟩]]) (notIn []) rfl rfl (by kernel_rfl) (And.intro (Eq.refl ([⟨0, [], []⟩, ⟨1, [0], []⟩, ⟨2, [0], []⟩, ⟨3, [0], []⟩, ⟨4, [], []⟩, ⟨5, [0], []⟩, ⟨6, [0], []⟩, ⟨7, [0], []⟩, ⟨8, [1], []⟩, ⟨9, [], []⟩] : List Foot)) (And.intro (decide_eq_false h0) (And.intro (decide_eq_true h1) (And.intro (W3.dec_ok h2) (And.intro h3 (And.intro (decide_eq_false h4) (And.intro (Eq.refl ([⟨0, [], []⟩, ⟨1, [0], []⟩, ⟨2, [0], []⟩, ⟨3, [0], []⟩, ⟨4, [], []⟩, ⟨5, [0], []⟩, ⟨6, [0], []⟩, ⟨7, [0], []⟩, ⟨8, [], []⟩, ⟨9, [1], []⟩, ⟨10, [1], []⟩, ⟨11, [], []⟩, ⟨12, [], []⟩, ⟨13, [], []⟩, ⟨14, [], []⟩] : List Foot)) True.intro)))))))
    · skip
      cases h
/-! ## 29 -/
inductive A29v1 where
  | a0 (z2566 : Int) (k2567 : Nat) (z2568 : Int) (l2569 : List (List V))
@[reducible] def A29v1.out : A29v1 → V × Store
  | .a0 z2566 k2567 z2568 l2569 => (i64 z2566, [Ob.cells true false 2 [[V.hs 1 0 k2567, i64 z2568]], Ob.cells true true 1 l2569])
def F29v1 (z2552 : Int) (z2553 : Int) (k2554 : Nat) (z2555 : Int) (l2556 : List (List V)) : Option A29v1 :=
  (F28v1 (w64 (w64 (z2553 - z2552) + 1)) (k2554) (z2555) (l2556)).bind fun r => match r with
  | .a0 z2558 k2559 z2560 l2561 =>
   (F28v1 (4) (k2559) (z2560) (l2561)).bind fun r => match r with
   | .a0 z2562 k2563 z2564 l2565 =>
    if (z2562 == 0) = true then
     some (A29v1.a0 (w64 (w64 (w64 (z2552 + z2558) * 65536) + 32768)) (k2563) (z2564) (l2565))
    else
     if (z2562 == 1) = true then
      (F28v1 (65536) (k2563) (z2564) (l2565)).bind fun r => match r with
      | .a0 z2570 k2571 z2572 l2573 =>
       some (A29v1.a0 (w64 (w64 (w64 (z2552 + z2558) * 65536) + z2570)) (k2571) (z2572) (l2573))
     else
      some (A29v1.a0 (w64 (w64 (z2552 + z2558) * 65536)) (k2563) (z2564) (l2565))
theorem F29v1_ok (m : Nat) (z2552 : Int) (z2553 : Int) (k2554 : Nat) (z2555 : Int) (l2556 : List (List V)) (r : A29v1) (h : F29v1 z2552 z2553 k2554 z2555 l2556 = some r) : call Try.prog X O0 18446744073709551616 (m + 3) 29 ([V.ptr 0 0 0, i64 z2552, i64 z2553]) ([Ob.cells true false 2 [[V.hs 1 0 k2554, i64 z2555]], Ob.cells true true 1 l2556]) = some r.out := by
  unfold F29v1 at h
  obtain ⟨r0, h0, h⟩ := Option.bind_eq_some_iff.mp h
  have h0 := F28v1_ok (m + 0) (w64 (w64 (z2553 - z2552) + 1)) (k2554) (z2555) (l2556) r0 h0
  cases r0 with
  | a0 z2558 k2559 z2560 l2561 =>
    obtain ⟨r1, h1, h⟩ := Option.bind_eq_some_iff.mp h
    have h1 := F28v1_ok (m + 0) (4) (k2559) (z2560) (l2561) r1 h1
    cases r1 with
    | a0 z2562 k2563 z2564 l2565 =>
      rcases ite_eq h with ⟨h2, h⟩ | ⟨h2, h⟩
      · skip
        cases h
        exact call_pathL (gs := [.an (i64 z2558) [Ob.cells true false 2 [[V.hs 1 0 k2559, i64 z2560]], Ob.cells true true 1 l2561], .an (i64 z2562) [Ob.cells true false 2 [[V.hs 1 0 k2563, i64 z2564]], Ob.cells true true 1 l2565], .t]) (notIn []) rfl rfl (by kernel_rfl) (And.intro h0 (And.intro h1 (And.intro h2 True.intro)))
      · skip
        rcases ite_eq h with ⟨h3, h⟩ | ⟨h3, h⟩
        · skip
          obtain ⟨r4, h4, h⟩ := Option.bind_eq_some_iff.mp h
          have h4 := F28v1_ok (m + 0) (65536) (k2563) (z2564) (l2565) r4 h4
          cases r4 with
          | a0 z2570 k2571 z2572 l2573 =>
            cases h
            exact call_pathL (gs := [.an (i64 z2558) [Ob.cells true false 2 [[V.hs 1 0 k2559, i64 z2560]], Ob.cells true true 1 l2561], .an (i64 z2562) [Ob.cells true false 2 [[V.hs 1 0 k2563, i64 z2564]], Ob.cells true true 1 l2565], .f, .t, .an (i64 z2570) [Ob.cells true false 2 [[V.hs 1 0 k2571, i64 z2572]], Ob.cells true true 1 l2573]]) (notIn []) rfl rfl (by kernel_rfl) (And.intro h0 (And.intro h1 (And.intro (Bool.eq_false_iff.mpr h2) (And.intro h3 (And.intro h4 True.intro)))))
        · skip
          cases h
          exact call_pathL (gs := [.an (i64 z2558) [Ob.cells true false 2 [[V.hs 1 0 k2559, i64 z2560]], Ob.cells true true 1 l2561], .an (i64 z2562) [Ob.cells true false 2 [[V.hs 1 0 k2563, i64 z2564]], Ob.cells true true 1 l2565], .f, .f]) (notIn []) rfl rfl (by kernel_rfl) (And.intro h0 (And.intro h1 (And.intro (Bool.eq_false_iff.mpr h2) (And.intro (Bool.eq_false_iff.mpr h3) True.intro))))
/-! ## 15 -/
noncomputable abbrev B15v1 : Code := (Try.f15.body).getD .skip
inductive R15v1_0 where
  | e0 (k2633 : Nat) (z2634 : Int) (l2635 : List (List V)) (b2636 : Bool) (k2637 : Nat) (l2638 : List (List V))
@[reducible] def s15v1_0_0 (z2631 : Int) (b2632 : Bool) (k2633 : Nat) (z2634 : Int) (l2635 : List (List V)) (b2636 : Bool) (k2637 : Nat) (l2638 : List (List V)) : S := { T := V.ptr 0 0 0 :: U :: V.ptr 2 0 0 :: V.ptr 3 0 0 :: i64 z2631 :: un 7 (i64 z2631 :: vb b2632 :: un 23 []), σ := [Ob.cells true false 2 [[V.hs 1 0 k2633, i64 z2634]], Ob.cells true true 1 l2635, Ob.cells true false 2 [[vb false, V.hs 4 0 0]], Ob.cells true false 2 [[vb b2636, V.hs 5 0 k2637]], Ob.cells true true 2 [], Ob.cells true true 2 l2638] }
def R15v1_0.St : R15v1_0 → VX × S → Prop
  | .e0 k2633 z2634 l2635 b2636 k2637 l2638, p => ∃ z2631 : Int, ∃ b2632 : Bool, p = (VX.exit 0, s15v1_0_0 z2631 b2632 k2633 z2634 l2635 b2636 k2637 l2638)
def L15v1_0 : Nat → Int → Nat → Int → List (List V) → Bool → Nat → List (List V) → Option R15v1_0
  | 0, _, _, _, _, _, _, _ => none
  | n + 1, z2586, k2587, z2588, l2589, b2590, k2591, l2592 =>
    if z2586 > 0 then
     (F29v1 (-5) (20) (k2587) (z2588) (l2589)).bind fun r => match r with
     | .a0 z2619 k2620 z2621 l2622 =>
      (F29v1 (-5) (20) (k2620) (z2621) (l2622)).bind fun r => match r with
      | .a0 z2623 k2624 z2625 l2626 =>
       if 0 + k2591 ≤ List.length l2592 ∧ (k2591 + 1) * 16 ≤ 140737488355328 ∧ k2591 + 1 ≤ 140737488355328 then
        (F28v1 (6) (k2624) (z2625) (l2626)).bind fun r => match r with
        | .a0 z2627 k2628 z2629 l2630 =>
         if (z2627 == 0) = true then
          if 0 + (k2591 + 1) ≤ List.length (List.take k2591 l2592 ++ [[i64 z2619, i64 z2623]]) ∧ (k2591 + 1 + 1) * 16 ≤ 140737488355328 ∧ k2591 + 1 + 1 ≤ 140737488355328 then
           L15v1_0 n (w64 (z2586 - 1)) (k2628) (z2629) (l2630) (b2590) (k2591 + 1 + 1) (List.take (k2591 + 1) (List.take k2591 l2592 ++ [[i64 z2619, i64 z2623]]) ++ [[i64 z2619, i64 z2623]])
          else
           none -- none
         else
          L15v1_0 n (w64 (z2586 - 1)) (k2628) (z2629) (l2630) (b2590) (k2591 + 1) (List.take k2591 l2592 ++ [[i64 z2619, i64 z2623]])
       else
        none -- none
    else
     some (R15v1_0.e0 (k2587) (z2588) (l2589) (b2590) (k2591) (l2592))
theorem L15v1_0_ok (m : Nat) : ∀ (n : Nat) (z2586 : Int) (k2587 : Nat) (z2588 : Int) (l2589 : List (List V)) (b2590 : Bool) (k2591 : Nat) (l2592 : List (List V)) (r : R15v1_0), L15v1_0 n z2586 k2587 z2588 l2589 b2590 k2591 l2592 = some r → ∃ st, loopFrom Try.prog X (genO X (call Try.prog X O0 18446744073709551616 (m + 3))) 15 (2) 18446744073709551616 B15v1 0 n ({ T := V.ptr 0 0 0 :: U :: V.ptr 2 0 0 :: V.ptr 3 0 0 :: i64 z2586 :: un 32 [], σ := [Ob.cells true false 2 [[V.hs 1 0 k2587, i64 z2588]], Ob.cells true true 1 l2589, Ob.cells true false 2 [[vb false, V.hs 4 0 0]], Ob.cells true false 2 [[vb b2590, V.hs 5 0 k2591]], Ob.cells true true 2 [], Ob.cells true true 2 l2592] }) = some st ∧ r.St st
  | 0, _, _, _, _, _, _, _, r, h => by cases h
  | n + 1, z2586, k2587, z2588, l2589, b2590, k2591, l2592, r, h => by
    rw [L15v1_0] at h
    rcases ite_eq h with ⟨h0, h⟩ | ⟨h0, h⟩
    · skip
      obtain ⟨r1, h1, h⟩ := Option.bind_eq_some_iff.mp h
      have h1 := F29v1_ok (m + 0) (-5) (20) (k2587) (z2588) (l2589) r1 h1
      cases r1 with
      | a0 z2619 k2620 z2621 l2622 =>
        obtain ⟨r2, h2, h⟩ := Option.bind_eq_some_iff.mp h
        have h2 := F29v1_ok (m + 0) (-5) (20) (k2620) (z2621) (l2622) r2 h2
        cases r2 with
        | a0 z2623 k2624 z2625 l2626 =>
          rcases ite_eq h with ⟨h3, h⟩ | ⟨h3, h⟩
          · skip
            obtain ⟨r4, h4, h⟩ := Option.bind_eq_some_iff.mp h
            have h4 := F28v1_ok (m + 1) (6) (k2624) (z2625) (l2626) r4 h4
            cases r4 with
            | a0 z2627 k2628 z2629 l2630 =>
              rcases ite_eq h with ⟨h5, h⟩ | ⟨h5, h⟩
              · skip
                rcases ite_eq h with ⟨h6, h⟩ | ⟨h6, h⟩
                · skip
                  obtain ⟨st, hs, hr⟩ := L15v1_0_ok m n (w64 (z2586 - 1)) (k2628) (z2629) (l2630) (b2590) (k2591 + 1 + 1) (List.take (k2591 + 1) (List.take k2591 l2592 ++ [[i64 z2619, i64 z2623]]) ++ [[i64 z2619, i64 z2623]]) r h
                  exact ⟨st, (round_on (gs := [.t, .an (i64 z2619) [Ob.cells true false 2 [[V.hs 1 0 k2620, i64 z2621]], Ob.cells true true 1 l2622], .an (i64 z2623) [Ob.cells true false 2 [[V.hs 1 0 k2624, i64 z2625]], Ob.cells true true 1 l2626], .a, .a, .a, .a, .t, .a, .an (i64 z2627) [Ob.cells true false 2 [[V.hs 1 0 k2628, i64 z2629]], Ob.cells true true 1 l2630], .t, .a, .a, .a, .t, .a]) (notIn []) (by kernel_rfl) (And.intro (decide_eq_true h0) (And.intro h1 (And.intro h2 (And.intro (decide_eq_true h3) (And.intro h4 (And.intro h5 (And.intro (decide_eq_true h6) True.intro))))))) n).trans hs, hr⟩
                · skip
                  cases h
              · skip
                obtain ⟨st, hs, hr⟩ := L15v1_0_ok m n (w64 (z2586 - 1)) (k2628) (z2629) (l2630) (b2590) (k2591 + 1) (List.take k2591 l2592 ++ [[i64 z2619, i64 z2623]]) r h
                exact ⟨st, (round_on (gs := [.t, .an (i64 z2619) [Ob.cells true false 2 [[V.hs 1 0 k2620, i64 z2621]], Ob.cells true true 1 l2622], .an (i64 z2623) [Ob.cells true false 2 [[V.hs 1 0 k2624, i64 z2625]], Ob.cells true true 1 l2626], .a, .a, .a, .a, .t, .a, .an (i64 z2627) [Ob.cells true false 2 [[V.hs 1 0 k2628, i64 z2629]], Ob.cells true true 1 l2630], .f]) (notIn []) (by kernel_rfl) (And.intro (decide_eq_true h0) (And.intro h1 (And.intro h2 (And.intro (decide_eq_true h3) (And.intro h4 (And.intro (Bool.eq_false_iff.mpr h5) True.intro)))))) n).trans hs, hr⟩
          · skip
            cases h
    · skip
      cases h
      exact ⟨_, round_out (gs := [.f]) (notIn []) (by kernel_rfl) rfl (And.intro (decide_eq_false h0) True.intro) n, z2586, decide (z2586 > 0), rfl⟩
inductive A15v1 where
  | a0 (b2647 : Bool) (k2648 : Nat) (k2649 : Nat) (z2650 : Int) (l2651 : List (List V)) (l2652 : List (List V))
@[reducible] def A15v1.out : A15v1 → V × Store
  | .a0 b2647 k2648 k2649 z2650 l2651 l2652 => (V.agg [vb b2647, V.hs 2 0 k2648], [Ob.cells true false 2 [[V.hs 1 0 k2649, i64 z2650]], Ob.cells true true 1 l2651, Ob.cells true true 2 l2652])
def F15v1 (k2524 : Nat) (z2525 : Int) (l2526 : List (List V)) : Option A15v1 :=
  (F28v1 (2) (k2524) (z2525) (l2526)).bind fun r => match r with
  | .a0 z2611 k2612 z2613 l2614 =>
   (F28v1 (7) (k2612) (z2613) (l2614)).bind fun r => match r with
   | .a0 z2615 k2616 z2617 l2618 =>
    (L15v1_0 18446744073709551616 (z2615) (k2616) (z2617) (l2618) (z2611 == 0) (0) ([])).bind fun r => match r with
    | .e0 k2641 z2642 l2643 b2644 k2645 l2646 =>
     some (A15v1.a0 (b2644) (k2645) (k2641) (z2642) (l2643) (l2646))
theorem F15v1_ok (m : Nat) (k2524 : Nat) (z2525 : Int) (l2526 : List (List V)) (r : A15v1) (h : F15v1 k2524 z2525 l2526 = some r) : call Try.prog X O0 18446744073709551616 (m + 4) 15 ([V.ptr 0 0 0]) ([Ob.cells true false 2 [[V.hs 1 0 k2524, i64 z2525]], Ob.cells true true 1 l2526]) = some r.out := by
  unfold F15v1 at h
  obtain ⟨r0, h0, h⟩ := Option.bind_eq_some_iff.mp h
  have h0 := F28v1_ok (m + 1) (2) (k2524) (z2525) (l2526) r0 h0
  cases r0 with
  | a0 z2611 k2612 z2613 l2614 =>
    obtain ⟨r1, h1, h⟩ := Option.bind_eq_some_iff.mp h
    have h1 := F28v1_ok (m + 1) (7) (k2612) (z2613) (l2614) r1 h1
    cases r1 with
    | a0 z2615 k2616 z2617 l2618 =>
      obtain ⟨r2, h2, h⟩ := Option.bind_eq_some_iff.mp h
      obtain ⟨st2, h2, hr2⟩ := L15v1_0_ok m 18446744073709551616 (z2615) (k2616) (z2617) (l2618) (z2611 == 0) (0) ([]) r2 h2
      have h2 : loopRun Try.prog X (genO X (call Try.prog X O0 18446744073709551616 (m + 3))) 15 (2) 18446744073709551616 B15v1 0 ({ T := V.ptr 0 0 0 :: U :: V.ptr 2 0 0 :: V.ptr 3 0 0 :: i64 z2615 :: U :: V.ptr 0 0 0 :: i64 z2611 :: vb (z2611 == 0) :: V.agg [vb (z2611 == 0), V.nilS] :: V.ptr 0 0 0 :: i64 z2615 :: un 25 [], σ := [Ob.cells true false 2 [[V.hs 1 0 k2616, i64 z2617]], Ob.cells true true 1 l2618, Ob.cells true false 2 [[vb false, V.nilS]], Ob.cells true false 2 [[vb (z2611 == 0), V.nilS]]] }) = some st2 := by
        rw [loopRun_from, show pre X 15 (2) 0 ({ T := V.ptr 0 0 0 :: U :: V.ptr 2 0 0 :: V.ptr 3 0 0 :: i64 z2615 :: U :: V.ptr 0 0 0 :: i64 z2611 :: vb (z2611 == 0) :: V.agg [vb (z2611 == 0), V.nilS] :: V.ptr 0 0 0 :: i64 z2615 :: un 25 [], σ := [Ob.cells true false 2 [[V.hs 1 0 k2616, i64 z2617]], Ob.cells true true 1 l2618, Ob.cells true false 2 [[vb false, V.nilS]], Ob.cells true false 2 [[vb (z2611 == 0), V.nilS]]] }) = { T := V.ptr 0 0 0 :: U :: V.ptr 2 0 0 :: V.ptr 3 0 0 :: i64 z2615 :: un 32 [], σ := [Ob.cells true false 2 [[V.hs 1 0 k2616, i64 z2617]], Ob.cells true true 1 l2618, Ob.cells true false 2 [[vb false, V.hs 4 0 0]], Ob.cells true false 2 [[vb (z2611 == 0), V.hs 5 0 0]], Ob.cells true true 2 [], Ob.cells true true 2 []] } by kernel_rfl]
        exact h2
      cases r2 with
      | e0 k2641 z2642 l2643 b2644 k2645 l2646 =>
        obtain ⟨z2639, b2640, rfl⟩ := hr2
        cases h
        exact call_pathL (gs := [.an (i64 z2611) [Ob.cells true false 2 [[V.hs 1 0 k2612, i64 z2613]], Ob.cells true true 1 l2614], .a, .an (i64 z2615) [Ob.cells true false 2 [[V.hs 1 0 k2616, i64 z2617]], Ob.cells true true 1 l2618], .lp (VX.exit 0) (s15v1_0_0 z2639 b2640 k2641 z2642 l2643 b2644 k2645 l2646), .a, .a]) (notIn []) rfl rfl (by kernel_rfl) (And.intro h0 (And.intro h1 (And.intro h2 True.intro)))
end Go.Proofs.Ytojigbcgmneiiaa.H
