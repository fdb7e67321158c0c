/- What the functions compute, and that they do so over the machine of plain values (printed by this session's program wip/vm/Walk.lean). No condition beyond those stated. -/
import Derived.Test.YtifalphladcdcaaGreatWk
import Derived.Test.YtifalphladcdcaaGreatPZd
set_option linter.unusedVariables false
set_option linter.unusedSimpArgs false
namespace Go.Proofs.YtifalphladcdcaaGreat.H
open Go Go.VM
set_option maxRecDepth 100000
/-! ## F14 -/
noncomputable def D14 (z1936 : Int) (z1937 : Int) (l1938 : List (List V)) (l1939 : List (List V)) (l1940 : List (List V)) (b1941 : Bool) (z1942 : Int) (z1943 : Int) (z1944 : Int) (z1945 : Int) (z1946 : Int) (z1947 : Int) (z1948 : Int) (z1949 : Int) (z1950 : Int) (z1951 : Int) (z1952 : Int) (z1953 : Int) (z1954 : Int) (z1955 : Int) (z1956 : Int) (l1957 : List (List V)) (b1958 : Bool) (l1959 : List (List V)) (z1960 : Int) (z1961 : Int) (z1962 : Int) (z1963 : Int) (z1964 : Int) (l1965 : List (List V)) (l1966 : List (List V)) (l1967 : List (List V)) (z1968 : Int) : PT A14 :=
  .auto 1 <|
  .ask E15 (F15_ok (z1936) (z1937) (l1938) (l1939) (l1940) (b1941) (z1942) (z1943) (z1944) (z1945) (z1946) (z1947) (z1948) (z1949) (z1950) (z1951) (z1952) (z1953) (z1954) (z1955) (z1956) (l1957) (b1958) (l1959) (z1960) (z1961) (z1962) (z1963) (z1964) (l1965) (l1966) (l1967)) fun (r : A15) => match r with
  | .a0 b2936 =>
   .auto 1 <|
   .ask E16 (F16_ok (z1936) (z1937) (l1938) (l1939) (l1940) (b1941) (z1942) (z1943) (z1944) (z1945) (z1946) (z1947) (z1948) (z1949) (z1950) (z1951) (z1952) (z1953) (z1954) (z1955) (z1956) (l1957) (b1958) (l1959) (z1960) (z1961) (z1962) (z1963) (z1964) (l1965) (l1966) (l1967)) fun (r : A16) => match r with
   | .a0 b3487 =>
    .testB (b2936 == b3487)
     (fun h0 =>
     .auto 3 <|
     .ask E51 (F51_ok (z1936) (z1937) (l1938) (l1939) (l1940) (b1941) (z1942) (z1943) (z1944) (z1945) (z1946) (z1947) (z1948) (z1949) (z1950) (z1951) (z1952) (z1953) (z1954) (z1955) (z1956) (l1957) (b1958) (l1959) (z1960) (z1961) (z1962) (z1963) (z1964) (l1965) (l1966) (l1967) (z1968)) fun (r : A51) => match r with
     | .a0 b3992 k3993 l3994 =>
      .auto 4 <|
      .ask E52 (F52_ok (z1936) (z1937) (l1938) (l1939) (l1940) (b1941) (z1942) (z1943) (z1944) (z1945) (z1946) (z1947) (z1948) (z1949) (z1950) (z1951) (z1952) (z1953) (z1954) (z1955) (z1956) (l1957) (b1958) (l1959) (z1960) (z1961) (z1962) (z1963) (z1964) (l1965) (l1966) (l1967) (z1968)) fun (r : A52) => match r with
      | .a0 b4551 k4552 l4553 =>
       .auto 1 <|
       .test (0 + k3993 ≤ List.length l3994)
        (fun h1 =>
        .test (0 + k4552 ≤ List.length l4553)
         (fun h2 =>
         .ask E50 (F50_ok (b3992) (List.take k3993 l3994) (b4551) (List.take k4552 l4553)) fun (r : A50) => match r with
         | .a0 b4572 =>
          .auto 1 <|
          .ret (A14.a0 (b4572))
         )
         (fun _ => .fail) -- none
        )
        (fun _ => .fail) -- none
     )
     (fun h0 =>
     .auto 7 <|
     .ret (A14.a0 (false))
     )
noncomputable def F14 (z1936 : Int) (z1937 : Int) (l1938 : List (List V)) (l1939 : List (List V)) (l1940 : List (List V)) (b1941 : Bool) (z1942 : Int) (z1943 : Int) (z1944 : Int) (z1945 : Int) (z1946 : Int) (z1947 : Int) (z1948 : Int) (z1949 : Int) (z1950 : Int) (z1951 : Int) (z1952 : Int) (z1953 : Int) (z1954 : Int) (z1955 : Int) (z1956 : Int) (l1957 : List (List V)) (b1958 : Bool) (l1959 : List (List V)) (z1960 : Int) (z1961 : Int) (z1962 : Int) (z1963 : Int) (z1964 : Int) (l1965 : List (List V)) (l1966 : List (List V)) (l1967 : List (List V)) (z1968 : Int) : Option A14 := (D14 z1936 z1937 l1938 l1939 l1940 b1941 z1942 z1943 z1944 z1945 z1946 z1947 z1948 z1949 z1950 z1951 z1952 z1953 z1954 z1955 z1956 l1957 b1958 l1959 z1960 z1961 z1962 z1963 z1964 l1965 l1966 l1967 z1968).ev some
theorem F14_ok (z1936 : Int) (z1937 : Int) (l1938 : List (List V)) (l1939 : List (List V)) (l1940 : List (List V)) (b1941 : Bool) (z1942 : Int) (z1943 : Int) (z1944 : Int) (z1945 : Int) (z1946 : Int) (z1947 : Int) (z1948 : Int) (z1949 : Int) (z1950 : Int) (z1951 : Int) (z1952 : Int) (z1953 : Int) (z1954 : Int) (z1955 : Int) (z1956 : Int) (l1957 : List (List V)) (b1958 : Bool) (l1959 : List (List V)) (z1960 : Int) (z1961 : Int) (z1962 : Int) (z1963 : Int) (z1964 : Int) (l1965 : List (List V)) (l1966 : List (List V)) (l1967 : List (List V)) (z1968 : Int) : ∀ b, F14 z1936 z1937 l1938 l1939 l1940 b1941 z1942 z1943 z1944 z1945 z1946 z1947 z1948 z1949 z1950 z1951 z1952 z1953 z1954 z1955 z1956 l1957 b1958 l1959 z1960 z1961 z1962 z1963 z1964 l1965 l1966 l1967 z1968 = some b → UU 14 ([V.agg [i64 z1936, i64 z1937, V.list 7 l1938, V.list 7 l1939, V.list 8 l1940, vb b1941, i64 z1942, i64 z1943, u8 z1944, u8 z1945, u8 z1946, u8 z1947, u8 z1948, u8 z1949, u8 z1950, u8 z1951, i64 z1952, i64 z1953, i64 z1954, i64 z1955, i64 z1956, V.list 10 l1957, vb b1958, V.list 7 l1959, u8 z1960, u8 z1961, u8 z1962, u8 z1963, i64 z1964, V.list 1 l1965, V.list 7 l1966, V.list 7 l1967], i64 z1968]) ([]) = some (A14.out b) :=
  fn_ok (E := E14) (L := notIn []) rfl rfl (fun x => by kernel_rfl)
/-! ## F17 -/
noncomputable def D17 (z4579 : Int) (z4580 : Int) (z4581 : Int) : PT A17 :=
  .ask E63 (F63_ok (z4579) (z4580)) fun (r : A63) => match r with
  | .a0 b4582 k4583 l4584 =>
   .ask E64 (F64_ok (z4579) (z4580)) fun (r : A64) => match r with
   | .a0 b4585 k4586 l4587 =>
    .test (0 + k4583 ≤ List.length l4584)
     (fun h0 =>
     .test (0 + k4586 ≤ List.length l4587)
      (fun h1 =>
      .ask E50 (F50_ok (b4582) (List.take k4583 l4584) (b4585) (List.take k4586 l4587)) fun (r : A50) => match r with
      | .a0 b4588 =>
       .testB (b4588)
        (fun h2 =>
        .auto 2 <|
        .ask E65 (F65_ok (z4579) (z4580)) fun (r : A65) => match r with
        | .a0 b4589 k4590 l4591 =>
         .auto 3 <|
         .ask E66 (F66_ok (z4579) (z4580)) fun (r : A66) => match r with
         | .a0 b4592 k4593 l4594 =>
          .auto 1 <|
          .test (0 + k4590 ≤ List.length l4591)
           (fun h3 =>
           .test (0 + k4593 ≤ List.length l4594)
            (fun h4 =>
            .ask E50 (F50_ok (b4589) (List.take k4590 l4591) (b4592) (List.take k4593 l4594)) fun (r : A50) => match r with
            | .a0 b4595 =>
             .auto 1 <|
             .testB (b4595)
              (fun h5 =>
              .auto 3 <|
              .ask E67 (F67_ok (z4581) (z4579) (z4580)) fun (r : A67) => match r with
              | .a0 b4596 k4597 l4598 =>
               .auto 4 <|
               .ask E68 (F68_ok (z4581) (z4579) (z4580)) fun (r : A68) => match r with
               | .a0 b4599 k4600 l4601 =>
                .auto 1 <|
                .test (0 + k4597 ≤ List.length l4598)
                 (fun h6 =>
                 .test (0 + k4600 ≤ List.length l4601)
                  (fun h7 =>
                  .ask E50 (F50_ok (b4596) (List.take k4597 l4598) (b4599) (List.take k4600 l4601)) fun (r : A50) => match r with
                  | .a0 b4602 =>
                   .auto 1 <|
                   .ret (A17.a0 (b4602))
                  )
                  (fun _ => .fail) -- none
                 )
                 (fun _ => .fail) -- none
              )
              (fun h5 =>
              .auto 9 <|
              .ret (A17.a0 (false))
              )
            )
            (fun _ => .fail) -- none
           )
           (fun _ => .fail) -- none
        )
        (fun h2 =>
        .auto 17 <|
        .ret (A17.a0 (false))
        )
      )
      (fun _ => .fail) -- none
     )
     (fun _ => .fail) -- none
noncomputable def F17 (z4579 : Int) (z4580 : Int) (z4581 : Int) : Option A17 := (D17 z4579 z4580 z4581).ev some
theorem F17_ok (z4579 : Int) (z4580 : Int) (z4581 : Int) : ∀ b, F17 z4579 z4580 z4581 = some b → UU 17 ([i64 z4579, i64 z4580, i64 z4581]) ([]) = some (A17.out b) :=
  fn_ok (E := E17) (L := notIn []) rfl rfl (fun x => by kernel_rfl)
/-! ## F18 -/
noncomputable def D18 : PT A18 :=
  .ask E63 (F63_ok (131072) (131072)) fun (r : A63) => match r with
  | .a0 b4606 k4607 l4608 =>
   .auto 2 <|
   .testB ((↑k4607 : Int) == 13)
    (fun h0 =>
    .auto 3 <|
    .testB (b4606)
     (fun h1 =>
     .auto 3 <|
     .test ((0 : Int) ≤ (0 : Int) ∧ (0 : Int) < (↑k4607 : Int))
      (fun h2 =>
      .auto 1 <|
      .look RW28 (l4608[(0 : Nat)]?) fun e4609 =>
      .auto 3 <|
      .testB (e4609.c0 == -65536 && (e4609.c1 == -65536 && true))
       (fun h3 =>
       .ask E67 (F67_ok (99) (5) (6)) fun (r : A67) => match r with
       | .a0 b4610 k4611 l4612 =>
        .auto 4 <|
        .testB ((↑k4611 : Int) == 97)
         (fun h4 =>
         .ask E65 (F65_ok (1) (1)) fun (r : A65) => match r with
         | .a0 b4613 k4614 l4615 =>
          .auto 4 <|
          .testB ((↑k4614 : Int) == 13)
           (fun h5 =>
           .auto 1 <|
           .ask E15 (F15_ok (0) (0) ([]) ([]) ([]) (false) (0) (0) (0) (0) (0) (0) (0) (0) (0) (0) (0) (0) (0) (0) (0) ([]) (false) ([]) (0) (0) (0) (0) (0) ([]) ([]) ([])) fun (r : A15) => match r with
           | .a0 b4616 =>
            .auto 1 <|
            .testB (b4616)
             (fun h6 =>
             .auto 1 <|
             .ask E15 (F15_ok (4) (0) ([]) ([]) ([]) (false) (0) (0) (0) (0) (0) (0) (0) (0) (0) (0) (0) (0) (0) (0) (0) ([]) (false) ([]) (0) (0) (0) (0) (0) ([]) ([]) ([])) fun (r : A15) => match r with
             | .a0 b4617 =>
              .auto 2 <|
              .ret (A18.a0 (!b4617))
             )
             (fun h6 =>
             .auto 3 <|
             .ret (A18.a0 (false))
             )
           )
           (fun h5 =>
           .auto 6 <|
           .ret (A18.a0 (false))
           )
         )
         (fun h4 =>
         .auto 11 <|
         .ret (A18.a0 (false))
         )
       )
       (fun h3 =>
       .auto 16 <|
       .ret (A18.a0 (false))
       )
      )
      (fun _ => .fail) -- none
     )
     (fun h1 =>
     .auto 23 <|
     .ret (A18.a0 (false))
     )
    )
    (fun h0 =>
    .auto 26 <|
    .ret (A18.a0 (false))
    )
noncomputable def F18 : Option A18 := (D18).ev some
theorem F18_ok : ∀ b, F18 = some b → UU 18 ([]) ([]) = some (A18.out b) :=
  fn_ok (E := E18) (L := notIn []) rfl rfl (fun x => by kernel_rfl)
/-! ## F3 -/
noncomputable abbrev B3 : Code := (Tryz.f3.body).getD .skip
inductive N3_c29 where
  | e0 (z1782 : Int) (z1783 : Int) (z1784 : Int) (z1785 : Int) (z1786 : Int) (z1787 : Int) (l1788 : List (List V)) (l1789 : List (List V)) (l1790 : List (List V)) (b1791 : Bool) (z1792 : Int) (z1793 : Int) (z1794 : Int) (z1795 : Int) (z1796 : Int) (z1797 : Int) (z1798 : Int) (z1799 : Int) (z1800 : Int) (z1801 : Int) (z1802 : Int) (z1803 : Int) (z1804 : Int) (z1805 : Int) (z1806 : Int) (l1807 : List (List V)) (b1808 : Bool) (l1809 : List (List V)) (z1810 : Int) (z1811 : Int) (z1812 : Int) (z1813 : Int) (z1814 : Int) (l1815 : List (List V)) (l1816 : List (List V)) (l1817 : List (List V)) (z1818 : Int) (z1819 : Int) (k1820 : Nat) (k1821 : Nat) (k1822 : Nat) (b1823 : Bool) (z1824 : Int) (z1825 : Int) (z1826 : Int) (z1827 : Int) (z1828 : Int) (z1829 : Int) (z1830 : Int) (z1831 : Int) (z1832 : Int) (z1833 : Int) (z1834 : Int) (z1835 : Int) (z1836 : Int) (z1837 : Int) (z1838 : Int) (k1839 : Nat) (b1840 : Bool) (k1841 : Nat) (z1842 : Int) (z1843 : Int) (z1844 : Int) (z1845 : Int) (z1846 : Int) (k1847 : Nat) (k1848 : Nat) (k1849 : Nat) (z1850 : Int) (l1851 : List (List V)) (l1852 : List (List V)) (l1853 : List (List V)) (l1854 : List (List V)) (l1855 : List (List V)) (l1856 : List (List V)) (l1857 : List (List V)) (l1858 : List (List V))
@[reducible] def N3_c29.out : N3_c29 → VX × S
  | .e0 z1782 z1783 z1784 z1785 z1786 z1787 l1788 l1789 l1790 b1791 z1792 z1793 z1794 z1795 z1796 z1797 z1798 z1799 z1800 z1801 z1802 z1803 z1804 z1805 z1806 l1807 b1808 l1809 z1810 z1811 z1812 z1813 z1814 l1815 l1816 l1817 z1818 z1819 k1820 k1821 k1822 b1823 z1824 z1825 z1826 z1827 z1828 z1829 z1830 z1831 z1832 z1833 z1834 z1835 z1836 z1837 z1838 k1839 b1840 k1841 z1842 z1843 z1844 z1845 z1846 k1847 k1848 k1849 z1850 l1851 l1852 l1853 l1854 l1855 l1856 l1857 l1858 => (VX.normal, { T := U :: i64 z1782 :: i64 z1783 :: i64 z1784 :: i64 z1785 :: un 7 (V.ptr 0 0 0 :: U :: U :: U :: V.ptr 1 0 0 :: V.ptr 2 0 0 :: un 57 []), σ := [Ob.cells true false 32 [[i64 z1786, i64 z1787, V.list 7 l1788, V.list 7 l1789, V.list 8 l1790, vb b1791, i64 z1792, i64 z1793, u8 z1794, u8 z1795, u8 z1796, u8 z1797, u8 z1798, u8 z1799, u8 z1800, u8 z1801, i64 z1802, i64 z1803, i64 z1804, i64 z1805, i64 z1806, V.list 10 l1807, vb b1808, V.list 7 l1809, u8 z1810, u8 z1811, u8 z1812, u8 z1813, i64 z1814, V.list 1 l1815, V.list 7 l1816, V.list 7 l1817]], Ob.cells true false 32 [[i64 z1818, i64 z1819, V.hs 3 0 k1820, V.hs 4 0 k1821, V.hs 5 0 k1822, vb b1823, i64 z1824, i64 z1825, u8 z1826, u8 z1827, u8 z1828, u8 z1829, u8 z1830, u8 z1831, u8 z1832, u8 z1833, i64 z1834, i64 z1835, i64 z1836, i64 z1837, i64 z1838, V.hs 6 0 k1839, vb b1840, V.hs 7 0 k1841, u8 z1842, u8 z1843, u8 z1844, u8 z1845, i64 z1846, V.hs 8 0 k1847, V.hs 9 0 k1848, V.hs 10 0 k1849]], Ob.cells true false 32 [[i64 z1850, i64 z1819, V.hs 3 0 k1820, V.hs 4 0 k1821, V.hs 5 0 k1822, vb b1823, i64 z1824, i64 z1825, u8 z1826, u8 z1827, u8 z1828, u8 z1829, u8 z1830, u8 z1831, u8 z1832, u8 z1833, i64 z1834, i64 z1835, i64 z1836, i64 z1837, i64 z1838, V.hs 6 0 k1839, vb b1840, V.hs 7 0 k1841, u8 z1842, u8 z1843, u8 z1844, u8 z1845, i64 z1846, V.hs 8 0 k1847, V.hs 9 0 k1848, V.hs 10 0 k1849]], Ob.cells true true 7 l1851, Ob.cells true true 7 l1852, Ob.cells true true 8 l1853, Ob.cells true true 10 l1854, Ob.cells true true 7 l1855, Ob.cells true true 1 l1856, Ob.cells true true 7 l1857, Ob.cells true true 7 l1858] })
def N3_c29.ex (g : N3_c29 → Prop) : Prop := (∃ (z1782 : Int) (z1783 : Int) (z1784 : Int) (z1785 : Int) (z1786 : Int) (z1787 : Int) (l1788 : List (List V)) (l1789 : List (List V)) (l1790 : List (List V)) (b1791 : Bool) (z1792 : Int) (z1793 : Int) (z1794 : Int) (z1795 : Int) (z1796 : Int) (z1797 : Int) (z1798 : Int) (z1799 : Int) (z1800 : Int) (z1801 : Int) (z1802 : Int) (z1803 : Int) (z1804 : Int) (z1805 : Int) (z1806 : Int) (l1807 : List (List V)) (b1808 : Bool) (l1809 : List (List V)) (z1810 : Int) (z1811 : Int) (z1812 : Int) (z1813 : Int) (z1814 : Int) (l1815 : List (List V)) (l1816 : List (List V)) (l1817 : List (List V)) (z1818 : Int) (z1819 : Int) (k1820 : Nat) (k1821 : Nat) (k1822 : Nat) (b1823 : Bool) (z1824 : Int) (z1825 : Int) (z1826 : Int) (z1827 : Int) (z1828 : Int) (z1829 : Int) (z1830 : Int) (z1831 : Int) (z1832 : Int) (z1833 : Int) (z1834 : Int) (z1835 : Int) (z1836 : Int) (z1837 : Int) (z1838 : Int) (k1839 : Nat) (b1840 : Bool) (k1841 : Nat) (z1842 : Int) (z1843 : Int) (z1844 : Int) (z1845 : Int) (z1846 : Int) (k1847 : Nat) (k1848 : Nat) (k1849 : Nat) (z1850 : Int) (l1851 : List (List V)) (l1852 : List (List V)) (l1853 : List (List V)) (l1854 : List (List V)) (l1855 : List (List V)) (l1856 : List (List V)) (l1857 : List (List V)) (l1858 : List (List V)), g (.e0 z1782 z1783 z1784 z1785 z1786 z1787 l1788 l1789 l1790 b1791 z1792 z1793 z1794 z1795 z1796 z1797 z1798 z1799 z1800 z1801 z1802 z1803 z1804 z1805 z1806 l1807 b1808 l1809 z1810 z1811 z1812 z1813 z1814 l1815 l1816 l1817 z1818 z1819 k1820 k1821 k1822 b1823 z1824 z1825 z1826 z1827 z1828 z1829 z1830 z1831 z1832 z1833 z1834 z1835 z1836 z1837 z1838 k1839 b1840 k1841 z1842 z1843 z1844 z1845 z1846 k1847 k1848 k1849 z1850 l1851 l1852 l1853 l1854 l1855 l1856 l1857 l1858))
theorem N3_c29.ok (g : N3_c29 → Prop) : N3_c29.ex g ↔ ∃ b, g b := ⟨fun h => match h with
  | ⟨_, _, _, _, _, _, _, _, _, _, _, _, _, _, _, _, _, _, _, _, _, _, _, _, _, _, _, _, _, _, _, _, _, _, _, _, _, _, _, _, _, _, _, _, _, _, _, _, _, _, _, _, _, _, _, _, _, _, _, _, _, _, _, _, _, _, _, _, _, _, _, _, _, _, _, _, _, h⟩ => ⟨_, h⟩, fun ⟨b, h⟩ => match b, h with
  | .e0 _ _ _ _ _ _ _ _ _ _ _ _ _ _ _ _ _ _ _ _ _ _ _ _ _ _ _ _ _ _ _ _ _ _ _ _ _ _ _ _ _ _ _ _ _ _ _ _ _ _ _ _ _ _ _ _ _ _ _ _ _ _ _ _ _ _ _ _ _ _ _ _ _ _ _ _ _, h => ⟨_, _, _, _, _, _, _, _, _, _, _, _, _, _, _, _, _, _, _, _, _, _, _, _, _, _, _, _, _, _, _, _, _, _, _, _, _, _, _, _, _, _, _, _, _, _, _, _, _, _, _, _, _, _, _, _, _, _, _, _, _, _, _, _, _, _, _, _, _, _, _, _, _, _, _, _, _, h⟩⟩
abbrev E3_c29 : Ent (VX × S) := ⟨N3_c29, N3_c29.out, N3_c29.ex, N3_c29.ok⟩
noncomputable def D3_c29 (z1704 : Int) (z1705 : Int) (z1706 : Int) (z1707 : Int) (b1708 : Bool) (z1709 : Int) (z1710 : Int) (l1711 : List (List V)) (l1712 : List (List V)) (l1713 : List (List V)) (b1714 : Bool) (z1715 : Int) (z1716 : Int) (z1717 : Int) (z1718 : Int) (z1719 : Int) (z1720 : Int) (z1721 : Int) (z1722 : Int) (z1723 : Int) (z1724 : Int) (z1725 : Int) (z1726 : Int) (z1727 : Int) (z1728 : Int) (z1729 : Int) (l1730 : List (List V)) (b1731 : Bool) (l1732 : List (List V)) (z1733 : Int) (z1734 : Int) (z1735 : Int) (z1736 : Int) (z1737 : Int) (l1738 : List (List V)) (l1739 : List (List V)) (l1740 : List (List V)) (z1741 : Int) (z1742 : Int) (k1743 : Nat) (k1744 : Nat) (k1745 : Nat) (b1746 : Bool) (z1747 : Int) (z1748 : Int) (z1749 : Int) (z1750 : Int) (z1751 : Int) (z1752 : Int) (z1753 : Int) (z1754 : Int) (z1755 : Int) (z1756 : Int) (z1757 : Int) (z1758 : Int) (z1759 : Int) (z1760 : Int) (z1761 : Int) (k1762 : Nat) (b1763 : Bool) (k1764 : Nat) (z1765 : Int) (z1766 : Int) (z1767 : Int) (z1768 : Int) (z1769 : Int) (k1770 : Nat) (k1771 : Nat) (k1772 : Nat) (z1773 : Int) (l1774 : List (List V)) (l1775 : List (List V)) (l1776 : List (List V)) (l1777 : List (List V)) (l1778 : List (List V)) (l1779 : List (List V)) (l1780 : List (List V)) (l1781 : List (List V)) : PT N3_c29 :=
  .testB (b1708)
   (fun h0 =>
   .auto 1 <|
   .test ((0 : Int) ≤ (0 : Int) ∧ (0 : Int) ≤ (3 : Int) ∧ (3 : Int) ≤ (↑(List.length l1713) : Int))
    (fun h1 =>
    .auto 1 <|
    .ret (N3_c29.e0 (z1704) (z1705) (z1706) (z1707) (z1709) (z1710) (l1711) (l1712) (List.take 3 l1713) (b1714) (z1715) (z1716) (z1717) (z1718) (z1719) (z1720) (z1721) (z1722) (z1723) (z1724) (z1725) (z1726) (z1727) (z1728) (z1729) (l1730) (b1731) (l1732) (z1733) (z1734) (z1735) (z1736) (z1737) (l1738) (l1739) (l1740) (z1741) (z1742) (k1743) (k1744) (k1745) (b1746) (z1747) (z1748) (z1749) (z1750) (z1751) (z1752) (z1753) (z1754) (z1755) (z1756) (z1757) (z1758) (z1759) (z1760) (z1761) (k1762) (b1763) (k1764) (z1765) (z1766) (z1767) (z1768) (z1769) (k1770) (k1771) (k1772) (z1773) (l1774) (l1775) (l1776) (l1777) (l1778) (l1779) (l1780) (l1781))
    )
    (fun _ => .fail) -- none
   )
   (fun h0 =>
   .ret (N3_c29.e0 (z1704) (z1705) (z1706) (z1707) (z1709) (z1710) (l1711) (l1712) (l1713) (b1714) (z1715) (z1716) (z1717) (z1718) (z1719) (z1720) (z1721) (z1722) (z1723) (z1724) (z1725) (z1726) (z1727) (z1728) (z1729) (l1730) (b1731) (l1732) (z1733) (z1734) (z1735) (z1736) (z1737) (l1738) (l1739) (l1740) (z1741) (z1742) (k1743) (k1744) (k1745) (b1746) (z1747) (z1748) (z1749) (z1750) (z1751) (z1752) (z1753) (z1754) (z1755) (z1756) (z1757) (z1758) (z1759) (z1760) (z1761) (k1762) (b1763) (k1764) (z1765) (z1766) (z1767) (z1768) (z1769) (k1770) (k1771) (k1772) (z1773) (l1774) (l1775) (l1776) (l1777) (l1778) (l1779) (l1780) (l1781))
   )
noncomputable def J3_c29 (z1704 : Int) (z1705 : Int) (z1706 : Int) (z1707 : Int) (b1708 : Bool) (z1709 : Int) (z1710 : Int) (l1711 : List (List V)) (l1712 : List (List V)) (l1713 : List (List V)) (b1714 : Bool) (z1715 : Int) (z1716 : Int) (z1717 : Int) (z1718 : Int) (z1719 : Int) (z1720 : Int) (z1721 : Int) (z1722 : Int) (z1723 : Int) (z1724 : Int) (z1725 : Int) (z1726 : Int) (z1727 : Int) (z1728 : Int) (z1729 : Int) (l1730 : List (List V)) (b1731 : Bool) (l1732 : List (List V)) (z1733 : Int) (z1734 : Int) (z1735 : Int) (z1736 : Int) (z1737 : Int) (l1738 : List (List V)) (l1739 : List (List V)) (l1740 : List (List V)) (z1741 : Int) (z1742 : Int) (k1743 : Nat) (k1744 : Nat) (k1745 : Nat) (b1746 : Bool) (z1747 : Int) (z1748 : Int) (z1749 : Int) (z1750 : Int) (z1751 : Int) (z1752 : Int) (z1753 : Int) (z1754 : Int) (z1755 : Int) (z1756 : Int) (z1757 : Int) (z1758 : Int) (z1759 : Int) (z1760 : Int) (z1761 : Int) (k1762 : Nat) (b1763 : Bool) (k1764 : Nat) (z1765 : Int) (z1766 : Int) (z1767 : Int) (z1768 : Int) (z1769 : Int) (k1770 : Nat) (k1771 : Nat) (k1772 : Nat) (z1773 : Int) (l1774 : List (List V)) (l1775 : List (List V)) (l1776 : List (List V)) (l1777 : List (List V)) (l1778 : List (List V)) (l1779 : List (List V)) (l1780 : List (List V)) (l1781 : List (List V)) : Option N3_c29 := (D3_c29 z1704 z1705 z1706 z1707 b1708 z1709 z1710 l1711 l1712 l1713 b1714 z1715 z1716 z1717 z1718 z1719 z1720 z1721 z1722 z1723 z1724 z1725 z1726 z1727 z1728 z1729 l1730 b1731 l1732 z1733 z1734 z1735 z1736 z1737 l1738 l1739 l1740 z1741 z1742 k1743 k1744 k1745 b1746 z1747 z1748 z1749 z1750 z1751 z1752 z1753 z1754 z1755 z1756 z1757 z1758 z1759 z1760 z1761 k1762 b1763 k1764 z1765 z1766 z1767 z1768 z1769 k1770 k1771 k1772 z1773 l1774 l1775 l1776 l1777 l1778 l1779 l1780 l1781).ev some
theorem J3_c29_ok (z1704 : Int) (z1705 : Int) (z1706 : Int) (z1707 : Int) (b1708 : Bool) (z1709 : Int) (z1710 : Int) (l1711 : List (List V)) (l1712 : List (List V)) (l1713 : List (List V)) (b1714 : Bool) (z1715 : Int) (z1716 : Int) (z1717 : Int) (z1718 : Int) (z1719 : Int) (z1720 : Int) (z1721 : Int) (z1722 : Int) (z1723 : Int) (z1724 : Int) (z1725 : Int) (z1726 : Int) (z1727 : Int) (z1728 : Int) (z1729 : Int) (l1730 : List (List V)) (b1731 : Bool) (l1732 : List (List V)) (z1733 : Int) (z1734 : Int) (z1735 : Int) (z1736 : Int) (z1737 : Int) (l1738 : List (List V)) (l1739 : List (List V)) (l1740 : List (List V)) (z1741 : Int) (z1742 : Int) (k1743 : Nat) (k1744 : Nat) (k1745 : Nat) (b1746 : Bool) (z1747 : Int) (z1748 : Int) (z1749 : Int) (z1750 : Int) (z1751 : Int) (z1752 : Int) (z1753 : Int) (z1754 : Int) (z1755 : Int) (z1756 : Int) (z1757 : Int) (z1758 : Int) (z1759 : Int) (z1760 : Int) (z1761 : Int) (k1762 : Nat) (b1763 : Bool) (k1764 : Nat) (z1765 : Int) (z1766 : Int) (z1767 : Int) (z1768 : Int) (z1769 : Int) (k1770 : Nat) (k1771 : Nat) (k1772 : Nat) (z1773 : Int) (l1774 : List (List V)) (l1775 : List (List V)) (l1776 : List (List V)) (l1777 : List (List V)) (l1778 : List (List V)) (l1779 : List (List V)) (l1780 : List (List V)) (l1781 : List (List V)) : ∀ b, J3_c29 z1704 z1705 z1706 z1707 b1708 z1709 z1710 l1711 l1712 l1713 b1714 z1715 z1716 z1717 z1718 z1719 z1720 z1721 z1722 z1723 z1724 z1725 z1726 z1727 z1728 z1729 l1730 b1731 l1732 z1733 z1734 z1735 z1736 z1737 l1738 l1739 l1740 z1741 z1742 k1743 k1744 k1745 b1746 z1747 z1748 z1749 z1750 z1751 z1752 z1753 z1754 z1755 z1756 z1757 z1758 z1759 z1760 z1761 k1762 b1763 k1764 z1765 z1766 z1767 z1768 z1769 k1770 k1771 k1772 z1773 l1774 l1775 l1776 l1777 l1778 l1779 l1780 l1781 = some b → condP Tryz.prog X CC 3 (0) 18446744073709551616 B3 29 ({ T := U :: i64 z1704 :: i64 z1705 :: i64 z1706 :: i64 z1707 :: un 7 (V.ptr 0 0 0 :: U :: U :: U :: V.ptr 1 0 0 :: V.ptr 2 0 0 :: un 11 (vb b1708 :: un 45 [])), σ := [Ob.cells true false 32 [[i64 z1709, i64 z1710, V.list 7 l1711, V.list 7 l1712, V.list 8 l1713, vb b1714, i64 z1715, i64 z1716, u8 z1717, u8 z1718, u8 z1719, u8 z1720, u8 z1721, u8 z1722, u8 z1723, u8 z1724, i64 z1725, i64 z1726, i64 z1727, i64 z1728, i64 z1729, V.list 10 l1730, vb b1731, V.list 7 l1732, u8 z1733, u8 z1734, u8 z1735, u8 z1736, i64 z1737, V.list 1 l1738, V.list 7 l1739, V.list 7 l1740]], Ob.cells true false 32 [[i64 z1741, i64 z1742, V.hs 3 0 k1743, V.hs 4 0 k1744, V.hs 5 0 k1745, vb b1746, i64 z1747, i64 z1748, u8 z1749, u8 z1750, u8 z1751, u8 z1752, u8 z1753, u8 z1754, u8 z1755, u8 z1756, i64 z1757, i64 z1758, i64 z1759, i64 z1760, i64 z1761, V.hs 6 0 k1762, vb b1763, V.hs 7 0 k1764, u8 z1765, u8 z1766, u8 z1767, u8 z1768, i64 z1769, V.hs 8 0 k1770, V.hs 9 0 k1771, V.hs 10 0 k1772]], Ob.cells true false 32 [[i64 z1773, i64 z1742, V.hs 3 0 k1743, V.hs 4 0 k1744, V.hs 5 0 k1745, vb b1746, i64 z1747, i64 z1748, u8 z1749, u8 z1750, u8 z1751, u8 z1752, u8 z1753, u8 z1754, u8 z1755, u8 z1756, i64 z1757, i64 z1758, i64 z1759, i64 z1760, i64 z1761, V.hs 6 0 k1762, vb b1763, V.hs 7 0 k1764, u8 z1765, u8 z1766, u8 z1767, u8 z1768, i64 z1769, V.hs 8 0 k1770, V.hs 9 0 k1771, V.hs 10 0 k1772]], Ob.cells true true 7 l1774, Ob.cells true true 7 l1775, Ob.cells true true 8 l1776, Ob.cells true true 10 l1777, Ob.cells true true 7 l1778, Ob.cells true true 1 l1779, Ob.cells true true 7 l1780, Ob.cells true true 7 l1781] }) = some (E3_c29.out b) :=
  cond_ok (E := E3_c29) (L := notIn []) (fun x => by kernel_rfl)
noncomputable def D3 (l0 : List (List V)) (z1 : Int) (z2 : Int) (z3 : Int) (z4 : Int) (z5 : Int) (z6 : Int) (l7 : List (List V)) (l8 : List (List V)) (l9 : List (List V)) (b10 : Bool) (z11 : Int) (z12 : Int) (z13 : Int) (z14 : Int) (z15 : Int) (z16 : Int) (z17 : Int) (z18 : Int) (z19 : Int) (z20 : Int) (z21 : Int) (z22 : Int) (z23 : Int) (z24 : Int) (z25 : Int) (l26 : List (List V)) (b27 : Bool) (l28 : List (List V)) (z29 : Int) (z30 : Int) (z31 : Int) (z32 : Int) (z33 : Int) (l34 : List (List V)) (l35 : List (List V)) (l36 : List (List V)) (z37 : Int) : PT A3 :=
  .ask E13 (F13_ok (l0) (0)) fun (r : A13) => match r with
  | .a0 z4621 z4622 k4623 k4624 k4625 b4626 z4627 z4628 z4629 z4630 z4631 z4632 z4633 z4634 z4635 z4636 z4637 z4638 z4639 z4640 z4641 k4642 b4643 k4644 z4645 z4646 z4647 z4648 z4649 k4650 k4651 k4652 l4653 z4654 l4655 l4656 l4657 l4658 l4659 l4660 l4661 l4662 =>
   .auto 5 <|
   .cut E3_c29 (J3_c29_ok (z1) (z2) (z3) (z4) (decide ((↑(List.length l9) : Int) > 3)) (z5) (z6) (l7) (l8) (l9) (b10) (z11) (z12) (z13) (z14) (z15) (z16) (z17) (z18) (z19) (z20) (z21) (z22) (z23) (z24) (z25) (l26) (b27) (l28) (z29) (z30) (z31) (z32) (z33) (l34) (l35) (l36) (z4621) (z4622) (k4623) (k4624) (k4625) (b4626) (z4627) (z4628) (z4629) (z4630) (z4631) (z4632) (z4633) (z4634) (z4635) (z4636) (z4637) (z4638) (z4639) (z4640) (z4641) (k4642) (b4643) (k4644) (z4645) (z4646) (z4647) (z4648) (z4649) (k4650) (k4651) (k4652) (z37) (l4655) (l4656) (l4657) (l4658) (l4659) (l4660) (l4661) (l4662)) fun (r : N3_c29) => match r with
   | .e0 z4663 z4664 z4665 z4666 z4667 z4668 l4669 l4670 l4671 b4672 z4673 z4674 z4675 z4676 z4677 z4678 z4679 z4680 z4681 z4682 z4683 z4684 z4685 z4686 z4687 l4688 b4689 l4690 z4691 z4692 z4693 z4694 z4695 l4696 l4697 l4698 z4699 z4700 k4701 k4702 k4703 b4704 z4705 z4706 z4707 z4708 z4709 z4710 z4711 z4712 z4713 z4714 z4715 z4716 z4717 z4718 z4719 k4720 b4721 k4722 z4723 z4724 z4725 z4726 z4727 k4728 k4729 k4730 z4731 l4732 l4733 l4734 l4735 l4736 l4737 l4738 l4739 =>
    .auto 1 <|
    .test (0 + k4701 ≤ List.length l4732)
     (fun h0 =>
     .test (0 + k4702 ≤ List.length l4733)
      (fun h1 =>
      .test (0 + k4703 ≤ List.length l4734)
       (fun h2 =>
       .test (0 + k4720 ≤ List.length l4735)
        (fun h3 =>
        .test (0 + k4722 ≤ List.length l4736)
         (fun h4 =>
         .test (0 + k4728 ≤ List.length l4737)
          (fun h5 =>
          .test (0 + k4729 ≤ List.length l4738)
           (fun h6 =>
           .test (0 + k4730 ≤ List.length l4739)
            (fun h7 =>
            .ask E14 (F14_ok (z4699) (z4700) (List.take k4701 l4732) (List.take k4702 l4733) (List.take k4703 l4734) (b4704) (z4705) (z4706) (z4707) (z4708) (z4709) (z4710) (z4711) (z4712) (z4713) (z4714) (z4715) (z4716) (z4717) (z4718) (z4719) (List.take k4720 l4735) (b4721) (List.take k4722 l4736) (z4723) (z4724) (z4725) (z4726) (z4727) (List.take k4728 l4737) (List.take k4729 l4738) (List.take k4730 l4739) (w64 (w64 (↑(BitVec.toNat (BitVec.ofInt (IntKind.bits IntKind.i64) z4663 &&& BitVec.ofInt (IntKind.bits IntKind.i64) 63)) : Int) - 4))) fun (r : A14) => match r with
            | .a0 b4740 =>
             .testB (b4740)
              (fun h8 =>
              .auto 3 <|
              .known (decide_eq_true h0) <|
              .known (decide_eq_true h1) <|
              .known (decide_eq_true h2) <|
              .known (decide_eq_true h3) <|
              .known (decide_eq_true h4) <|
              .known (decide_eq_true h5) <|
              .known (decide_eq_true h6) <|
              .known (decide_eq_true h7) <|
              .ask E14 (F14_ok (z4699) (z4700) (List.take k4701 l4732) (List.take k4702 l4733) (List.take k4703 l4734) (b4704) (z4705) (z4706) (z4707) (z4708) (z4709) (z4710) (z4711) (z4712) (z4713) (z4714) (z4715) (z4716) (z4717) (z4718) (z4719) (List.take k4720 l4735) (b4721) (List.take k4722 l4736) (z4723) (z4724) (z4725) (z4726) (z4727) (List.take k4728 l4737) (List.take k4729 l4738) (List.take k4730 l4739) (z4663)) fun (r : A14) => match r with
              | .a0 b4741 =>
               .auto 1 <|
               .testB (b4741)
                (fun h9 =>
                .auto 4 <|
                .known (decide_eq_true h0) <|
                .known (decide_eq_true h1) <|
                .known (decide_eq_true h2) <|
                .known (decide_eq_true h3) <|
                .known (decide_eq_true h4) <|
                .known (decide_eq_true h5) <|
                .known (decide_eq_true h6) <|
                .known (decide_eq_true h7) <|
                .ask E14 (F14_ok (z4731) (z4700) (List.take k4701 l4732) (List.take k4702 l4733) (List.take k4703 l4734) (b4704) (z4705) (z4706) (z4707) (z4708) (z4709) (z4710) (z4711) (z4712) (z4713) (z4714) (z4715) (z4716) (z4717) (z4718) (z4719) (List.take k4720 l4735) (b4721) (List.take k4722 l4736) (z4723) (z4724) (z4725) (z4726) (z4727) (List.take k4728 l4737) (List.take k4729 l4738) (List.take k4730 l4739) (w64 (↑(BitVec.toNat (BitVec.ofInt (IntKind.bits IntKind.i64) z4663 &&& BitVec.ofInt (IntKind.bits IntKind.i64) 31)) : Int))) fun (r : A14) => match r with
                | .a0 b4742 =>
                 .auto 1 <|
                 .testB (b4742)
                  (fun h10 =>
                  .auto 2 <|
                  .ask E15 (F15_ok (z4667) (z4668) (l4669) (l4670) (l4671) (b4672) (z4673) (z4674) (z4675) (z4676) (z4677) (z4678) (z4679) (z4680) (z4681) (z4682) (z4683) (z4684) (z4685) (z4686) (z4687) (l4688) (b4689) (l4690) (z4691) (z4692) (z4693) (z4694) (z4695) (l4696) (l4697) (l4698)) fun (r : A15) => match r with
                  | .a0 b4743 =>
                   .auto 3 <|
                   .ask E16 (F16_ok (z4667) (z4668) (l4669) (l4670) (l4671) (b4672) (z4673) (z4674) (z4675) (z4676) (z4677) (z4678) (z4679) (z4680) (z4681) (z4682) (z4683) (z4684) (z4685) (z4686) (z4687) (l4688) (b4689) (l4690) (z4691) (z4692) (z4693) (z4694) (z4695) (l4696) (l4697) (l4698)) fun (r : A16) => match r with
                   | .a0 b4744 =>
                    .auto 2 <|
                    .testB (b4743 == b4744)
                     (fun h11 =>
                     .auto 3 <|
                     .ask E17 (F17_ok (z4664) (z4665) (z4666)) fun (r : A17) => match r with
                     | .a0 b4745 =>
                      .auto 1 <|
                      .testB (b4745)
                       (fun h12 =>
                       .auto 8 <|
                       .ask E17 (F17_ok (Int.fdiv z4664 137438953472) (Int.fdiv z4665 274877906944) (w64 (↑(BitVec.toNat (BitVec.ofInt (IntKind.bits IntKind.i64) z4666 &&& BitVec.ofInt (IntKind.bits IntKind.i64) 15)) : Int))) fun (r : A17) => match r with
                       | .a0 b4746 =>
                        .auto 1 <|
                        .testB (b4746)
                         (fun h13 =>
                         .ask E18 (F18_ok) fun (r : A18) => match r with
                         | .a0 b4747 =>
                          .auto 1 <|
                          .ret (A3.a0 (b4747))
                         )
                         (fun _ => .fail) -- none
                       )
                       (fun _ => .fail) -- none
                     )
                     (fun _ => .fail) -- none
                  )
                  (fun _ => .fail) -- none
                )
                (fun _ => .fail) -- none
              )
              (fun _ => .fail) -- none
            )
            (fun _ => .fail) -- none
           )
           (fun _ => .fail) -- none
          )
          (fun _ => .fail) -- none
         )
         (fun _ => .fail) -- none
        )
        (fun _ => .fail) -- none
       )
       (fun _ => .fail) -- none
      )
      (fun _ => .fail) -- none
     )
     (fun _ => .fail) -- none
noncomputable def F3 (l0 : List (List V)) (z1 : Int) (z2 : Int) (z3 : Int) (z4 : Int) (z5 : Int) (z6 : Int) (l7 : List (List V)) (l8 : List (List V)) (l9 : List (List V)) (b10 : Bool) (z11 : Int) (z12 : Int) (z13 : Int) (z14 : Int) (z15 : Int) (z16 : Int) (z17 : Int) (z18 : Int) (z19 : Int) (z20 : Int) (z21 : Int) (z22 : Int) (z23 : Int) (z24 : Int) (z25 : Int) (l26 : List (List V)) (b27 : Bool) (l28 : List (List V)) (z29 : Int) (z30 : Int) (z31 : Int) (z32 : Int) (z33 : Int) (l34 : List (List V)) (l35 : List (List V)) (l36 : List (List V)) (z37 : Int) : Option A3 := (D3 l0 z1 z2 z3 z4 z5 z6 l7 l8 l9 b10 z11 z12 z13 z14 z15 z16 z17 z18 z19 z20 z21 z22 z23 z24 z25 l26 b27 l28 z29 z30 z31 z32 z33 l34 l35 l36 z37).ev some
theorem F3_ok (l0 : List (List V)) (z1 : Int) (z2 : Int) (z3 : Int) (z4 : Int) (z5 : Int) (z6 : Int) (l7 : List (List V)) (l8 : List (List V)) (l9 : List (List V)) (b10 : Bool) (z11 : Int) (z12 : Int) (z13 : Int) (z14 : Int) (z15 : Int) (z16 : Int) (z17 : Int) (z18 : Int) (z19 : Int) (z20 : Int) (z21 : Int) (z22 : Int) (z23 : Int) (z24 : Int) (z25 : Int) (l26 : List (List V)) (b27 : Bool) (l28 : List (List V)) (z29 : Int) (z30 : Int) (z31 : Int) (z32 : Int) (z33 : Int) (l34 : List (List V)) (l35 : List (List V)) (l36 : List (List V)) (z37 : Int) : ∀ b, F3 l0 z1 z2 z3 z4 z5 z6 l7 l8 l9 b10 z11 z12 z13 z14 z15 z16 z17 z18 z19 z20 z21 z22 z23 z24 z25 l26 b27 l28 z29 z30 z31 z32 z33 l34 l35 l36 z37 = some b → UU 3 ([V.list 1 l0, i64 z1, i64 z2, i64 z3, i64 z4, V.agg [i64 z5, i64 z6, V.list 7 l7, V.list 7 l8, V.list 8 l9, vb b10, i64 z11, i64 z12, u8 z13, u8 z14, u8 z15, u8 z16, u8 z17, u8 z18, u8 z19, u8 z20, i64 z21, i64 z22, i64 z23, i64 z24, i64 z25, V.list 10 l26, vb b27, V.list 7 l28, u8 z29, u8 z30, u8 z31, u8 z32, i64 z33, V.list 1 l34, V.list 7 l35, V.list 7 l36], i64 z37]) ([]) = some (A3.out b) :=
  fn_ok (E := E3) (L := notIn []) rfl rfl (fun x => by kernel_rfl)

end Go.Proofs.YtifalphladcdcaaGreat.H
