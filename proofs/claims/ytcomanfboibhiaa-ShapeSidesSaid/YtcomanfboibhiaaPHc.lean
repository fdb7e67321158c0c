/- What the functions compute, and that they do so over the machine of plain values (printed by this session's program wip/vm/Walk.lean). No condition beyond those stated. -/
import Derived.Test.YtcomanfboibhiaaWk
import Derived.Test.YtcomanfboibhiaaPHb
set_option linter.unusedVariables false
set_option linter.unusedSimpArgs false
namespace Go.Proofs.Ytcomanfboibhiaa.H
open Go Go.VM
set_option maxRecDepth 100000
/-! ## 27 -/
inductive A27 where
  | a0 (b1267 : Bool)
@[reducible] def A27.out : A27 → V × Store
  | .a0 b1267 => (vb b1267, [])
def F27 (z374 : Int) (z375 : Int) (l376 : List (List V)) (l377 : List (List V)) (l378 : List (List V)) (b379 : Bool) (z380 : Int) (z381 : Int) (z382 : Int) (z383 : Int) (z384 : Int) (z385 : Int) (z386 : Int) (z387 : Int) (z388 : Int) (z389 : Int) (z390 : Int) (z391 : Int) (z392 : Int) (z393 : Int) (z394 : Int) (l395 : List (List V)) (b396 : Bool) (l397 : List (List V)) (z398 : Int) (z399 : Int) (z400 : Int) (z401 : Int) (z402 : Int) (l403 : List (List V)) (l404 : List (List V)) (l405 : List (List V)) : Option A27 :=
  (F55 (z374) (z375) (l376) (l377) (l378) (b379) (z380) (z381) (z382) (z383) (z384) (z385) (z386) (z387) (z388) (z389) (z390) (z391) (z392) (z393) (z394) (l395) (b396) (l397) (z398) (z399) (z400) (z401) (z402) (l403) (l404) (l405)).bind fun r => match r with
  | .a0 b1079 =>
   if (b1079) = true then
    if (z380 == 0) = true then
     bnd (F56 (z381) (z382) (z383) (z384) (z385) (z386) (z387) (z388) (z389) (z390) (z391) (z392) (z393) (z394)) fun b1106 =>
     if (b1106) = true then
      (F16 (l395)).bind fun r => match r with
      | .a0 b1201 =>
       if (b1201) = true then
        (F57 (l397)).bind fun r => match r with
        | .a0 b1202 =>
         if (b1202) = true then
          (F57 (l404)).bind fun r => match r with
          | .a0 b1203 =>
           if (b1203) = true then
            (F57 (l405)).bind fun r => match r with
            | .a0 b1204 =>
             if (b1204) = true then
              if (z402 == 0) = true then
               (F58 (l403)).bind fun r => match r with
               | .a0 b1266 =>
                some (A27.a0 (b1266))
              else
               if (z402 == 1) = true then
                (F58 (l403)).bind fun r => match r with
                | .a0 b1268 =>
                 some (A27.a0 (b1268))
               else
                some (A27.a0 (false))
             else
              some (A27.a0 (false))
           else
            some (A27.a0 (false))
         else
          some (A27.a0 (false))
       else
        some (A27.a0 (false))
     else
      some (A27.a0 (false))
    else
     if (z380 == 1) = true then
      bnd (F56 (z381) (z382) (z383) (z384) (z385) (z386) (z387) (z388) (z389) (z390) (z391) (z392) (z393) (z394)) fun b1269 =>
      if (b1269) = true then
       (F16 (l395)).bind fun r => match r with
       | .a0 b1270 =>
        if (b1270) = true then
         (F57 (l397)).bind fun r => match r with
         | .a0 b1271 =>
          if (b1271) = true then
           (F57 (l404)).bind fun r => match r with
           | .a0 b1272 =>
            if (b1272) = true then
             (F57 (l405)).bind fun r => match r with
             | .a0 b1273 =>
              if (b1273) = true then
               if (z402 == 0) = true then
                (F58 (l403)).bind fun r => match r with
                | .a0 b1274 =>
                 some (A27.a0 (b1274))
               else
                if (z402 == 1) = true then
                 (F58 (l403)).bind fun r => match r with
                 | .a0 b1275 =>
                  some (A27.a0 (b1275))
                else
                 some (A27.a0 (false))
              else
               some (A27.a0 (false))
            else
             some (A27.a0 (false))
          else
           some (A27.a0 (false))
        else
         some (A27.a0 (false))
      else
       some (A27.a0 (false))
     else
      some (A27.a0 (false))
   else
    some (A27.a0 (false))
theorem F27_ok (m : Nat) (z374 : Int) (z375 : Int) (l376 : List (List V)) (l377 : List (List V)) (l378 : List (List V)) (b379 : Bool) (z380 : Int) (z381 : Int) (z382 : Int) (z383 : Int) (z384 : Int) (z385 : Int) (z386 : Int) (z387 : Int) (z388 : Int) (z389 : Int) (z390 : Int) (z391 : Int) (z392 : Int) (z393 : Int) (z394 : Int) (l395 : List (List V)) (b396 : Bool) (l397 : List (List V)) (z398 : Int) (z399 : Int) (z400 : Int) (z401 : Int) (z402 : Int) (l403 : List (List V)) (l404 : List (List V)) (l405 : List (List V)) (r : A27) (h : F27 z374 z375 l376 l377 l378 b379 z380 z381 z382 z383 z384 z385 z386 z387 z388 z389 z390 z391 z392 z393 z394 l395 b396 l397 z398 z399 z400 z401 z402 l403 l404 l405 = some r) : call Try.prog X O0 18446744073709551616 (m + 8) 27 ([V.agg [i64 z374, i64 z375, V.list 7 l376, V.list 7 l377, V.list 8 l378, vb b379, i64 z380, i64 z381, u8 z382, u8 z383, u8 z384, u8 z385, u8 z386, u8 z387, u8 z388, u8 z389, i64 z390, i64 z391, i64 z392, i64 z393, i64 z394, V.list 10 l395, vb b396, V.list 7 l397, u8 z398, u8 z399, u8 z400, u8 z401, i64 z402, V.list 1 l403, V.list 7 l404, V.list 7 l405]]) ([]) = some r.out := by
  unfold F27 at h
  obtain ⟨r0, h0, h⟩ := Option.bind_eq_some_iff.mp h
  have h0 := F55_ok (m + 0) (z374) (z375) (l376) (l377) (l378) (b379) (z380) (z381) (z382) (z383) (z384) (z385) (z386) (z387) (z388) (z389) (z390) (z391) (z392) (z393) (z394) (l395) (b396) (l397) (z398) (z399) (z400) (z401) (z402) (l403) (l404) (l405) r0 h0
  cases r0 with
  | a0 b1079 =>
    rcases ite_eq h with ⟨h1, h⟩ | ⟨h1, h⟩
    · skip
      rcases ite_eq h with ⟨h2, h⟩ | ⟨h2, h⟩
      · skip
        obtain ⟨b1106, h3, h⟩ := bnd_eq h
        rcases ite_eq h with ⟨h4, h⟩ | ⟨h4, h⟩
        · skip
          obtain ⟨r5, h5, h⟩ := Option.bind_eq_some_iff.mp h
          have h5 := F16_ok (m + 3) (l395) r5 h5
          cases r5 with
          | a0 b1201 =>
            rcases ite_eq h with ⟨h6, h⟩ | ⟨h6, h⟩
            · skip
              obtain ⟨r7, h7, h⟩ := Option.bind_eq_some_iff.mp h
              have h7 := F57_ok (m + 3) (l397) r7 h7
              cases r7 with
              | a0 b1202 =>
                rcases ite_eq h with ⟨h8, h⟩ | ⟨h8, h⟩
                · skip
                  obtain ⟨r9, h9, h⟩ := Option.bind_eq_some_iff.mp h
                  have h9 := F57_ok (m + 3) (l404) r9 h9
                  cases r9 with
                  | a0 b1203 =>
                    rcases ite_eq h with ⟨h10, h⟩ | ⟨h10, h⟩
                    · skip
                      obtain ⟨r11, h11, h⟩ := Option.bind_eq_some_iff.mp h
                      have h11 := F57_ok (m + 3) (l405) r11 h11
                      cases r11 with
                      | a0 b1204 =>
                        rcases ite_eq h with ⟨h12, h⟩ | ⟨h12, h⟩
                        · skip
                          rcases ite_eq h with ⟨h13, h⟩ | ⟨h13, h⟩
                          · skip
                            obtain ⟨r14, h14, h⟩ := Option.bind_eq_some_iff.mp h
                            have h14 := F58_ok (m + 3) (l403) r14 h14
                            cases r14 with
                            | a0 b1266 =>
                              cases h
                              exact call_pathL (gs := [.a, .an (vb b1079) [], .t, .t, .a, .t, .t, .t, .t, .t, .t, .t, .t, .a, .a, .a, .a, .an (vb b1106) [], .a, .t, .t, .a, .t, .an (vb b1201) [], .t, .t, .t, .a, .t, .an (vb b1202) [], .t, .t, .t, .a, .t, .an (vb b1203) [], .t, .t, .t, .a, .t, .an (vb b1204) [], .t, .t, .t, .a, .t, .t, .t, .t, .t, .t, .t, .t, .a, .a, .a, .a, .an (vb b1266) [], .a]) (notIn []) rfl rfl (by kernel_rfl) (And.intro h0 (And.intro h1 (And.intro h1 (And.intro h1 (And.intro h1 (And.intro h2 (And.intro h2 (And.intro h2 (And.intro h1 (And.intro h2 (And.intro h1 (And.intro (F56_ok (m + 5) (z381) (z382) (z383) (z384) (z385) (z386) (z387) (z388) (z389) (z390) (z391) (z392) (z393) (z394) b1106 h3) (And.intro h4 (And.intro h4 (And.intro h4 (And.intro h5 (And.intro h4 (And.intro h6 (And.intro h6 (And.intro h6 (And.intro h7 (And.intro h6 (And.intro h8 (And.intro h8 (And.intro h8 (And.intro h9 (And.intro h8 (And.intro h10 (And.intro h10 (And.intro h10 (And.intro h11 (And.intro h10 (And.intro h12 (And.intro h12 (And.intro h12 (And.intro h12 (And.intro h13 (And.intro h13 (And.intro h13 (And.intro h12 (And.intro h13 (And.intro h12 (And.intro h14 True.intro)))))))))))))))))))))))))))))))))))))))))))
                          · skip
                            rcases ite_eq h with ⟨h14, h⟩ | ⟨h14, h⟩
                            · skip
                              obtain ⟨r15, h15, h⟩ := Option.bind_eq_some_iff.mp h
                              have h15 := F58_ok (m + 3) (l403) r15 h15
                              cases r15 with
                              | a0 b1268 =>
                                cases h
                                exact call_pathL (gs := [.a, .an (vb b1079) [], .t, .t, .a, .t, .t, .t, .t, .t, .t, .t, .t, .a, .a, .a, .a, .an (vb b1106) [], .a, .t, .t, .a, .t, .an (vb b1201) [], .t, .t, .t, .a, .t, .an (vb b1202) [], .t, .t, .t, .a, .t, .an (vb b1203) [], .t, .t, .t, .a, .t, .an (vb b1204) [], .t, .t, .t, .a, .t, .t, .f, .f, .a, .f, .t, .f, .t, .t, .t, .a, .t, .an (vb b1268) [], .t]) (notIn []) rfl rfl (by kernel_rfl) (And.intro h0 (And.intro h1 (And.intro h1 (And.intro h1 (And.intro h1 (And.intro h2 (And.intro h2 (And.intro h2 (And.intro h1 (And.intro h2 (And.intro h1 (And.intro (F56_ok (m + 5) (z381) (z382) (z383) (z384) (z385) (z386) (z387) (z388) (z389) (z390) (z391) (z392) (z393) (z394) b1106 h3) (And.intro h4 (And.intro h4 (And.intro h4 (And.intro h5 (And.intro h4 (And.intro h6 (And.intro h6 (And.intro h6 (And.intro h7 (And.intro h6 (And.intro h8 (And.intro h8 (And.intro h8 (And.intro h9 (And.intro h8 (And.intro h10 (And.intro h10 (And.intro h10 (And.intro h11 (And.intro h10 (And.intro h12 (And.intro h12 (And.intro h12 (And.intro h12 (And.intro (Bool.eq_false_iff.mpr h13) (And.intro (Bool.eq_false_iff.mpr h13) (And.intro (Bool.eq_false_iff.mpr h13) (And.intro h12 (And.intro (Bool.eq_false_iff.mpr h13) (And.intro h12 (And.intro h14 (And.intro h14 (And.intro h14 (And.intro h15 (And.intro h14 True.intro)))))))))))))))))))))))))))))))))))))))))))))))
                            · skip
                              cases h
                              exact call_pathL (gs := [.a, .an (vb b1079) [], .t, .t, .a, .t, .t, .t, .t, .t, .t, .t, .t, .a, .a, .a, .a, .an (vb b1106) [], .a, .t, .t, .a, .t, .an (vb b1201) [], .t, .t, .t, .a, .t, .an (vb b1202) [], .t, .t, .t, .a, .t, .an (vb b1203) [], .t, .t, .t, .a, .t, .an (vb b1204) [], .t, .t, .t, .a, .t, .t, .f, .f, .a, .f, .t, .f, .t, .f, .f, .f, .f]) (notIn []) rfl rfl (by kernel_rfl) (And.intro h0 (And.intro h1 (And.intro h1 (And.intro h1 (And.intro h1 (And.intro h2 (And.intro h2 (And.intro h2 (And.intro h1 (And.intro h2 (And.intro h1 (And.intro (F56_ok (m + 5) (z381) (z382) (z383) (z384) (z385) (z386) (z387) (z388) (z389) (z390) (z391) (z392) (z393) (z394) b1106 h3) (And.intro h4 (And.intro h4 (And.intro h4 (And.intro h5 (And.intro h4 (And.intro h6 (And.intro h6 (And.intro h6 (And.intro h7 (And.intro h6 (And.intro h8 (And.intro h8 (And.intro h8 (And.intro h9 (And.intro h8 (And.intro h10 (And.intro h10 (And.intro h10 (And.intro h11 (And.intro h10 (And.intro h12 (And.intro h12 (And.intro h12 (And.intro h12 (And.intro (Bool.eq_false_iff.mpr h13) (And.intro (Bool.eq_false_iff.mpr h13) (And.intro (Bool.eq_false_iff.mpr h13) (And.intro h12 (And.intro (Bool.eq_false_iff.mpr h13) (And.intro h12 (And.intro (Bool.eq_false_iff.mpr h14) (And.intro (Bool.eq_false_iff.mpr h14) (And.intro (Bool.eq_false_iff.mpr h14) (And.intro (Bool.eq_false_iff.mpr h14) True.intro))))))))))))))))))))))))))))))))))))))))))))))
                        · skip
                          cases h
                          exact call_pathL (gs := [.a, .an (vb b1079) [], .t, .t, .a, .t, .t, .t, .t, .t, .t, .t, .t, .a, .a, .a, .a, .an (vb b1106) [], .a, .t, .t, .a, .t, .an (vb b1201) [], .t, .t, .t, .a, .t, .an (vb b1202) [], .t, .t, .t, .a, .t, .an (vb b1203) [], .t, .t, .t, .a, .t, .an (vb b1204) [], .t, .f, .f, .f, .f, .f, .f, .a, .a, .a, .a]) (notIn []) rfl rfl (by kernel_rfl) (And.intro h0 (And.intro h1 (And.intro h1 (And.intro h1 (And.intro h1 (And.intro h2 (And.intro h2 (And.intro h2 (And.intro h1 (And.intro h2 (And.intro h1 (And.intro (F56_ok (m + 5) (z381) (z382) (z383) (z384) (z385) (z386) (z387) (z388) (z389) (z390) (z391) (z392) (z393) (z394) b1106 h3) (And.intro h4 (And.intro h4 (And.intro h4 (And.intro h5 (And.intro h4 (And.intro h6 (And.intro h6 (And.intro h6 (And.intro h7 (And.intro h6 (And.intro h8 (And.intro h8 (And.intro h8 (And.intro h9 (And.intro h8 (And.intro h10 (And.intro h10 (And.intro h10 (And.intro h11 (And.intro h10 (And.intro (Bool.eq_false_iff.mpr h12) (And.intro (Bool.eq_false_iff.mpr h12) (And.intro (Bool.eq_false_iff.mpr h12) (And.intro (Bool.eq_false_iff.mpr h12) (And.intro (Bool.eq_false_iff.mpr h12) (And.intro (Bool.eq_false_iff.mpr h12) True.intro))))))))))))))))))))))))))))))))))))))
                    · skip
                      cases h
                      exact call_pathL (gs := [.a, .an (vb b1079) [], .t, .t, .a, .t, .t, .t, .t, .t, .t, .t, .t, .a, .a, .a, .a, .an (vb b1106) [], .a, .t, .t, .a, .t, .an (vb b1201) [], .t, .t, .t, .a, .t, .an (vb b1202) [], .t, .t, .t, .a, .t, .an (vb b1203) [], .t, .f, .f, .f, .f, .a, .a, .a, .a, .a, .a, .a, .a, .a, .a]) (notIn []) rfl rfl (by kernel_rfl) (And.intro h0 (And.intro h1 (And.intro h1 (And.intro h1 (And.intro h1 (And.intro h2 (And.intro h2 (And.intro h2 (And.intro h1 (And.intro h2 (And.intro h1 (And.intro (F56_ok (m + 5) (z381) (z382) (z383) (z384) (z385) (z386) (z387) (z388) (z389) (z390) (z391) (z392) (z393) (z394) b1106 h3) (And.intro h4 (And.intro h4 (And.intro h4 (And.intro h5 (And.intro h4 (And.intro h6 (And.intro h6 (And.intro h6 (And.intro h7 (And.intro h6 (And.intro h8 (And.intro h8 (And.intro h8 (And.intro h9 (And.intro h8 (And.intro (Bool.eq_false_iff.mpr h10) (And.intro (Bool.eq_false_iff.mpr h10) (And.intro (Bool.eq_false_iff.mpr h10) (And.intro (Bool.eq_false_iff.mpr h10) True.intro)))))))))))))))))))))))))))))))
                · skip
                  cases h
                  exact call_pathL (gs := [.a, .an (vb b1079) [], .t, .t, .a, .t, .t, .t, .t, .t, .t, .t, .t, .a, .a, .a, .a, .an (vb b1106) [], .a, .t, .t, .a, .t, .an (vb b1201) [], .t, .t, .t, .a, .t, .an (vb b1202) [], .t, .f, .f, .f, .f, .a, .a, .a, .a, .a, .a, .a, .a, .a, .a, .a, .a, .a, .a]) (notIn []) rfl rfl (by kernel_rfl) (And.intro h0 (And.intro h1 (And.intro h1 (And.intro h1 (And.intro h1 (And.intro h2 (And.intro h2 (And.intro h2 (And.intro h1 (And.intro h2 (And.intro h1 (And.intro (F56_ok (m + 5) (z381) (z382) (z383) (z384) (z385) (z386) (z387) (z388) (z389) (z390) (z391) (z392) (z393) (z394) b1106 h3) (And.intro h4 (And.intro h4 (And.intro h4 (And.intro h5 (And.intro h4 (And.intro h6 (And.intro h6 (And.intro h6 (And.intro h7 (And.intro h6 (And.intro (Bool.eq_false_iff.mpr h8) (And.intro (Bool.eq_false_iff.mpr h8) (And.intro (Bool.eq_false_iff.mpr h8) (And.intro (Bool.eq_false_iff.mpr h8) True.intro))))))))))))))))))))))))))
            · skip
              cases h
              exact call_pathL (gs := [.a, .an (vb b1079) [], .t, .t, .a, .t, .t, .t, .t, .t, .t, .t, .t, .a, .a, .a, .a, .an (vb b1106) [], .a, .t, .t, .a, .t, .an (vb b1201) [], .t, .f, .f, .f, .f, .a, .a, .a, .a, .a, .a, .a, .a, .a, .a, .a, .a, .a, .a, .a, .a, .a, .a]) (notIn []) rfl rfl (by kernel_rfl) (And.intro h0 (And.intro h1 (And.intro h1 (And.intro h1 (And.intro h1 (And.intro h2 (And.intro h2 (And.intro h2 (And.intro h1 (And.intro h2 (And.intro h1 (And.intro (F56_ok (m + 5) (z381) (z382) (z383) (z384) (z385) (z386) (z387) (z388) (z389) (z390) (z391) (z392) (z393) (z394) b1106 h3) (And.intro h4 (And.intro h4 (And.intro h4 (And.intro h5 (And.intro h4 (And.intro (Bool.eq_false_iff.mpr h6) (And.intro (Bool.eq_false_iff.mpr h6) (And.intro (Bool.eq_false_iff.mpr h6) (And.intro (Bool.eq_false_iff.mpr h6) True.intro)))))))))))))))))))))
        · skip
          cases h
          exact call_pathL (gs := [.a, .an (vb b1079) [], .t, .t, .a, .t, .t, .t, .t, .t, .t, .t, .t, .a, .a, .a, .a, .an (vb b1106) [], .a, .f, .f, .f, .f, .a, .a, .a, .a, .a, .a, .a, .a, .a, .a, .a, .a, .a, .a, .a, .a, .a, .a, .a, .a, .a, .a]) (notIn []) rfl rfl (by kernel_rfl) (And.intro h0 (And.intro h1 (And.intro h1 (And.intro h1 (And.intro h1 (And.intro h2 (And.intro h2 (And.intro h2 (And.intro h1 (And.intro h2 (And.intro h1 (And.intro (F56_ok (m + 5) (z381) (z382) (z383) (z384) (z385) (z386) (z387) (z388) (z389) (z390) (z391) (z392) (z393) (z394) b1106 h3) (And.intro (Bool.eq_false_iff.mpr h4) (And.intro (Bool.eq_false_iff.mpr h4) (And.intro (Bool.eq_false_iff.mpr h4) (And.intro (Bool.eq_false_iff.mpr h4) True.intro))))))))))))))))
      · skip
        rcases ite_eq h with ⟨h3, h⟩ | ⟨h3, h⟩
        · skip
          obtain ⟨b1269, h4, h⟩ := bnd_eq h
          rcases ite_eq h with ⟨h5, h⟩ | ⟨h5, h⟩
          · skip
            obtain ⟨r6, h6, h⟩ := Option.bind_eq_some_iff.mp h
            have h6 := F16_ok (m + 3) (l395) r6 h6
            cases r6 with
            | a0 b1270 =>
              rcases ite_eq h with ⟨h7, h⟩ | ⟨h7, h⟩
              · skip
                obtain ⟨r8, h8, h⟩ := Option.bind_eq_some_iff.mp h
                have h8 := F57_ok (m + 3) (l397) r8 h8
                cases r8 with
                | a0 b1271 =>
                  rcases ite_eq h with ⟨h9, h⟩ | ⟨h9, h⟩
                  · skip
                    obtain ⟨r10, h10, h⟩ := Option.bind_eq_some_iff.mp h
                    have h10 := F57_ok (m + 3) (l404) r10 h10
                    cases r10 with
                    | a0 b1272 =>
                      rcases ite_eq h with ⟨h11, h⟩ | ⟨h11, h⟩
                      · skip
                        obtain ⟨r12, h12, h⟩ := Option.bind_eq_some_iff.mp h
                        have h12 := F57_ok (m + 3) (l405) r12 h12
                        cases r12 with
                        | a0 b1273 =>
                          rcases ite_eq h with ⟨h13, h⟩ | ⟨h13, h⟩
                          · skip
                            rcases ite_eq h with ⟨h14, h⟩ | ⟨h14, h⟩
                            · skip
                              obtain ⟨r15, h15, h⟩ := Option.bind_eq_some_iff.mp h
                              have h15 := F58_ok (m + 3) (l403) r15 h15
                              cases r15 with
                              | a0 b1274 =>
                                cases h
                                exact call_pathL (gs := [.a, .an (vb b1079) [], .t, .t, .a, .t, .t, .f, .f, .a, .f, .t, .f, .t, .t, .t, .a, .t, .an (vb b1269) [], .t, .t, .t, .a, .t, .an (vb b1270) [], .t, .t, .t, .a, .t, .an (vb b1271) [], .t, .t, .t, .a, .t, .an (vb b1272) [], .t, .t, .t, .a, .t, .an (vb b1273) [], .t, .t, .t, .a, .t, .t, .t, .t, .t, .t, .t, .t, .a, .a, .a, .a, .an (vb b1274) [], .a]) (notIn []) rfl rfl (by kernel_rfl) (And.intro h0 (And.intro h1 (And.intro h1 (And.intro h1 (And.intro h1 (And.intro (Bool.eq_false_iff.mpr h2) (And.intro (Bool.eq_false_iff.mpr h2) (And.intro (Bool.eq_false_iff.mpr h2) (And.intro h1 (And.intro (Bool.eq_false_iff.mpr h2) (And.intro h1 (And.intro h3 (And.intro h3 (And.intro h3 (And.intro (F56_ok (m + 5) (z381) (z382) (z383) (z384) (z385) (z386) (z387) (z388) (z389) (z390) (z391) (z392) (z393) (z394) b1269 h4) (And.intro h3 (And.intro h5 (And.intro h5 (And.intro h5 (And.intro h6 (And.intro h5 (And.intro h7 (And.intro h7 (And.intro h7 (And.intro h8 (And.intro h7 (And.intro h9 (And.intro h9 (And.intro h9 (And.intro h10 (And.intro h9 (And.intro h11 (And.intro h11 (And.intro h11 (And.intro h12 (And.intro h11 (And.intro h13 (And.intro h13 (And.intro h13 (And.intro h13 (And.intro h14 (And.intro h14 (And.intro h14 (And.intro h13 (And.intro h14 (And.intro h13 (And.intro h15 True.intro)))))))))))))))))))))))))))))))))))))))))))))))
                            · skip
                              rcases ite_eq h with ⟨h15, h⟩ | ⟨h15, h⟩
                              · skip
                                obtain ⟨r16, h16, h⟩ := Option.bind_eq_some_iff.mp h
                                have h16 := F58_ok (m + 3) (l403) r16 h16
                                cases r16 with
                                | a0 b1275 =>
                                  cases h
                                  exact call_pathL (gs := [.a, .an (vb b1079) [], .t, .t, .a, .t, .t, .f, .f, .a, .f, .t, .f, .t, .t, .t, .a, .t, .an (vb b1269) [], .t, .t, .t, .a, .t, .an (vb b1270) [], .t, .t, .t, .a, .t, .an (vb b1271) [], .t, .t, .t, .a, .t, .an (vb b1272) [], .t, .t, .t, .a, .t, .an (vb b1273) [], .t, .t, .t, .a, .t, .t, .f, .f, .a, .f, .t, .f, .t, .t, .t, .a, .t, .an (vb b1275) [], .t]) (notIn []) rfl rfl (by kernel_rfl) (And.intro h0 (And.intro h1 (And.intro h1 (And.intro h1 (And.intro h1 (And.intro (Bool.eq_false_iff.mpr h2) (And.intro (Bool.eq_false_iff.mpr h2) (And.intro (Bool.eq_false_iff.mpr h2) (And.intro h1 (And.intro (Bool.eq_false_iff.mpr h2) (And.intro h1 (And.intro h3 (And.intro h3 (And.intro h3 (And.intro (F56_ok (m + 5) (z381) (z382) (z383) (z384) (z385) (z386) (z387) (z388) (z389) (z390) (z391) (z392) (z393) (z394) b1269 h4) (And.intro h3 (And.intro h5 (And.intro h5 (And.intro h5 (And.intro h6 (And.intro h5 (And.intro h7 (And.intro h7 (And.intro h7 (And.intro h8 (And.intro h7 (And.intro h9 (And.intro h9 (And.intro h9 (And.intro h10 (And.intro h9 (And.intro h11 (And.intro h11 (And.intro h11 (And.intro h12 (And.intro h11 (And.intro h13 (And.intro h13 (And.intro h13 (And.intro h13 (And.intro (Bool.eq_false_iff.mpr h14) (And.intro (Bool.eq_false_iff.mpr h14) (And.intro (Bool.eq_false_iff.mpr h14) (And.intro h13 (And.intro (Bool.eq_false_iff.mpr h14) (And.intro h13 (And.intro h15 (And.intro h15 (And.intro h15 (And.intro h16 (And.intro h15 True.intro)))))))))))))))))))))))))))))))))))))))))))))))))))
                              · skip
                                cases h
                                exact call_pathL (gs := [.a, .an (vb b1079) [], .t, .t, .a, .t, .t, .f, .f, .a, .f, .t, .f, .t, .t, .t, .a, .t, .an (vb b1269) [], .t, .t, .t, .a, .t, .an (vb b1270) [], .t, .t, .t, .a, .t, .an (vb b1271) [], .t, .t, .t, .a, .t, .an (vb b1272) [], .t, .t, .t, .a, .t, .an (vb b1273) [], .t, .t, .t, .a, .t, .t, .f, .f, .a, .f, .t, .f, .t, .f, .f, .f, .f]) (notIn []) rfl rfl (by kernel_rfl) (And.intro h0 (And.intro h1 (And.intro h1 (And.intro h1 (And.intro h1 (And.intro (Bool.eq_false_iff.mpr h2) (And.intro (Bool.eq_false_iff.mpr h2) (And.intro (Bool.eq_false_iff.mpr h2) (And.intro h1 (And.intro (Bool.eq_false_iff.mpr h2) (And.intro h1 (And.intro h3 (And.intro h3 (And.intro h3 (And.intro (F56_ok (m + 5) (z381) (z382) (z383) (z384) (z385) (z386) (z387) (z388) (z389) (z390) (z391) (z392) (z393) (z394) b1269 h4) (And.intro h3 (And.intro h5 (And.intro h5 (And.intro h5 (And.intro h6 (And.intro h5 (And.intro h7 (And.intro h7 (And.intro h7 (And.intro h8 (And.intro h7 (And.intro h9 (And.intro h9 (And.intro h9 (And.intro h10 (And.intro h9 (And.intro h11 (And.intro h11 (And.intro h11 (And.intro h12 (And.intro h11 (And.intro h13 (And.intro h13 (And.intro h13 (And.intro h13 (And.intro (Bool.eq_false_iff.mpr h14) (And.intro (Bool.eq_false_iff.mpr h14) (And.intro (Bool.eq_false_iff.mpr h14) (And.intro h13 (And.intro (Bool.eq_false_iff.mpr h14) (And.intro h13 (And.intro (Bool.eq_false_iff.mpr h15) (And.intro (Bool.eq_false_iff.mpr h15) (And.intro (Bool.eq_false_iff.mpr h15) (And.intro (Bool.eq_false_iff.mpr h15) True.intro))))))))))))))))))))))))))))))))))))))))))))))))))
                          · skip
                            cases h
                            exact call_pathL (gs := [.a, .an (vb b1079) [], .t, .t, .a, .t, .t, .f, .f, .a, .f, .t, .f, .t, .t, .t, .a, .t, .an (vb b1269) [], .t, .t, .t, .a, .t, .an (vb b1270) [], .t, .t, .t, .a, .t, .an (vb b1271) [], .t, .t, .t, .a, .t, .an (vb b1272) [], .t, .t, .t, .a, .t, .an (vb b1273) [], .t, .f, .f, .f, .f, .f, .f, .a, .a, .a, .a]) (notIn []) rfl rfl (by kernel_rfl) (And.intro h0 (And.intro h1 (And.intro h1 (And.intro h1 (And.intro h1 (And.intro (Bool.eq_false_iff.mpr h2) (And.intro (Bool.eq_false_iff.mpr h2) (And.intro (Bool.eq_false_iff.mpr h2) (And.intro h1 (And.intro (Bool.eq_false_iff.mpr h2) (And.intro h1 (And.intro h3 (And.intro h3 (And.intro h3 (And.intro (F56_ok (m + 5) (z381) (z382) (z383) (z384) (z385) (z386) (z387) (z388) (z389) (z390) (z391) (z392) (z393) (z394) b1269 h4) (And.intro h3 (And.intro h5 (And.intro h5 (And.intro h5 (And.intro h6 (And.intro h5 (And.intro h7 (And.intro h7 (And.intro h7 (And.intro h8 (And.intro h7 (And.intro h9 (And.intro h9 (And.intro h9 (And.intro h10 (And.intro h9 (And.intro h11 (And.intro h11 (And.intro h11 (And.intro h12 (And.intro h11 (And.intro (Bool.eq_false_iff.mpr h13) (And.intro (Bool.eq_false_iff.mpr h13) (And.intro (Bool.eq_false_iff.mpr h13) (And.intro (Bool.eq_false_iff.mpr h13) (And.intro (Bool.eq_false_iff.mpr h13) (And.intro (Bool.eq_false_iff.mpr h13) True.intro))))))))))))))))))))))))))))))))))))))))))
                      · skip
                        cases h
                        exact call_pathL (gs := [.a, .an (vb b1079) [], .t, .t, .a, .t, .t, .f, .f, .a, .f, .t, .f, .t, .t, .t, .a, .t, .an (vb b1269) [], .t, .t, .t, .a, .t, .an (vb b1270) [], .t, .t, .t, .a, .t, .an (vb b1271) [], .t, .t, .t, .a, .t, .an (vb b1272) [], .t, .f, .f, .f, .f, .a, .a, .a, .a, .a, .a, .a, .a, .a, .a]) (notIn []) rfl rfl (by kernel_rfl) (And.intro h0 (And.intro h1 (And.intro h1 (And.intro h1 (And.intro h1 (And.intro (Bool.eq_false_iff.mpr h2) (And.intro (Bool.eq_false_iff.mpr h2) (And.intro (Bool.eq_false_iff.mpr h2) (And.intro h1 (And.intro (Bool.eq_false_iff.mpr h2) (And.intro h1 (And.intro h3 (And.intro h3 (And.intro h3 (And.intro (F56_ok (m + 5) (z381) (z382) (z383) (z384) (z385) (z386) (z387) (z388) (z389) (z390) (z391) (z392) (z393) (z394) b1269 h4) (And.intro h3 (And.intro h5 (And.intro h5 (And.intro h5 (And.intro h6 (And.intro h5 (And.intro h7 (And.intro h7 (And.intro h7 (And.intro h8 (And.intro h7 (And.intro h9 (And.intro h9 (And.intro h9 (And.intro h10 (And.intro h9 (And.intro (Bool.eq_false_iff.mpr h11) (And.intro (Bool.eq_false_iff.mpr h11) (And.intro (Bool.eq_false_iff.mpr h11) (And.intro (Bool.eq_false_iff.mpr h11) True.intro)))))))))))))))))))))))))))))))))))
                  · skip
                    cases h
                    exact call_pathL (gs := [.a, .an (vb b1079) [], .t, .t, .a, .t, .t, .f, .f, .a, .f, .t, .f, .t, .t, .t, .a, .t, .an (vb b1269) [], .t, .t, .t, .a, .t, .an (vb b1270) [], .t, .t, .t, .a, .t, .an (vb b1271) [], .t, .f, .f, .f, .f, .a, .a, .a, .a, .a, .a, .a, .a, .a, .a, .a, .a, .a, .a]) (notIn []) rfl rfl (by kernel_rfl) (And.intro h0 (And.intro h1 (And.intro h1 (And.intro h1 (And.intro h1 (And.intro (Bool.eq_false_iff.mpr h2) (And.intro (Bool.eq_false_iff.mpr h2) (And.intro (Bool.eq_false_iff.mpr h2) (And.intro h1 (And.intro (Bool.eq_false_iff.mpr h2) (And.intro h1 (And.intro h3 (And.intro h3 (And.intro h3 (And.intro (F56_ok (m + 5) (z381) (z382) (z383) (z384) (z385) (z386) (z387) (z388) (z389) (z390) (z391) (z392) (z393) (z394) b1269 h4) (And.intro h3 (And.intro h5 (And.intro h5 (And.intro h5 (And.intro h6 (And.intro h5 (And.intro h7 (And.intro h7 (And.intro h7 (And.intro h8 (And.intro h7 (And.intro (Bool.eq_false_iff.mpr h9) (And.intro (Bool.eq_false_iff.mpr h9) (And.intro (Bool.eq_false_iff.mpr h9) (And.intro (Bool.eq_false_iff.mpr h9) True.intro))))))))))))))))))))))))))))))
              · skip
                cases h
                exact call_pathL (gs := [.a, .an (vb b1079) [], .t, .t, .a, .t, .t, .f, .f, .a, .f, .t, .f, .t, .t, .t, .a, .t, .an (vb b1269) [], .t, .t, .t, .a, .t, .an (vb b1270) [], .t, .f, .f, .f, .f, .a, .a, .a, .a, .a, .a, .a, .a, .a, .a, .a, .a, .a, .a, .a, .a, .a, .a]) (notIn []) rfl rfl (by kernel_rfl) (And.intro h0 (And.intro h1 (And.intro h1 (And.intro h1 (And.intro h1 (And.intro (Bool.eq_false_iff.mpr h2) (And.intro (Bool.eq_false_iff.mpr h2) (And.intro (Bool.eq_false_iff.mpr h2) (And.intro h1 (And.intro (Bool.eq_false_iff.mpr h2) (And.intro h1 (And.intro h3 (And.intro h3 (And.intro h3 (And.intro (F56_ok (m + 5) (z381) (z382) (z383) (z384) (z385) (z386) (z387) (z388) (z389) (z390) (z391) (z392) (z393) (z394) b1269 h4) (And.intro h3 (And.intro h5 (And.intro h5 (And.intro h5 (And.intro h6 (And.intro h5 (And.intro (Bool.eq_false_iff.mpr h7) (And.intro (Bool.eq_false_iff.mpr h7) (And.intro (Bool.eq_false_iff.mpr h7) (And.intro (Bool.eq_false_iff.mpr h7) True.intro)))))))))))))))))))))))))
          · skip
            cases h
            exact call_pathL (gs := [.a, .an (vb b1079) [], .t, .t, .a, .t, .t, .f, .f, .a, .f, .t, .f, .t, .t, .t, .a, .t, .an (vb b1269) [], .t, .f, .f, .f, .f, .a, .a, .a, .a, .a, .a, .a, .a, .a, .a, .a, .a, .a, .a, .a, .a, .a, .a, .a, .a, .a, .a]) (notIn []) rfl rfl (by kernel_rfl) (And.intro h0 (And.intro h1 (And.intro h1 (And.intro h1 (And.intro h1 (And.intro (Bool.eq_false_iff.mpr h2) (And.intro (Bool.eq_false_iff.mpr h2) (And.intro (Bool.eq_false_iff.mpr h2) (And.intro h1 (And.intro (Bool.eq_false_iff.mpr h2) (And.intro h1 (And.intro h3 (And.intro h3 (And.intro h3 (And.intro (F56_ok (m + 5) (z381) (z382) (z383) (z384) (z385) (z386) (z387) (z388) (z389) (z390) (z391) (z392) (z393) (z394) b1269 h4) (And.intro h3 (And.intro (Bool.eq_false_iff.mpr h5) (And.intro (Bool.eq_false_iff.mpr h5) (And.intro (Bool.eq_false_iff.mpr h5) (And.intro (Bool.eq_false_iff.mpr h5) True.intro))))))))))))))))))))
        · skip
          cases h
          exact call_pathL (gs := [.a, .an (vb b1079) [], .t, .t, .a, .t, .t, .f, .f, .a, .f, .t, .f, .t, .f, .f, .f, .f, .a, .a, .a, .a, .a, .a, .a, .a, .a, .a, .a, .a, .a, .a, .a, .a, .a, .a, .a, .a, .a, .a, .a, .a, .a, .a]) (notIn []) rfl rfl (by kernel_rfl) (And.intro h0 (And.intro h1 (And.intro h1 (And.intro h1 (And.intro h1 (And.intro (Bool.eq_false_iff.mpr h2) (And.intro (Bool.eq_false_iff.mpr h2) (And.intro (Bool.eq_false_iff.mpr h2) (And.intro h1 (And.intro (Bool.eq_false_iff.mpr h2) (And.intro h1 (And.intro (Bool.eq_false_iff.mpr h3) (And.intro (Bool.eq_false_iff.mpr h3) (And.intro (Bool.eq_false_iff.mpr h3) (And.intro (Bool.eq_false_iff.mpr h3) True.intro)))))))))))))))
    · skip
      cases h
      exact call_pathL (gs := [.a, .an (vb b1079) [], .f, .f, .f, .f, .f, .f, .a, .a, .a, .a, .a, .a, .a, .a, .a, .a, .a, .a, .a, .a, .a, .a, .a, .a, .a, .a, .a, .a, .a, .a, .a, .a, .a, .a, .a, .a]) (notIn []) rfl rfl (by kernel_rfl) (And.intro h0 (And.intro (Bool.eq_false_iff.mpr h1) (And.intro (Bool.eq_false_iff.mpr h1) (And.intro (Bool.eq_false_iff.mpr h1) (And.intro (Bool.eq_false_iff.mpr h1) (And.intro (Bool.eq_false_iff.mpr h1) (And.intro (Bool.eq_false_iff.mpr h1) True.intro)))))))
/-! ## 21 -/
inductive A21 where
  | a0 (b1278 : Bool)
@[reducible] def A21.out : A21 → V × Store
  | .a0 b1278 => (vb b1278, [])
def F21 : Option A21 :=
  (F18 (131072) (131072)).bind fun r => match r with
  | .a0 b364 k365 l366 =>
   if ((↑k365 : Int) == 13) = true then
    if (b364) = true then
     if (0 : Int) ≤ (0 : Int) ∧ (0 : Int) < (↑k365 : Int) then
      ((l366[(0 : Nat)]?).bind W44.dec).bind fun e367 =>
      if (e367.c0 == -65536 && (e367.c1 == -65536 && true)) = true then
       (F20 (99) (5) (6)).bind fun r => match r with
       | .a0 b368 k369 l370 =>
        if ((↑k369 : Int) == 97) = true then
         (F19 (1) (1)).bind fun r => match r with
         | .a0 b371 k372 l373 =>
          if ((↑k372 : Int) == 13) = true then
           (F27 (0) (0) ([]) ([]) ([]) (false) (0) (0) (0) (0) (0) (0) (0) (0) (0) (0) (0) (0) (0) (0) (0) ([]) (false) ([]) (0) (0) (0) (0) (0) ([]) ([]) ([])).bind fun r => match r with
           | .a0 b1276 =>
            if (b1276) = true then
             (F27 (4) (0) ([]) ([]) ([]) (false) (0) (0) (0) (0) (0) (0) (0) (0) (0) (0) (0) (0) (0) (0) (0) ([]) (false) ([]) (0) (0) (0) (0) (0) ([]) ([]) ([])).bind fun r => match r with
             | .a0 b1277 =>
              some (A21.a0 (!b1277))
            else
             some (A21.a0 (false))
          else
           some (A21.a0 (false))
        else
         some (A21.a0 (false))
      else
       some (A21.a0 (false))
     else
      none -- none
    else
     some (A21.a0 (false))
   else
    some (A21.a0 (false))
theorem F21_ok (m : Nat) (r : A21) (h : F21 = some r) : call Try.prog X O0 18446744073709551616 (m + 9) 21 ([]) ([]) = some r.out := by
  unfold F21 at h
  obtain ⟨r0, h0, h⟩ := Option.bind_eq_some_iff.mp h
  have h0 := F18_ok (m + 6) (131072) (131072) r0 h0
  cases r0 with
  | a0 b364 k365 l366 =>
    rcases ite_eq h with ⟨h1, h⟩ | ⟨h1, h⟩
    · skip
      rcases ite_eq h with ⟨h2, h⟩ | ⟨h2, h⟩
      · skip
        rcases ite_eq h with ⟨h3, h⟩ | ⟨h3, h⟩
        · skip
          obtain ⟨e367, h4, h⟩ := Option.bind_eq_some_iff.mp h
          rcases ite_eq h with ⟨h5, h⟩ | ⟨h5, h⟩
          · skip
            obtain ⟨r6, h6, h⟩ := Option.bind_eq_some_iff.mp h
            have h6 := F20_ok (m + 3) (99) (5) (6) r6 h6
            cases r6 with
            | a0 b368 k369 l370 =>
              rcases ite_eq h with ⟨h7, h⟩ | ⟨h7, h⟩
              · skip
                obtain ⟨r8, h8, h⟩ := Option.bind_eq_some_iff.mp h
                have h8 := F19_ok (m + 4) (1) (1) r8 h8
                cases r8 with
                | a0 b371 k372 l373 =>
                  rcases ite_eq h with ⟨h9, h⟩ | ⟨h9, h⟩
                  · skip
                    obtain ⟨r10, h10, h⟩ := Option.bind_eq_some_iff.mp h
                    have h10 := F27_ok (m + 0) (0) (0) ([]) ([]) ([]) (false) (0) (0) (0) (0) (0) (0) (0) (0) (0) (0) (0) (0) (0) (0) (0) ([]) (false) ([]) (0) (0) (0) (0) (0) ([]) ([]) ([]) r10 h10
                    cases r10 with
                    | a0 b1276 =>
                      rcases ite_eq h with ⟨h11, h⟩ | ⟨h11, h⟩
                      · skip
                        obtain ⟨r12, h12, h⟩ := Option.bind_eq_some_iff.mp h
                        have h12 := F27_ok (m + 0) (4) (0) ([]) ([]) ([]) (false) (0) (0) (0) (0) (0) (0) (0) (0) (0) (0) (0) (0) (0) (0) (0) ([]) (false) ([]) (0) (0) (0) (0) (0) ([]) ([]) ([]) r12 h12
                        cases r12 with
                        | a0 b1277 =>
                          cases h
                          exact call_pathL (gs := [.an (V.agg [vb b364, V.hs 0 0 k365]) [Ob.cells true true 2 l366], .a, .a, .t, .t, .a, .t, .t, .t, .a, .t, .t, .t, .el (W44.cells e367), .t, .t, .t, .t, .an (V.agg [vb b368, V.hs 0 0 k369]) [Ob.cells true true 2 l370], .t, .t, .t, .t, .t, .an (V.agg [vb b371, V.hs 0 0 k372]) [Ob.cells true true 2 l373], .t, .t, .t, .t, .t, .t, .an (vb b1276) [], .t, .t, .t, .an (vb b1277) [], .t, .t]) (notIn []) rfl rfl (by kernel_rfl) (And.intro h0 (And.intro h1 (And.intro h1 (And.intro h1 (And.intro h2 (And.intro h2 (And.intro h2 (And.intro (decide_eq_true h3) (And.intro h2 (And.intro (W44.dec_ok h4) (And.intro h2 (And.intro h2 (And.intro h2 (And.intro h5 (And.intro h6 (And.intro h5 (And.intro h5 (And.intro h5 (And.intro h5 (And.intro h7 (And.intro h8 (And.intro h7 (And.intro h7 (And.intro h7 (And.intro h7 (And.intro h9 (And.intro h9 (And.intro h10 (And.intro h9 (And.intro h11 (And.intro h11 (And.intro h12 (And.intro h11 (And.intro h11 True.intro))))))))))))))))))))))))))))))))))
                      · skip
                        cases h
                        exact call_pathL (gs := [.an (V.agg [vb b364, V.hs 0 0 k365]) [Ob.cells true true 2 l366], .a, .a, .t, .t, .a, .t, .t, .t, .a, .t, .t, .t, .el (W44.cells e367), .t, .t, .t, .t, .an (V.agg [vb b368, V.hs 0 0 k369]) [Ob.cells true true 2 l370], .t, .t, .t, .t, .t, .an (V.agg [vb b371, V.hs 0 0 k372]) [Ob.cells true true 2 l373], .t, .t, .t, .t, .t, .t, .an (vb b1276) [], .t, .f, .f, .f, .f]) (notIn []) rfl rfl (by kernel_rfl) (And.intro h0 (And.intro h1 (And.intro h1 (And.intro h1 (And.intro h2 (And.intro h2 (And.intro h2 (And.intro (decide_eq_true h3) (And.intro h2 (And.intro (W44.dec_ok h4) (And.intro h2 (And.intro h2 (And.intro h2 (And.intro h5 (And.intro h6 (And.intro h5 (And.intro h5 (And.intro h5 (And.intro h5 (And.intro h7 (And.intro h8 (And.intro h7 (And.intro h7 (And.intro h7 (And.intro h7 (And.intro h9 (And.intro h9 (And.intro h10 (And.intro h9 (And.intro (Bool.eq_false_iff.mpr h11) (And.intro (Bool.eq_false_iff.mpr h11) (And.intro (Bool.eq_false_iff.mpr h11) (And.intro (Bool.eq_false_iff.mpr h11) True.intro)))))))))))))))))))))))))))))))))
                  · skip
                    cases h
                    exact call_pathL (gs := [.an (V.agg [vb b364, V.hs 0 0 k365]) [Ob.cells true true 2 l366], .a, .a, .t, .t, .a, .t, .t, .t, .a, .t, .t, .t, .el (W44.cells e367), .t, .t, .t, .t, .an (V.agg [vb b368, V.hs 0 0 k369]) [Ob.cells true true 2 l370], .t, .t, .t, .t, .t, .an (V.agg [vb b371, V.hs 0 0 k372]) [Ob.cells true true 2 l373], .t, .t, .t, .t, .f, .f, .f, .a, .a, .a, .a]) (notIn []) rfl rfl (by kernel_rfl) (And.intro h0 (And.intro h1 (And.intro h1 (And.intro h1 (And.intro h2 (And.intro h2 (And.intro h2 (And.intro (decide_eq_true h3) (And.intro h2 (And.intro (W44.dec_ok h4) (And.intro h2 (And.intro h2 (And.intro h2 (And.intro h5 (And.intro h6 (And.intro h5 (And.intro h5 (And.intro h5 (And.intro h5 (And.intro h7 (And.intro h8 (And.intro h7 (And.intro h7 (And.intro h7 (And.intro h7 (And.intro (Bool.eq_false_iff.mpr h9) (And.intro (Bool.eq_false_iff.mpr h9) (And.intro (Bool.eq_false_iff.mpr h9) True.intro))))))))))))))))))))))))))))
              · skip
                cases h
                exact call_pathL (gs := [.an (V.agg [vb b364, V.hs 0 0 k365]) [Ob.cells true true 2 l366], .a, .a, .t, .t, .a, .t, .t, .t, .a, .t, .t, .t, .el (W44.cells e367), .t, .t, .t, .t, .an (V.agg [vb b368, V.hs 0 0 k369]) [Ob.cells true true 2 l370], .t, .t, .t, .t, .f, .f, .f, .f, .f, .a, .a, .a, .a, .a, .a, .a]) (notIn []) rfl rfl (by kernel_rfl) (And.intro h0 (And.intro h1 (And.intro h1 (And.intro h1 (And.intro h2 (And.intro h2 (And.intro h2 (And.intro (decide_eq_true h3) (And.intro h2 (And.intro (W44.dec_ok h4) (And.intro h2 (And.intro h2 (And.intro h2 (And.intro h5 (And.intro h6 (And.intro h5 (And.intro h5 (And.intro h5 (And.intro h5 (And.intro (Bool.eq_false_iff.mpr h7) (And.intro (Bool.eq_false_iff.mpr h7) (And.intro (Bool.eq_false_iff.mpr h7) (And.intro (Bool.eq_false_iff.mpr h7) (And.intro (Bool.eq_false_iff.mpr h7) True.intro))))))))))))))))))))))))
          · skip
            cases h
            exact call_pathL (gs := [.an (V.agg [vb b364, V.hs 0 0 k365]) [Ob.cells true true 2 l366], .a, .a, .t, .t, .a, .t, .t, .t, .a, .t, .t, .t, .el (W44.cells e367), .t, .t, .t, .f, .f, .f, .f, .f, .a, .a, .a, .a, .a, .a, .a, .a, .a, .a, .a, .a]) (notIn []) rfl rfl (by kernel_rfl) (And.intro h0 (And.intro h1 (And.intro h1 (And.intro h1 (And.intro h2 (And.intro h2 (And.intro h2 (And.intro (decide_eq_true h3) (And.intro h2 (And.intro (W44.dec_ok h4) (And.intro h2 (And.intro h2 (And.intro h2 (And.intro (Bool.eq_false_iff.mpr h5) (And.intro (Bool.eq_false_iff.mpr h5) (And.intro (Bool.eq_false_iff.mpr h5) (And.intro (Bool.eq_false_iff.mpr h5) (And.intro (Bool.eq_false_iff.mpr h5) True.intro))))))))))))))))))
        · skip
          cases h
      · skip
        cases h
        exact call_pathL (gs := [.an (V.agg [vb b364, V.hs 0 0 k365]) [Ob.cells true true 2 l366], .a, .a, .t, .t, .a, .t, .f, .f, .f, .f, .f, .f, .f, .a, .a, .a, .a, .a, .a, .a, .a, .a, .a, .a, .a, .a, .a, .a, .a, .a]) (notIn []) rfl rfl (by kernel_rfl) (And.intro h0 (And.intro h1 (And.intro h1 (And.intro h1 (And.intro (Bool.eq_false_iff.mpr h2) (And.intro (Bool.eq_false_iff.mpr h2) (And.intro (Bool.eq_false_iff.mpr h2) (And.intro (Bool.eq_false_iff.mpr h2) (And.intro (Bool.eq_false_iff.mpr h2) (And.intro (Bool.eq_false_iff.mpr h2) (And.intro (Bool.eq_false_iff.mpr h2) True.intro)))))))))))
    · skip
      cases h
      exact call_pathL (gs := [.an (V.agg [vb b364, V.hs 0 0 k365]) [Ob.cells true true 2 l366], .a, .a, .f, .f, .f, .a, .a, .a, .a, .a, .a, .a, .a, .a, .a, .a, .a, .a, .a, .a, .a, .a, .a, .a, .a, .a, .a, .a, .a]) (notIn []) rfl rfl (by kernel_rfl) (And.intro h0 (And.intro (Bool.eq_false_iff.mpr h1) (And.intro (Bool.eq_false_iff.mpr h1) (And.intro (Bool.eq_false_iff.mpr h1) True.intro))))
/-! ## 5 -/
noncomputable abbrev B5 : Code := (Try.f5.body).getD .skip
inductive R5_0 where
  | e0
  | e1
  | e2
@[reducible] def s5_0_0 (z1300 : Int) (z1301 : Int) (z1302 : Int) (z1303 : Int) (z1304 : Int) (z1305 : Int) (z1306 : Int) (b1307 : Bool) (k1308 : Nat) (z1309 : Int) (k1310 : Nat) (z1311 : Int) (z1312 : Int) (z1313 : Int) (k1314 : Nat) (z1315 : Int) (z1316 : Int) (z1317 : Int) (z1318 : Int) (z1319 : Int) (z1320 : Int) (z1321 : Int) (z1322 : Int) (b1323 : Bool) (b1324 : Bool) (l1325 : List (List V)) (l1326 : List (List V)) : S := { T := un 6 (vb false :: i64 z1300 :: i64 z1301 :: U :: U :: i64 z1302 :: V.ptr 0 0 0 :: i64 z1303 :: V.ptr 2 0 0 :: i64 z1304 :: i64 z1305 :: un 118 [i64 z1303, i64 z1302, i64 z1306, vb b1307, U, U, V.ptr 0 0 1, V.hs 1 0 k1308, i64 z1303, i64 z1309, V.ptr 1 k1310 0, V.agg [i64 z1311, i64 z1312], i64 z1300, i64 z1301, V.hs 3 0 2, i64 z1303, i64 z1313, V.ptr 3 k1314 0, i64 z1304, V.ptr 2 0 0, i64 z1311, V.ptr 2 0 0, i64 z1311, i64 z1315, V.ptr 2 0 1, i64 z1312, V.ptr 2 0 1, i64 z1312, i64 z1316, i64 z1317, i64 z1305, i64 z1305, i64 z1304, i64 z1304, i64 z1318, i64 z1319, i64 z1320, i64 z1321, i64 z1322, vb b1323, vb b1323, E, E, E, E, E, E, E, E, E, vb true, U]), σ := [Ob.cells true false 2 [[vb b1324, V.hs 1 0 k1308]], Ob.cells true true 2 l1325, Ob.cells true false 2 [[i64 z1311, i64 z1312]], Ob.cells true true 1 l1326] }
@[reducible] def s5_0_1 (z1327 : Int) (z1328 : Int) (z1329 : Int) (z1330 : Int) (z1331 : Int) (z1332 : Int) (z1333 : Int) (b1334 : Bool) (k1335 : Nat) (z1336 : Int) (k1337 : Nat) (z1338 : Int) (z1339 : Int) (z1340 : Int) (k1341 : Nat) (z1342 : Int) (z1343 : Int) (z1344 : Int) (z1345 : Int) (z1346 : Int) (z1347 : Int) (z1348 : Int) (z1349 : Int) (b1350 : Bool) (z1351 : Int) (z1352 : Int) (z1353 : Int) (b1354 : Bool) (b1355 : Bool) (l1356 : List (List V)) (l1357 : List (List V)) : S := { T := un 6 (vb false :: i64 z1327 :: i64 z1328 :: U :: U :: i64 z1329 :: V.ptr 0 0 0 :: i64 z1330 :: V.ptr 2 0 0 :: i64 z1331 :: i64 z1332 :: un 118 [i64 z1330, i64 z1329, i64 z1333, vb b1334, U, U, V.ptr 0 0 1, V.hs 1 0 k1335, i64 z1330, i64 z1336, V.ptr 1 k1337 0, V.agg [i64 z1338, i64 z1339], i64 z1327, i64 z1328, V.hs 3 0 2, i64 z1330, i64 z1340, V.ptr 3 k1341 0, i64 z1331, V.ptr 2 0 0, i64 z1338, V.ptr 2 0 0, i64 z1338, i64 z1342, V.ptr 2 0 1, i64 z1339, V.ptr 2 0 1, i64 z1339, i64 z1343, i64 z1344, i64 z1332, i64 z1332, i64 z1331, i64 z1331, i64 z1345, i64 z1346, i64 z1347, i64 z1348, i64 z1349, vb b1350, vb b1350, i64 z1332, i64 z1331, i64 z1331, i64 z1345, i64 z1346, i64 z1351, i64 z1352, i64 z1353, vb b1354, vb b1354, U]), σ := [Ob.cells true false 2 [[vb b1355, V.hs 1 0 k1335]], Ob.cells true true 2 l1356, Ob.cells true false 2 [[i64 z1338, i64 z1339]], Ob.cells true true 1 l1357] }
@[reducible] def s5_0_2 (z1358 : Int) (z1359 : Int) (z1360 : Int) (z1361 : Int) (z1362 : Int) (b1363 : Bool) (b1364 : Bool) (k1365 : Nat) (l1366 : List (List V)) : S := { T := un 7 (i64 z1358 :: i64 z1359 :: U :: U :: i64 z1360 :: V.ptr 0 0 0 :: i64 z1361 :: un 121 (i64 z1361 :: i64 z1360 :: i64 z1362 :: vb b1363 :: un 48 [])), σ := [Ob.cells true false 2 [[vb b1364, V.hs 1 0 k1365]], Ob.cells true true 2 l1366] }
def R5_0.St : R5_0 → VX × S → Prop
  | .e0, p => ∃ z1300 : Int, ∃ z1301 : Int, ∃ z1302 : Int, ∃ z1303 : Int, ∃ z1304 : Int, ∃ z1305 : Int, ∃ z1306 : Int, ∃ b1307 : Bool, ∃ k1308 : Nat, ∃ z1309 : Int, ∃ k1310 : Nat, ∃ z1311 : Int, ∃ z1312 : Int, ∃ z1313 : Int, ∃ k1314 : Nat, ∃ z1315 : Int, ∃ z1316 : Int, ∃ z1317 : Int, ∃ z1318 : Int, ∃ z1319 : Int, ∃ z1320 : Int, ∃ z1321 : Int, ∃ z1322 : Int, ∃ b1323 : Bool, ∃ b1324 : Bool, ∃ l1325 : List (List V), ∃ l1326 : List (List V), p = (VX.ret, s5_0_0 z1300 z1301 z1302 z1303 z1304 z1305 z1306 b1307 k1308 z1309 k1310 z1311 z1312 z1313 k1314 z1315 z1316 z1317 z1318 z1319 z1320 z1321 z1322 b1323 b1324 l1325 l1326)
  | .e1, p => ∃ z1327 : Int, ∃ z1328 : Int, ∃ z1329 : Int, ∃ z1330 : Int, ∃ z1331 : Int, ∃ z1332 : Int, ∃ z1333 : Int, ∃ b1334 : Bool, ∃ k1335 : Nat, ∃ z1336 : Int, ∃ k1337 : Nat, ∃ z1338 : Int, ∃ z1339 : Int, ∃ z1340 : Int, ∃ k1341 : Nat, ∃ z1342 : Int, ∃ z1343 : Int, ∃ z1344 : Int, ∃ z1345 : Int, ∃ z1346 : Int, ∃ z1347 : Int, ∃ z1348 : Int, ∃ z1349 : Int, ∃ b1350 : Bool, ∃ z1351 : Int, ∃ z1352 : Int, ∃ z1353 : Int, ∃ b1354 : Bool, ∃ b1355 : Bool, ∃ l1356 : List (List V), ∃ l1357 : List (List V), p = (VX.ret, s5_0_1 z1327 z1328 z1329 z1330 z1331 z1332 z1333 b1334 k1335 z1336 k1337 z1338 z1339 z1340 k1341 z1342 z1343 z1344 z1345 z1346 z1347 z1348 z1349 b1350 z1351 z1352 z1353 b1354 b1355 l1356 l1357)
  | .e2, p => ∃ z1358 : Int, ∃ z1359 : Int, ∃ z1360 : Int, ∃ z1361 : Int, ∃ z1362 : Int, ∃ b1363 : Bool, ∃ b1364 : Bool, ∃ k1365 : Nat, ∃ l1366 : List (List V), p = (VX.exit 0, s5_0_2 z1358 z1359 z1360 z1361 z1362 b1363 b1364 k1365 l1366)
def L5_0 : Nat → Int → Int → Int → Int → Bool → Nat → List (List V) → Option R5_0
  | 0, _, _, _, _, _, _, _ => none
  | n + 1, z294, z295, z296, z297, b298, k299, l300 =>
    if z297 < w64 (2 * z296) then
     if 0 ≤ w64 (3 * z297) ∧ w64 (3 * z297) < (↑k299 : Int) then
      ((l300[(0 : Nat) + Int.toNat (w64 ((3 : Int) * z297))]?).bind W44.dec).bind fun e1298 =>
      if 0 ≤ Int.tmod z297 2 ∧ Int.tmod z297 2 < 2 then
       (([[i64 z294], [i64 z295]][(0 : Nat) + Int.toNat (Int.tmod z297 (2 : Int))]?).bind W2.dec).bind fun e1299 =>
       if Int.fdiv (w64 (w64 (e1298.c0 * e1298.c0) + w64 (e1298.c1 * e1298.c1))) 65536 > w64 (w64 (Int.tdiv (w64 (Int.fdiv (w64 (e1299.c0 * e1299.c0)) 65536 * 102)) 100) + 4194304) then
        some (R5_0.e0)
       else
        if Int.fdiv (w64 (w64 (e1298.c0 * e1298.c0) + w64 (e1298.c1 * e1298.c1))) 65536 < w64 (w64 (Int.tdiv (w64 (Int.fdiv (w64 (e1299.c0 * e1299.c0)) 65536 * 98)) 100) - 4194304) then
         some (R5_0.e1)
        else
         L5_0 n (z294) (z295) (z296) (w64 (z297 + 1)) (b298) (k299) (l300)
      else
       none -- none
     else
      none -- none
    else
     some (R5_0.e2)
theorem L5_0_ok (m : Nat) : ∀ (n : Nat) (z294 : Int) (z295 : Int) (z296 : Int) (z297 : Int) (b298 : Bool) (k299 : Nat) (l300 : List (List V)) (r : R5_0), L5_0 n z294 z295 z296 z297 b298 k299 l300 = some r → ∃ st, loopFrom Try.prog X (genO X (call Try.prog X O0 18446744073709551616 (m + 9))) 5 (0) 18446744073709551616 B5 0 n ({ T := un 7 (i64 z294 :: i64 z295 :: U :: U :: i64 z296 :: V.ptr 0 0 0 :: i64 z297 :: un 173 []), σ := [Ob.cells true false 2 [[vb b298, V.hs 1 0 k299]], Ob.cells true true 2 l300] }) = some st ∧ r.St st
  | 0, _, _, _, _, _, _, _, r, h => by cases h
  | n + 1, z294, z295, z296, z297, b298, k299, l300, r, h => by
    rw [L5_0] at h
    rcases ite_eq h with ⟨h0, h⟩ | ⟨h0, h⟩
    · skip
      rcases ite_eq h with ⟨h1, h⟩ | ⟨h1, h⟩
      · skip
        obtain ⟨e1298, h2, h⟩ := Option.bind_eq_some_iff.mp h
        rcases ite_eq h with ⟨h3, h⟩ | ⟨h3, h⟩
        · skip
          obtain ⟨e1299, h4, h⟩ := Option.bind_eq_some_iff.mp h
          rcases ite_eq h with ⟨h5, h⟩ | ⟨h5, h⟩
          · skip
            cases h
            exact ⟨_, round_out (gs := [.t, .a, .t, .el (W44.cells e1298), .a, .a, .t, .el (W2.cells e1299), .a, .a, .a, .a, .a, .a, .a, .t, .t, .t, .t, .t, .t, .t, .t, .t, .t, .a]) (notIn []) (by kernel_rfl) rfl (And.intro (decide_eq_true h0) (And.intro (decide_eq_true h1) (And.intro (W44.dec_ok h2) (And.intro (decide_eq_true h3) (And.intro (W2.dec_ok h4) (And.intro (decide_eq_true h5) (And.intro (decide_eq_true h5) (And.intro (decide_eq_true h5) (And.intro (decide_eq_true h5) (And.intro (decide_eq_true h5) (And.intro (decide_eq_true h5) (And.intro (decide_eq_true h5) (And.intro (decide_eq_true h5) (And.intro (decide_eq_true h5) (And.intro (decide_eq_true h5) True.intro))))))))))))))) n, z294, z295, z296, z297, e1299.c0, Int.fdiv (w64 (w64 (e1298.c0 * e1298.c0) + w64 (e1298.c1 * e1298.c1))) 65536, w64 (2 * z296), decide (z297 < w64 (2 * z296)), k299, w64 (3 * z297), 0 + Int.toNat (w64 (3 * z297)), e1298.c0, e1298.c1, Int.tmod z297 2, 0 + Int.toNat (Int.tmod z297 2), w64 (e1298.c0 * e1298.c0), w64 (e1298.c1 * e1298.c1), w64 (w64 (e1298.c0 * e1298.c0) + w64 (e1298.c1 * e1298.c1)), w64 (e1299.c0 * e1299.c0), Int.fdiv (w64 (e1299.c0 * e1299.c0)) 65536, w64 (Int.fdiv (w64 (e1299.c0 * e1299.c0)) 65536 * 102), w64 (Int.tdiv (w64 (Int.fdiv (w64 (e1299.c0 * e1299.c0)) 65536 * 102)) 100), w64 (w64 (Int.tdiv (w64 (Int.fdiv (w64 (e1299.c0 * e1299.c0)) 65536 * 102)) 100) + 4194304), decide (Int.fdiv (w64 (w64 (e1298.c0 * e1298.c0) + w64 (e1298.c1 * e1298.c1))) 65536 > w64 (w64 (Int.tdiv (w64 (Int.fdiv (w64 (e1299.c0 * e1299.c0)) 65536 * 102)) 100) + 4194304)), b298, l300, [[i64 z294], [i64 z295]], rfl⟩
          · skip
            rcases ite_eq h with ⟨h6, h⟩ | ⟨h6, h⟩
            · skip
              cases h
              exact ⟨_, round_out (gs := [.t, .a, .t, .el (W44.cells e1298), .a, .a, .t, .el (W2.cells e1299), .a, .a, .a, .a, .a, .a, .a, .f, .f, .f, .f, .f, .a, .f, .f, .a, .f, .f, .f, .t]) (notIn []) (by kernel_rfl) rfl (And.intro (decide_eq_true h0) (And.intro (decide_eq_true h1) (And.intro (W44.dec_ok h2) (And.intro (decide_eq_true h3) (And.intro (W2.dec_ok h4) (And.intro (decide_eq_false h5) (And.intro (decide_eq_false h5) (And.intro (decide_eq_false h5) (And.intro (decide_eq_false h5) (And.intro (decide_eq_false h5) (And.intro (decide_eq_false h5) (And.intro (decide_eq_false h5) (And.intro (decide_eq_false h5) (And.intro (decide_eq_false h5) (And.intro (decide_eq_false h5) (And.intro (decide_eq_true h6) True.intro)))))))))))))))) n, z294, z295, z296, z297, e1299.c0, Int.fdiv (w64 (w64 (e1298.c0 * e1298.c0) + w64 (e1298.c1 * e1298.c1))) 65536, w64 (2 * z296), decide (z297 < w64 (2 * z296)), k299, w64 (3 * z297), 0 + Int.toNat (w64 (3 * z297)), e1298.c0, e1298.c1, Int.tmod z297 2, 0 + Int.toNat (Int.tmod z297 2), w64 (e1298.c0 * e1298.c0), w64 (e1298.c1 * e1298.c1), w64 (w64 (e1298.c0 * e1298.c0) + w64 (e1298.c1 * e1298.c1)), w64 (e1299.c0 * e1299.c0), Int.fdiv (w64 (e1299.c0 * e1299.c0)) 65536, w64 (Int.fdiv (w64 (e1299.c0 * e1299.c0)) 65536 * 102), w64 (Int.tdiv (w64 (Int.fdiv (w64 (e1299.c0 * e1299.c0)) 65536 * 102)) 100), w64 (w64 (Int.tdiv (w64 (Int.fdiv (w64 (e1299.c0 * e1299.c0)) 65536 * 102)) 100) + 4194304), decide (Int.fdiv (w64 (w64 (e1298.c0 * e1298.c0) + w64 (e1298.c1 * e1298.c1))) 65536 > w64 (w64 (Int.tdiv (w64 (Int.fdiv (w64 (e1299.c0 * e1299.c0)) 65536 * 102)) 100) + 4194304)), w64 (Int.fdiv (w64 (e1299.c0 * e1299.c0)) 65536 * 98), w64 (Int.tdiv (w64 (Int.fdiv (w64 (e1299.c0 * e1299.c0)) 65536 * 98)) 100), w64 (w64 (Int.tdiv (w64 (Int.fdiv (w64 (e1299.c0 * e1299.c0)) 65536 * 98)) 100) - 4194304), decide (Int.fdiv (w64 (w64 (e1298.c0 * e1298.c0) + w64 (e1298.c1 * e1298.c1))) 65536 < w64 (w64 (Int.tdiv (w64 (Int.fdiv (w64 (e1299.c0 * e1299.c0)) 65536 * 98)) 100) - 4194304)), b298, l300, [[i64 z294], [i64 z295]], rfl⟩
            · skip
              obtain ⟨st, hs, hr⟩ := L5_0_ok m n (z294) (z295) (z296) (w64 (z297 + 1)) (b298) (k299) (l300) r h
              exact ⟨st, (round_on (gs := [.t, .a, .t, .el (W44.cells e1298), .a, .a, .t, .el (W2.cells e1299), .a, .a, .a, .a, .a, .a, .a, .f, .f, .f, .f, .f, .a, .f, .f, .a, .f, .f, .f, .f]) (notIn []) (by kernel_rfl) (And.intro (decide_eq_true h0) (And.intro (decide_eq_true h1) (And.intro (W44.dec_ok h2) (And.intro (decide_eq_true h3) (And.intro (W2.dec_ok h4) (And.intro (decide_eq_false h5) (And.intro (decide_eq_false h5) (And.intro (decide_eq_false h5) (And.intro (decide_eq_false h5) (And.intro (decide_eq_false h5) (And.intro (decide_eq_false h5) (And.intro (decide_eq_false h5) (And.intro (decide_eq_false h5) (And.intro (decide_eq_false h5) (And.intro (decide_eq_false h5) (And.intro (decide_eq_false h6) True.intro)))))))))))))))) n).trans hs, hr⟩
        · skip
          cases h
      · skip
        cases h
    · skip
      cases h
      exact ⟨_, round_out (gs := [.f]) (notIn []) (by kernel_rfl) rfl (And.intro (decide_eq_false h0) True.intro) n, z294, z295, z296, z297, w64 (2 * z296), decide (z297 < w64 (2 * z296)), b298, k299, l300, rfl⟩
inductive A5 where
  | a0 (b1435 : Bool)
@[reducible] def A5.out : A5 → V × Store
  | .a0 b1435 => (vb b1435, [])
def F5 (z0 : Int) (z1 : Int) (z2 : Int) : Option A5 :=
  (F18 (w64 (↑(BitVec.toNat (BitVec.ofInt (IntKind.bits IntKind.i64) z0 &&& BitVec.ofInt (IntKind.bits IntKind.i64) 4194303)) : Int)) (w64 (↑(BitVec.toNat (BitVec.ofInt (IntKind.bits IntKind.i64) z1 &&& BitVec.ofInt (IntKind.bits IntKind.i64) 4194303)) : Int))).bind fun r => match r with
  | .a0 b1281 k1282 l1283 =>
   (F19 (w64 (↑(BitVec.toNat (BitVec.ofInt (IntKind.bits IntKind.i64) z0 &&& BitVec.ofInt (IntKind.bits IntKind.i64) 4194303)) : Int)) (w64 (↑(BitVec.toNat (BitVec.ofInt (IntKind.bits IntKind.i64) z1 &&& BitVec.ofInt (IntKind.bits IntKind.i64) 4194303)) : Int))).bind fun r => match r with
   | .a0 b1284 k1285 l1286 =>
    if ((↑k1282 : Int) != 13) = true then
     none -- false
    else
     if ((↑k1285 : Int) != 13) = true then
      none -- false
     else
      if (0 : Int) ≤ (3 : Int) ∧ (3 : Int) < (↑k1282 : Int) then
       ((l1283[(3 : Nat)]?).bind W44.dec).bind fun e1287 =>
       if (0 : Int) ≤ (0 : Int) ∧ (0 : Int) < (↑k1282 : Int) then
        ((l1283[(0 : Nat)]?).bind W44.dec).bind fun e1288 =>
        if (w64 (e1287.c0 - e1288.c0) != w64 (↑(BitVec.toNat (BitVec.ofInt (IntKind.bits IntKind.i64) z0 &&& BitVec.ofInt (IntKind.bits IntKind.i64) 4194303)) : Int)) = true then
         none -- false
        else
         if (0 : Int) ≤ (6 : Int) ∧ (6 : Int) < (↑k1282 : Int) then
          ((l1283[(6 : Nat)]?).bind W44.dec).bind fun e1289 =>
          if (w64 (e1289.c1 - e1287.c1) != w64 (↑(BitVec.toNat (BitVec.ofInt (IntKind.bits IntKind.i64) z1 &&& BitVec.ofInt (IntKind.bits IntKind.i64) 4194303)) : Int)) = true then
           none -- false
          else
           if (0 : Int) ≤ (12 : Int) ∧ (12 : Int) < (↑k1282 : Int) then
            ((l1283[(12 : Nat)]?).bind W44.dec).bind fun e1290 =>
            if (!(e1288.c0 == e1290.c0 && (e1288.c1 == e1290.c1 && true))) = true then
             none -- false
            else
             if (0 : Int) ≤ (0 : Int) ∧ (0 : Int) < (↑k1285 : Int) then
              ((l1286[(0 : Nat)]?).bind W44.dec).bind fun e1291 =>
              if (e1291.c0 != Int.fdiv (w64 (↑(BitVec.toNat (BitVec.ofInt (IntKind.bits IntKind.i64) z0 &&& BitVec.ofInt (IntKind.bits IntKind.i64) 4194303)) : Int)) 2) = true then
               none -- false
              else
               if (0 : Int) ≤ (6 : Int) ∧ (6 : Int) < (↑k1285 : Int) then
                ((l1286[(6 : Nat)]?).bind W44.dec).bind fun e1292 =>
                if (e1292.c0 != w64 (0 - Int.fdiv (w64 (↑(BitVec.toNat (BitVec.ofInt (IntKind.bits IntKind.i64) z0 &&& BitVec.ofInt (IntKind.bits IntKind.i64) 4194303)) : Int)) 2)) = true then
                 none -- false
                else
                 if (0 : Int) ≤ (3 : Int) ∧ (3 : Int) < (↑k1285 : Int) then
                  ((l1286[(3 : Nat)]?).bind W44.dec).bind fun e1293 =>
                  if (e1293.c1 != Int.fdiv (w64 (↑(BitVec.toNat (BitVec.ofInt (IntKind.bits IntKind.i64) z1 &&& BitVec.ofInt (IntKind.bits IntKind.i64) 4194303)) : Int)) 2) = true then
                   none -- false
                  else
                   if (0 : Int) ≤ (9 : Int) ∧ (9 : Int) < (↑k1285 : Int) then
                    ((l1286[(9 : Nat)]?).bind W44.dec).bind fun e1294 =>
                    if (e1294.c1 != w64 (0 - Int.fdiv (w64 (↑(BitVec.toNat (BitVec.ofInt (IntKind.bits IntKind.i64) z1 &&& BitVec.ofInt (IntKind.bits IntKind.i64) 4194303)) : Int)) 2)) = true then
                     none -- false
                    else
                     (F20 (w64 (2 + Int.tmod (w64 (↑(BitVec.toNat (BitVec.ofInt (IntKind.bits IntKind.i64) z2 &&& BitVec.ofInt (IntKind.bits IntKind.i64) 15)) : Int)) 15)) (w64 (↑(BitVec.toNat (BitVec.ofInt (IntKind.bits IntKind.i64) z0 &&& BitVec.ofInt (IntKind.bits IntKind.i64) 4194303)) : Int)) (w64 (↑(BitVec.toNat (BitVec.ofInt (IntKind.bits IntKind.i64) z1 &&& BitVec.ofInt (IntKind.bits IntKind.i64) 4194303)) : Int))).bind fun r => match r with
                     | .a0 b1295 k1296 l1297 =>
                      if ((↑k1296 : Int) != w64 (1 + w64 (6 * w64 (2 + Int.tmod (w64 (↑(BitVec.toNat (BitVec.ofInt (IntKind.bits IntKind.i64) z2 &&& BitVec.ofInt (IntKind.bits IntKind.i64) 15)) : Int)) 15)))) = true then
                       none -- false
                      else
                       (L5_0 18446744073709551616 (w64 (↑(BitVec.toNat (BitVec.ofInt (IntKind.bits IntKind.i64) z0 &&& BitVec.ofInt (IntKind.bits IntKind.i64) 4194303)) : Int)) (w64 (↑(BitVec.toNat (BitVec.ofInt (IntKind.bits IntKind.i64) z1 &&& BitVec.ofInt (IntKind.bits IntKind.i64) 4194303)) : Int)) (w64 (2 + Int.tmod (w64 (↑(BitVec.toNat (BitVec.ofInt (IntKind.bits IntKind.i64) z2 &&& BitVec.ofInt (IntKind.bits IntKind.i64) 15)) : Int)) 15)) (0) (b1295) (k1296) (l1297)).bind fun r => match r with
                       | .e0 =>
                        none -- false
                       | .e1 =>
                        none -- false
                       | .e2 =>
                        (F21).bind fun r => match r with
                        | .a0 b1434 =>
                         some (A5.a0 (b1434))
                   else
                    none -- none
                 else
                  none -- none
               else
                none -- none
             else
              none -- none
           else
            none -- none
         else
          none -- none
       else
        none -- none
      else
       none -- none
theorem F5_ok (m : Nat) (z0 : Int) (z1 : Int) (z2 : Int) (r : A5) (h : F5 z0 z1 z2 = some r) : call Try.prog X O0 18446744073709551616 (m + 10) 5 ([i64 z0, i64 z1, i64 z2]) ([]) = some r.out := by
  unfold F5 at h
  obtain ⟨r0, h0, h⟩ := Option.bind_eq_some_iff.mp h
  have h0 := F18_ok (m + 7) (w64 (↑(BitVec.toNat (BitVec.ofInt (IntKind.bits IntKind.i64) z0 &&& BitVec.ofInt (IntKind.bits IntKind.i64) 4194303)) : Int)) (w64 (↑(BitVec.toNat (BitVec.ofInt (IntKind.bits IntKind.i64) z1 &&& BitVec.ofInt (IntKind.bits IntKind.i64) 4194303)) : Int)) r0 h0
  cases r0 with
  | a0 b1281 k1282 l1283 =>
    obtain ⟨r1, h1, h⟩ := Option.bind_eq_some_iff.mp h
    have h1 := F19_ok (m + 5) (w64 (↑(BitVec.toNat (BitVec.ofInt (IntKind.bits IntKind.i64) z0 &&& BitVec.ofInt (IntKind.bits IntKind.i64) 4194303)) : Int)) (w64 (↑(BitVec.toNat (BitVec.ofInt (IntKind.bits IntKind.i64) z1 &&& BitVec.ofInt (IntKind.bits IntKind.i64) 4194303)) : Int)) r1 h1
    cases r1 with
    | a0 b1284 k1285 l1286 =>
      rcases ite_eq h with ⟨h2, h⟩ | ⟨h2, h⟩
      · skip
        cases h
      · skip
        rcases ite_eq h with ⟨h3, h⟩ | ⟨h3, h⟩
        · skip
          cases h
        · skip
          rcases ite_eq h with ⟨h4, h⟩ | ⟨h4, h⟩
          · skip
            obtain ⟨e1287, h5, h⟩ := Option.bind_eq_some_iff.mp h
            rcases ite_eq h with ⟨h6, h⟩ | ⟨h6, h⟩
            · skip
              obtain ⟨e1288, h7, h⟩ := Option.bind_eq_some_iff.mp h
              rcases ite_eq h with ⟨h8, h⟩ | ⟨h8, h⟩
              · skip
                cases h
              · skip
                rcases ite_eq h with ⟨h9, h⟩ | ⟨h9, h⟩
                · skip
                  obtain ⟨e1289, h10, h⟩ := Option.bind_eq_some_iff.mp h
                  rcases ite_eq h with ⟨h11, h⟩ | ⟨h11, h⟩
                  · skip
                    cases h
                  · skip
                    rcases ite_eq h with ⟨h12, h⟩ | ⟨h12, h⟩
                    · skip
                      obtain ⟨e1290, h13, h⟩ := Option.bind_eq_some_iff.mp h
                      rcases ite_eq h with ⟨h14, h⟩ | ⟨h14, h⟩
                      · skip
                        cases h
                      · skip
                        rcases ite_eq h with ⟨h15, h⟩ | ⟨h15, h⟩
                        · skip
                          obtain ⟨e1291, h16, h⟩ := Option.bind_eq_some_iff.mp h
                          rcases ite_eq h with ⟨h17, h⟩ | ⟨h17, h⟩
                          · skip
                            cases h
                          · skip
                            rcases ite_eq h with ⟨h18, h⟩ | ⟨h18, h⟩
                            · skip
                              obtain ⟨e1292, h19, h⟩ := Option.bind_eq_some_iff.mp h
                              rcases ite_eq h with ⟨h20, h⟩ | ⟨h20, h⟩
                              · skip
                                cases h
                              · skip
                                rcases ite_eq h with ⟨h21, h⟩ | ⟨h21, h⟩
                                · skip
                                  obtain ⟨e1293, h22, h⟩ := Option.bind_eq_some_iff.mp h
                                  rcases ite_eq h with ⟨h23, h⟩ | ⟨h23, h⟩
                                  · skip
                                    cases h
                                  · skip
                                    rcases ite_eq h with ⟨h24, h⟩ | ⟨h24, h⟩
                                    · skip
                                      obtain ⟨e1294, h25, h⟩ := Option.bind_eq_some_iff.mp h
                                      rcases ite_eq h with ⟨h26, h⟩ | ⟨h26, h⟩
                                      · skip
                                        cases h
                                      · skip
                                        obtain ⟨r27, h27, h⟩ := Option.bind_eq_some_iff.mp h
                                        have h27 := F20_ok (m + 4) (w64 (2 + Int.tmod (w64 (↑(BitVec.toNat (BitVec.ofInt (IntKind.bits IntKind.i64) z2 &&& BitVec.ofInt (IntKind.bits IntKind.i64) 15)) : Int)) 15)) (w64 (↑(BitVec.toNat (BitVec.ofInt (IntKind.bits IntKind.i64) z0 &&& BitVec.ofInt (IntKind.bits IntKind.i64) 4194303)) : Int)) (w64 (↑(BitVec.toNat (BitVec.ofInt (IntKind.bits IntKind.i64) z1 &&& BitVec.ofInt (IntKind.bits IntKind.i64) 4194303)) : Int)) r27 h27
                                        cases r27 with
                                        | a0 b1295 k1296 l1297 =>
                                          rcases ite_eq h with ⟨h28, h⟩ | ⟨h28, h⟩
                                          · skip
                                            cases h
                                          · skip
                                            obtain ⟨r29, h29, h⟩ := Option.bind_eq_some_iff.mp h
                                            obtain ⟨st29, h29, hr29⟩ := L5_0_ok m 18446744073709551616 (w64 (↑(BitVec.toNat (BitVec.ofInt (IntKind.bits IntKind.i64) z0 &&& BitVec.ofInt (IntKind.bits IntKind.i64) 4194303)) : Int)) (w64 (↑(BitVec.toNat (BitVec.ofInt (IntKind.bits IntKind.i64) z1 &&& BitVec.ofInt (IntKind.bits IntKind.i64) 4194303)) : Int)) (w64 (2 + Int.tmod (w64 (↑(BitVec.toNat (BitVec.ofInt (IntKind.bits IntKind.i64) z2 &&& BitVec.ofInt (IntKind.bits IntKind.i64) 15)) : Int)) 15)) (0) (b1295) (k1296) (l1297) r29 h29
                                            have h29 : loopRun Try.prog X (genO X (call Try.prog X O0 18446744073709551616 (m + 9))) 5 (0) 18446744073709551616 B5 0 ({ T := i64 z0 :: i64 z1 :: i64 z2 :: U :: U :: U :: vb false :: i64 (w64 (↑(BitVec.toNat (BitVec.ofInt (IntKind.bits IntKind.i64) z0 &&& BitVec.ofInt (IntKind.bits IntKind.i64) 4194303)) : Int)) :: i64 (w64 (↑(BitVec.toNat (BitVec.ofInt (IntKind.bits IntKind.i64) z1 &&& BitVec.ofInt (IntKind.bits IntKind.i64) 4194303)) : Int)) :: V.ptr 2 0 0 :: V.ptr 3 0 0 :: i64 (w64 (2 + Int.tmod (w64 (↑(BitVec.toNat (BitVec.ofInt (IntKind.bits IntKind.i64) z2 &&& BitVec.ofInt (IntKind.bits IntKind.i64) 15)) : Int)) 15)) :: V.ptr 5 0 0 :: i64 0 :: U :: U :: U :: i64 z0 :: i64 (w64 (↑(BitVec.toNat (BitVec.ofInt (IntKind.bits IntKind.i64) z0 &&& BitVec.ofInt (IntKind.bits IntKind.i64) 4194303)) : Int)) :: i64 z1 :: i64 (w64 (↑(BitVec.toNat (BitVec.ofInt (IntKind.bits IntKind.i64) z1 &&& BitVec.ofInt (IntKind.bits IntKind.i64) 4194303)) : Int)) :: i64 (w64 (↑(BitVec.toNat (BitVec.ofInt (IntKind.bits IntKind.i64) z0 &&& BitVec.ofInt (IntKind.bits IntKind.i64) 4194303)) : Int)) :: i64 (w64 (↑(BitVec.toNat (BitVec.ofInt (IntKind.bits IntKind.i64) z1 &&& BitVec.ofInt (IntKind.bits IntKind.i64) 4194303)) : Int)) :: V.agg [vb b1281, V.hs 0 0 k1282] :: i64 (w64 (↑(BitVec.toNat (BitVec.ofInt (IntKind.bits IntKind.i64) z0 &&& BitVec.ofInt (IntKind.bits IntKind.i64) 4194303)) : Int)) :: i64 (w64 (↑(BitVec.toNat (BitVec.ofInt (IntKind.bits IntKind.i64) z1 &&& BitVec.ofInt (IntKind.bits IntKind.i64) 4194303)) : Int)) :: V.agg [vb b1284, V.hs 1 0 k1285] :: V.ptr 2 0 1 :: V.hs 0 0 k1282 :: i64 (↑k1282 : Int) :: vb ((↑k1282 : Int) != 13) :: vb ((↑k1282 : Int) != 13) :: V.ptr 3 0 1 :: V.hs 1 0 k1285 :: i64 (↑k1285 : Int) :: vb ((↑k1285 : Int) != 13) :: vb ((↑k1285 : Int) != 13) :: vb ((↑k1285 : Int) != 13) :: V.ptr 2 0 1 :: V.hs 0 0 k1282 :: V.ptr 0 3 0 :: V.ptr 0 3 0 :: i64 e1287.c0 :: V.ptr 2 0 1 :: V.hs 0 0 k1282 :: V.ptr 0 0 0 :: V.ptr 0 0 0 :: i64 e1288.c0 :: i64 (w64 (e1287.c0 - e1288.c0)) :: i64 (w64 (↑(BitVec.toNat (BitVec.ofInt (IntKind.bits IntKind.i64) z0 &&& BitVec.ofInt (IntKind.bits IntKind.i64) 4194303)) : Int)) :: vb (w64 (e1287.c0 - e1288.c0) != w64 (↑(BitVec.toNat (BitVec.ofInt (IntKind.bits IntKind.i64) z0 &&& BitVec.ofInt (IntKind.bits IntKind.i64) 4194303)) : Int)) :: vb (w64 (e1287.c0 - e1288.c0) != w64 (↑(BitVec.toNat (BitVec.ofInt (IntKind.bits IntKind.i64) z0 &&& BitVec.ofInt (IntKind.bits IntKind.i64) 4194303)) : Int)) :: vb (w64 (e1287.c0 - e1288.c0) != w64 (↑(BitVec.toNat (BitVec.ofInt (IntKind.bits IntKind.i64) z0 &&& BitVec.ofInt (IntKind.bits IntKind.i64) 4194303)) : Int)) :: V.ptr 2 0 1 :: V.hs 0 0 k1282 :: V.ptr 0 6 0 :: V.ptr 0 6 1 :: i64 e1289.c1 :: V.ptr 2 0 1 :: V.hs 0 0 k1282 :: V.ptr 0 3 0 :: V.ptr 0 3 1 :: i64 e1287.c1 :: i64 (w64 (e1289.c1 - e1287.c1)) :: i64 (w64 (↑(BitVec.toNat (BitVec.ofInt (IntKind.bits IntKind.i64) z1 &&& BitVec.ofInt (IntKind.bits IntKind.i64) 4194303)) : Int)) :: vb (w64 (e1289.c1 - e1287.c1) != w64 (↑(BitVec.toNat (BitVec.ofInt (IntKind.bits IntKind.i64) z1 &&& BitVec.ofInt (IntKind.bits IntKind.i64) 4194303)) : Int)) :: vb (w64 (e1289.c1 - e1287.c1) != w64 (↑(BitVec.toNat (BitVec.ofInt (IntKind.bits IntKind.i64) z1 &&& BitVec.ofInt (IntKind.bits IntKind.i64) 4194303)) : Int)) :: vb (w64 (e1289.c1 - e1287.c1) != w64 (↑(BitVec.toNat (BitVec.ofInt (IntKind.bits IntKind.i64) z1 &&& BitVec.ofInt (IntKind.bits IntKind.i64) 4194303)) : Int)) :: V.ptr 2 0 1 :: V.hs 0 0 k1282 :: V.ptr 0 0 0 :: V.agg [i64 e1288.c0, i64 e1288.c1] :: V.ptr 2 0 1 :: V.hs 0 0 k1282 :: V.ptr 0 12 0 :: V.agg [i64 e1290.c0, i64 e1290.c1] :: (vb !(e1288.c0 == e1290.c0 && (e1288.c1 == e1290.c1 && true))) :: (vb !(e1288.c0 == e1290.c0 && (e1288.c1 == e1290.c1 && true))) :: (vb !(e1288.c0 == e1290.c0 && (e1288.c1 == e1290.c1 && true))) :: V.ptr 3 0 1 :: V.hs 1 0 k1285 :: V.ptr 1 0 0 :: V.ptr 1 0 0 :: i64 e1291.c0 :: i64 (w64 (↑(BitVec.toNat (BitVec.ofInt (IntKind.bits IntKind.i64) z0 &&& BitVec.ofInt (IntKind.bits IntKind.i64) 4194303)) : Int)) :: i64 (Int.fdiv (w64 (↑(BitVec.toNat (BitVec.ofInt (IntKind.bits IntKind.i64) z0 &&& BitVec.ofInt (IntKind.bits IntKind.i64) 4194303)) : Int)) 2) :: vb (e1291.c0 != Int.fdiv (w64 (↑(BitVec.toNat (BitVec.ofInt (IntKind.bits IntKind.i64) z0 &&& BitVec.ofInt (IntKind.bits IntKind.i64) 4194303)) : Int)) 2) :: vb (e1291.c0 != Int.fdiv (w64 (↑(BitVec.toNat (BitVec.ofInt (IntKind.bits IntKind.i64) z0 &&& BitVec.ofInt (IntKind.bits IntKind.i64) 4194303)) : Int)) 2) :: vb (e1291.c0 != Int.fdiv (w64 (↑(BitVec.toNat (BitVec.ofInt (IntKind.bits IntKind.i64) z0 &&& BitVec.ofInt (IntKind.bits IntKind.i64) 4194303)) : Int)) 2) :: V.ptr 3 0 1 :: V.hs 1 0 k1285 :: V.ptr 1 6 0 :: V.ptr 1 6 0 :: i64 e1292.c0 :: i64 (w64 (↑(BitVec.toNat (BitVec.ofInt (IntKind.bits IntKind.i64) z0 &&& BitVec.ofInt (IntKind.bits IntKind.i64) 4194303)) : Int)) :: i64 (Int.fdiv (w64 (↑(BitVec.toNat (BitVec.ofInt (IntKind.bits IntKind.i64) z0 &&& BitVec.ofInt (IntKind.bits IntKind.i64) 4194303)) : Int)) 2) :: i64 (w64 (0 - Int.fdiv (w64 (↑(BitVec.toNat (BitVec.ofInt (IntKind.bits IntKind.i64) z0 &&& BitVec.ofInt (IntKind.bits IntKind.i64) 4194303)) : Int)) 2)) :: vb (e1292.c0 != w64 (0 - Int.fdiv (w64 (↑(BitVec.toNat (BitVec.ofInt (IntKind.bits IntKind.i64) z0 &&& BitVec.ofInt (IntKind.bits IntKind.i64) 4194303)) : Int)) 2)) :: vb (e1292.c0 != w64 (0 - Int.fdiv (w64 (↑(BitVec.toNat (BitVec.ofInt (IntKind.bits IntKind.i64) z0 &&& BitVec.ofInt (IntKind.bits IntKind.i64) 4194303)) : Int)) 2)) :: vb (e1292.c0 != w64 (0 - Int.fdiv (w64 (↑(BitVec.toNat (BitVec.ofInt (IntKind.bits IntKind.i64) z0 &&& BitVec.ofInt (IntKind.bits IntKind.i64) 4194303)) : Int)) 2)) :: V.ptr 3 0 1 :: V.hs 1 0 k1285 :: V.ptr 1 3 0 :: V.ptr 1 3 1 :: i64 e1293.c1 :: i64 (w64 (↑(BitVec.toNat (BitVec.ofInt (IntKind.bits IntKind.i64) z1 &&& BitVec.ofInt (IntKind.bits IntKind.i64) 4194303)) : Int)) :: i64 (Int.fdiv (w64 (↑(BitVec.toNat (BitVec.ofInt (IntKind.bits IntKind.i64) z1 &&& BitVec.ofInt (IntKind.bits IntKind.i64) 4194303)) : Int)) 2) :: vb (e1293.c1 != Int.fdiv (w64 (↑(BitVec.toNat (BitVec.ofInt (IntKind.bits IntKind.i64) z1 &&& BitVec.ofInt (IntKind.bits IntKind.i64) 4194303)) : Int)) 2) :: vb (e1293.c1 != Int.fdiv (w64 (↑(BitVec.toNat (BitVec.ofInt (IntKind.bits IntKind.i64) z1 &&& BitVec.ofInt (IntKind.bits IntKind.i64) 4194303)) : Int)) 2) :: vb (e1293.c1 != Int.fdiv (w64 (↑(BitVec.toNat (BitVec.ofInt (IntKind.bits IntKind.i64) z1 &&& BitVec.ofInt (IntKind.bits IntKind.i64) 4194303)) : Int)) 2) :: V.ptr 3 0 1 :: V.hs 1 0 k1285 :: V.ptr 1 9 0 :: V.ptr 1 9 1 :: i64 e1294.c1 :: i64 (w64 (↑(BitVec.toNat (BitVec.ofInt (IntKind.bits IntKind.i64) z1 &&& BitVec.ofInt (IntKind.bits IntKind.i64) 4194303)) : Int)) :: i64 (Int.fdiv (w64 (↑(BitVec.toNat (BitVec.ofInt (IntKind.bits IntKind.i64) z1 &&& BitVec.ofInt (IntKind.bits IntKind.i64) 4194303)) : Int)) 2) :: i64 (w64 (0 - Int.fdiv (w64 (↑(BitVec.toNat (BitVec.ofInt (IntKind.bits IntKind.i64) z1 &&& BitVec.ofInt (IntKind.bits IntKind.i64) 4194303)) : Int)) 2)) :: vb (e1294.c1 != w64 (0 - Int.fdiv (w64 (↑(BitVec.toNat (BitVec.ofInt (IntKind.bits IntKind.i64) z1 &&& BitVec.ofInt (IntKind.bits IntKind.i64) 4194303)) : Int)) 2)) :: vb (e1294.c1 != w64 (0 - Int.fdiv (w64 (↑(BitVec.toNat (BitVec.ofInt (IntKind.bits IntKind.i64) z1 &&& BitVec.ofInt (IntKind.bits IntKind.i64) 4194303)) : Int)) 2)) :: i64 z2 :: i64 (w64 (↑(BitVec.toNat (BitVec.ofInt (IntKind.bits IntKind.i64) z2 &&& BitVec.ofInt (IntKind.bits IntKind.i64) 15)) : Int)) :: i64 (Int.tmod (w64 (↑(BitVec.toNat (BitVec.ofInt (IntKind.bits IntKind.i64) z2 &&& BitVec.ofInt (IntKind.bits IntKind.i64) 15)) : Int)) 15) :: i64 (w64 (2 + Int.tmod (w64 (↑(BitVec.toNat (BitVec.ofInt (IntKind.bits IntKind.i64) z2 &&& BitVec.ofInt (IntKind.bits IntKind.i64) 15)) : Int)) 15)) :: i64 (w64 (2 + Int.tmod (w64 (↑(BitVec.toNat (BitVec.ofInt (IntKind.bits IntKind.i64) z2 &&& BitVec.ofInt (IntKind.bits IntKind.i64) 15)) : Int)) 15)) :: i64 (w64 (↑(BitVec.toNat (BitVec.ofInt (IntKind.bits IntKind.i64) z0 &&& BitVec.ofInt (IntKind.bits IntKind.i64) 4194303)) : Int)) :: i64 (w64 (↑(BitVec.toNat (BitVec.ofInt (IntKind.bits IntKind.i64) z1 &&& BitVec.ofInt (IntKind.bits IntKind.i64) 4194303)) : Int)) :: V.agg [vb b1295, V.hs 4 0 k1296] :: V.ptr 5 0 1 :: V.hs 4 0 k1296 :: i64 (↑k1296 : Int) :: i64 (w64 (2 + Int.tmod (w64 (↑(BitVec.toNat (BitVec.ofInt (IntKind.bits IntKind.i64) z2 &&& BitVec.ofInt (IntKind.bits IntKind.i64) 15)) : Int)) 15)) :: i64 (w64 (6 * w64 (2 + Int.tmod (w64 (↑(BitVec.toNat (BitVec.ofInt (IntKind.bits IntKind.i64) z2 &&& BitVec.ofInt (IntKind.bits IntKind.i64) 15)) : Int)) 15))) :: i64 (w64 (1 + w64 (6 * w64 (2 + Int.tmod (w64 (↑(BitVec.toNat (BitVec.ofInt (IntKind.bits IntKind.i64) z2 &&& BitVec.ofInt (IntKind.bits IntKind.i64) 15)) : Int)) 15)))) :: vb ((↑k1296 : Int) != w64 (1 + w64 (6 * w64 (2 + Int.tmod (w64 (↑(BitVec.toNat (BitVec.ofInt (IntKind.bits IntKind.i64) z2 &&& BitVec.ofInt (IntKind.bits IntKind.i64) 15)) : Int)) 15)))) :: un 52 [], σ := [Ob.cells true true 2 l1283, Ob.cells true true 2 l1286, Ob.cells true false 2 [[vb b1281, V.hs 0 0 k1282]], Ob.cells true false 2 [[vb b1284, V.hs 1 0 k1285]], Ob.cells true true 2 l1297, Ob.cells true false 2 [[vb b1295, V.hs 4 0 k1296]]] }) = some st29 := by
                                              rw [loopRun_from, show pre X 5 (0) 0 ({ T := i64 z0 :: i64 z1 :: i64 z2 :: U :: U :: U :: vb false :: i64 (w64 (↑(BitVec.toNat (BitVec.ofInt (IntKind.bits IntKind.i64) z0 &&& BitVec.ofInt (IntKind.bits IntKind.i64) 4194303)) : Int)) :: i64 (w64 (↑(BitVec.toNat (BitVec.ofInt (IntKind.bits IntKind.i64) z1 &&& BitVec.ofInt (IntKind.bits IntKind.i64) 4194303)) : Int)) :: V.ptr 2 0 0 :: V.ptr 3 0 0 :: i64 (w64 (2 + Int.tmod (w64 (↑(BitVec.toNat (BitVec.ofInt (IntKind.bits IntKind.i64) z2 &&& BitVec.ofInt (IntKind.bits IntKind.i64) 15)) : Int)) 15)) :: V.ptr 5 0 0 :: i64 0 :: U :: U :: U :: i64 z0 :: i64 (w64 (↑(BitVec.toNat (BitVec.ofInt (IntKind.bits IntKind.i64) z0 &&& BitVec.ofInt (IntKind.bits IntKind.i64) 4194303)) : Int)) :: i64 z1 :: i64 (w64 (↑(BitVec.toNat (BitVec.ofInt (IntKind.bits IntKind.i64) z1 &&& BitVec.ofInt (IntKind.bits IntKind.i64) 4194303)) : Int)) :: i64 (w64 (↑(BitVec.toNat (BitVec.ofInt (IntKind.bits IntKind.i64) z0 &&& BitVec.ofInt (IntKind.bits IntKind.i64) 4194303)) : Int)) :: i64 (w64 (↑(BitVec.toNat (BitVec.ofInt (IntKind.bits IntKind.i64) z1 &&& BitVec.ofInt (IntKind.bits IntKind.i64) 4194303)) : Int)) :: V.agg [vb b1281, V.hs 0 0 k1282] :: i64 (w64 (↑(BitVec.toNat (BitVec.ofInt (IntKind.bits IntKind.i64) z0 &&& BitVec.ofInt (IntKind.bits IntKind.i64) 4194303)) : Int)) :: i64 (w64 (↑(BitVec.toNat (BitVec.ofInt (IntKind.bits IntKind.i64) z1 &&& BitVec.ofInt (IntKind.bits IntKind.i64) 4194303)) : Int)) :: V.agg [vb b1284, V.hs 1 0 k1285] :: V.ptr 2 0 1 :: V.hs 0 0 k1282 :: i64 (↑k1282 : Int) :: vb ((↑k1282 : Int) != 13) :: vb ((↑k1282 : Int) != 13) :: V.ptr 3 0 1 :: V.hs 1 0 k1285 :: i64 (↑k1285 : Int) :: vb ((↑k1285 : Int) != 13) :: vb ((↑k1285 : Int) != 13) :: vb ((↑k1285 : Int) != 13) :: V.ptr 2 0 1 :: V.hs 0 0 k1282 :: V.ptr 0 3 0 :: V.ptr 0 3 0 :: i64 e1287.c0 :: V.ptr 2 0 1 :: V.hs 0 0 k1282 :: V.ptr 0 0 0 :: V.ptr 0 0 0 :: i64 e1288.c0 :: i64 (w64 (e1287.c0 - e1288.c0)) :: i64 (w64 (↑(BitVec.toNat (BitVec.ofInt (IntKind.bits IntKind.i64) z0 &&& BitVec.ofInt (IntKind.bits IntKind.i64) 4194303)) : Int)) :: vb (w64 (e1287.c0 - e1288.c0) != w64 (↑(BitVec.toNat (BitVec.ofInt (IntKind.bits IntKind.i64) z0 &&& BitVec.ofInt (IntKind.bits IntKind.i64) 4194303)) : Int)) :: vb (w64 (e1287.c0 - e1288.c0) != w64 (↑(BitVec.toNat (BitVec.ofInt (IntKind.bits IntKind.i64) z0 &&& BitVec.ofInt (IntKind.bits IntKind.i64) 4194303)) : Int)) :: vb (w64 (e1287.c0 - e1288.c0) != w64 (↑(BitVec.toNat (BitVec.ofInt (IntKind.bits IntKind.i64) z0 &&& BitVec.ofInt (IntKind.bits IntKind.i64) 4194303)) : Int)) :: V.ptr 2 0 1 :: V.hs 0 0 k1282 :: V.ptr 0 6 0 :: V.ptr 0 6 1 :: i64 e1289.c1 :: V.ptr 2 0 1 :: V.hs 0 0 k1282 :: V.ptr 0 3 0 :: V.ptr 0 3 1 :: i64 e1287.c1 :: i64 (w64 (e1289.c1 - e1287.c1)) :: i64 (w64 (↑(BitVec.toNat (BitVec.ofInt (IntKind.bits IntKind.i64) z1 &&& BitVec.ofInt (IntKind.bits IntKind.i64) 4194303)) : Int)) :: vb (w64 (e1289.c1 - e1287.c1) != w64 (↑(BitVec.toNat (BitVec.ofInt (IntKind.bits IntKind.i64) z1 &&& BitVec.ofInt (IntKind.bits IntKind.i64) 4194303)) : Int)) :: vb (w64 (e1289.c1 - e1287.c1) != w64 (↑(BitVec.toNat (BitVec.ofInt (IntKind.bits IntKind.i64) z1 &&& BitVec.ofInt (IntKind.bits IntKind.i64) 4194303)) : Int)) :: vb (w64 (e1289.c1 - e1287.c1) != w64 (↑(BitVec.toNat (BitVec.ofInt (IntKind.bits IntKind.i64) z1 &&& BitVec.ofInt (IntKind.bits IntKind.i64) 4194303)) : Int)) :: V.ptr 2 0 1 :: V.hs 0 0 k1282 :: V.ptr 0 0 0 :: V.agg [i64 e1288.c0, i64 e1288.c1] :: V.ptr 2 0 1 :: V.hs 0 0 k1282 :: V.ptr 0 12 0 :: V.agg [i64 e1290.c0, i64 e1290.c1] :: (vb !(e1288.c0 == e1290.c0 && (e1288.c1 == e1290.c1 && true))) :: (vb !(e1288.c0 == e1290.c0 && (e1288.c1 == e1290.c1 && true))) :: (vb !(e1288.c0 == e1290.c0 && (e1288.c1 == e1290.c1 && true))) :: V.ptr 3 0 1 :: V.hs 1 0 k1285 :: V.ptr 1 0 0 :: V.ptr 1 0 0 :: i64 e1291.c0 :: i64 (w64 (↑(BitVec.toNat (BitVec.ofInt (IntKind.bits IntKind.i64) z0 &&& BitVec.ofInt (IntKind.bits IntKind.i64) 4194303)) : Int)) :: i64 (Int.fdiv (w64 (↑(BitVec.toNat (BitVec.ofInt (IntKind.bits IntKind.i64) z0 &&& BitVec.ofInt (IntKind.bits IntKind.i64) 4194303)) : Int)) 2) :: vb (e1291.c0 != Int.fdiv (w64 (↑(BitVec.toNat (BitVec.ofInt (IntKind.bits IntKind.i64) z0 &&& BitVec.ofInt (IntKind.bits IntKind.i64) 4194303)) : Int)) 2) :: vb (e1291.c0 != Int.fdiv (w64 (↑(BitVec.toNat (BitVec.ofInt (IntKind.bits IntKind.i64) z0 &&& BitVec.ofInt (IntKind.bits IntKind.i64) 4194303)) : Int)) 2) :: vb (e1291.c0 != Int.fdiv (w64 (↑(BitVec.toNat (BitVec.ofInt (IntKind.bits IntKind.i64) z0 &&& BitVec.ofInt (IntKind.bits IntKind.i64) 4194303)) : Int)) 2) :: V.ptr 3 0 1 :: V.hs 1 0 k1285 :: V.ptr 1 6 0 :: V.ptr 1 6 0 :: i64 e1292.c0 :: i64 (w64 (↑(BitVec.toNat (BitVec.ofInt (IntKind.bits IntKind.i64) z0 &&& BitVec.ofInt (IntKind.bits IntKind.i64) 4194303)) : Int)) :: i64 (Int.fdiv (w64 (↑(BitVec.toNat (BitVec.ofInt (IntKind.bits IntKind.i64) z0 &&& BitVec.ofInt (IntKind.bits IntKind.i64) 4194303)) : Int)) 2) :: i64 (w64 (0 - Int.fdiv (w64 (↑(BitVec.toNat (BitVec.ofInt (IntKind.bits IntKind.i64) z0 &&& BitVec.ofInt (IntKind.bits IntKind.i64) 4194303)) : Int)) 2)) :: vb (e1292.c0 != w64 (0 - Int.fdiv (w64 (↑(BitVec.toNat (BitVec.ofInt (IntKind.bits IntKind.i64) z0 &&& BitVec.ofInt (IntKind.bits IntKind.i64) 4194303)) : Int)) 2)) :: vb (e1292.c0 != w64 (0 - Int.fdiv (w64 (↑(BitVec.toNat (BitVec.ofInt (IntKind.bits IntKind.i64) z0 &&& BitVec.ofInt (IntKind.bits IntKind.i64) 4194303)) : Int)) 2)) :: vb (e1292.c0 != w64 (0 - Int.fdiv (w64 (↑(BitVec.toNat (BitVec.ofInt (IntKind.bits IntKind.i64) z0 &&& BitVec.ofInt (IntKind.bits IntKind.i64) 4194303)) : Int)) 2)) :: V.ptr 3 0 1 :: V.hs 1 0 k1285 :: V.ptr 1 3 0 :: V.ptr 1 3 1 :: i64 e1293.c1 :: i64 (w64 (↑(BitVec.toNat (BitVec.ofInt (IntKind.bits IntKind.i64) z1 &&& BitVec.ofInt (IntKind.bits IntKind.i64) 4194303)) : Int)) :: i64 (Int.fdiv (w64 (↑(BitVec.toNat (BitVec.ofInt (IntKind.bits IntKind.i64) z1 &&& BitVec.ofInt (IntKind.bits IntKind.i64) 4194303)) : Int)) 2) :: vb (e1293.c1 != Int.fdiv (w64 (↑(BitVec.toNat (BitVec.ofInt (IntKind.bits IntKind.i64) z1 &&& BitVec.ofInt (IntKind.bits IntKind.i64) 4194303)) : Int)) 2) :: vb (e1293.c1 != Int.fdiv (w64 (↑(BitVec.toNat (BitVec.ofInt (IntKind.bits IntKind.i64) z1 &&& BitVec.ofInt (IntKind.bits IntKind.i64) 4194303)) : Int)) 2) :: vb (e1293.c1 != Int.fdiv (w64 (↑(BitVec.toNat (BitVec.ofInt (IntKind.bits IntKind.i64) z1 &&& BitVec.ofInt (IntKind.bits IntKind.i64) 4194303)) : Int)) 2) :: V.ptr 3 0 1 :: V.hs 1 0 k1285 :: V.ptr 1 9 0 :: V.ptr 1 9 1 :: i64 e1294.c1 :: i64 (w64 (↑(BitVec.toNat (BitVec.ofInt (IntKind.bits IntKind.i64) z1 &&& BitVec.ofInt (IntKind.bits IntKind.i64) 4194303)) : Int)) :: i64 (Int.fdiv (w64 (↑(BitVec.toNat (BitVec.ofInt (IntKind.bits IntKind.i64) z1 &&& BitVec.ofInt (IntKind.bits IntKind.i64) 4194303)) : Int)) 2) :: i64 (w64 (0 - Int.fdiv (w64 (↑(BitVec.toNat (BitVec.ofInt (IntKind.bits IntKind.i64) z1 &&& BitVec.ofInt (IntKind.bits IntKind.i64) 4194303)) : Int)) 2)) :: vb (e1294.c1 != w64 (0 - Int.fdiv (w64 (↑(BitVec.toNat (BitVec.ofInt (IntKind.bits IntKind.i64) z1 &&& BitVec.ofInt (IntKind.bits IntKind.i64) 4194303)) : Int)) 2)) :: vb (e1294.c1 != w64 (0 - Int.fdiv (w64 (↑(BitVec.toNat (BitVec.ofInt (IntKind.bits IntKind.i64) z1 &&& BitVec.ofInt (IntKind.bits IntKind.i64) 4194303)) : Int)) 2)) :: i64 z2 :: i64 (w64 (↑(BitVec.toNat (BitVec.ofInt (IntKind.bits IntKind.i64) z2 &&& BitVec.ofInt (IntKind.bits IntKind.i64) 15)) : Int)) :: i64 (Int.tmod (w64 (↑(BitVec.toNat (BitVec.ofInt (IntKind.bits IntKind.i64) z2 &&& BitVec.ofInt (IntKind.bits IntKind.i64) 15)) : Int)) 15) :: i64 (w64 (2 + Int.tmod (w64 (↑(BitVec.toNat (BitVec.ofInt (IntKind.bits IntKind.i64) z2 &&& BitVec.ofInt (IntKind.bits IntKind.i64) 15)) : Int)) 15)) :: i64 (w64 (2 + Int.tmod (w64 (↑(BitVec.toNat (BitVec.ofInt (IntKind.bits IntKind.i64) z2 &&& BitVec.ofInt (IntKind.bits IntKind.i64) 15)) : Int)) 15)) :: i64 (w64 (↑(BitVec.toNat (BitVec.ofInt (IntKind.bits IntKind.i64) z0 &&& BitVec.ofInt (IntKind.bits IntKind.i64) 4194303)) : Int)) :: i64 (w64 (↑(BitVec.toNat (BitVec.ofInt (IntKind.bits IntKind.i64) z1 &&& BitVec.ofInt (IntKind.bits IntKind.i64) 4194303)) : Int)) :: V.agg [vb b1295, V.hs 4 0 k1296] :: V.ptr 5 0 1 :: V.hs 4 0 k1296 :: i64 (↑k1296 : Int) :: i64 (w64 (2 + Int.tmod (w64 (↑(BitVec.toNat (BitVec.ofInt (IntKind.bits IntKind.i64) z2 &&& BitVec.ofInt (IntKind.bits IntKind.i64) 15)) : Int)) 15)) :: i64 (w64 (6 * w64 (2 + Int.tmod (w64 (↑(BitVec.toNat (BitVec.ofInt (IntKind.bits IntKind.i64) z2 &&& BitVec.ofInt (IntKind.bits IntKind.i64) 15)) : Int)) 15))) :: i64 (w64 (1 + w64 (6 * w64 (2 + Int.tmod (w64 (↑(BitVec.toNat (BitVec.ofInt (IntKind.bits IntKind.i64) z2 &&& BitVec.ofInt (IntKind.bits IntKind.i64) 15)) : Int)) 15)))) :: vb ((↑k1296 : Int) != w64 (1 + w64 (6 * w64 (2 + Int.tmod (w64 (↑(BitVec.toNat (BitVec.ofInt (IntKind.bits IntKind.i64) z2 &&& BitVec.ofInt (IntKind.bits IntKind.i64) 15)) : Int)) 15)))) :: un 52 [], σ := [Ob.cells true true 2 l1283, Ob.cells true true 2 l1286, Ob.cells true false 2 [[vb b1281, V.hs 0 0 k1282]], Ob.cells true false 2 [[vb b1284, V.hs 1 0 k1285]], Ob.cells true true 2 l1297, Ob.cells true false 2 [[vb b1295, V.hs 4 0 k1296]]] }) = { T := un 7 (i64 (w64 (↑(BitVec.toNat (BitVec.ofInt (IntKind.bits IntKind.i64) z0 &&& BitVec.ofInt (IntKind.bits IntKind.i64) 4194303)) : Int)) :: i64 (w64 (↑(BitVec.toNat (BitVec.ofInt (IntKind.bits IntKind.i64) z1 &&& BitVec.ofInt (IntKind.bits IntKind.i64) 4194303)) : Int)) :: U :: U :: i64 (w64 (2 + Int.tmod (w64 (↑(BitVec.toNat (BitVec.ofInt (IntKind.bits IntKind.i64) z2 &&& BitVec.ofInt (IntKind.bits IntKind.i64) 15)) : Int)) 15)) :: V.ptr 0 0 0 :: i64 0 :: un 173 []), σ := [Ob.cells true false 2 [[vb b1295, V.hs 1 0 k1296]], Ob.cells true true 2 l1297] } by kernel_rfl]
                                              exact h29
                                            cases r29 with
                                            | e0 =>
                                              obtain ⟨z1367, z1368, z1369, z1370, z1371, z1372, z1373, b1374, k1375, z1376, k1377, z1378, z1379, z1380, k1381, z1382, z1383, z1384, z1385, z1386, z1387, z1388, z1389, b1390, b1391, l1392, l1393, rfl⟩ := hr29
                                              cases h
                                            | e1 =>
                                              obtain ⟨z1394, z1395, z1396, z1397, z1398, z1399, z1400, b1401, k1402, z1403, k1404, z1405, z1406, z1407, k1408, z1409, z1410, z1411, z1412, z1413, z1414, z1415, z1416, b1417, z1418, z1419, z1420, b1421, b1422, l1423, l1424, rfl⟩ := hr29
                                              cases h
                                            | e2 =>
                                              obtain ⟨z1425, z1426, z1427, z1428, z1429, b1430, b1431, k1432, l1433, rfl⟩ := hr29
                                              obtain ⟨r30, h30, h⟩ := Option.bind_eq_some_iff.mp h
                                              have h30 := F21_ok (m + 0) r30 h30
                                              cases r30 with
                                              | a0 b1434 =>
                                                cases h
                                                exact call_pathL (gs := [.an (V.agg [vb b1281, V.hs 0 0 k1282]) [Ob.cells true true 2 l1283], .an (V.agg [vb b1284, V.hs 0 0 k1285]) [Ob.cells true true 2 l1286], .a, .a, .a, .f, .f, .a, .f, .f, .f, .f, .f, .a, .f, .t, .f, .f, .el (W44.cells e1287), .f, .f, .a, .f, .t, .f, .f, .el (W44.cells e1288), .f, .f, .f, .f, .f, .f, .a, .f, .t, .f, .f, .el (W44.cells e1289), .f, .f, .a, .f, .t, .f, .f, .el (W44.cells e1287), .f, .f, .f, .f, .f, .f, .a, .f, .t, .f, .el (W44.cells e1288), .f, .f, .a, .f, .t, .f, .el (W44.cells e1290), .f, .f, .f, .f, .a, .f, .t, .f, .f, .el (W44.cells e1291), .f, .f, .a, .f, .f, .f, .f, .a, .f, .t, .f, .f, .el (W44.cells e1292), .f, .f, .a, .f, .f, .f, .f, .f, .a, .f, .t, .f, .f, .el (W44.cells e1293), .f, .f, .a, .f, .f, .f, .f, .a, .f, .t, .f, .f, .el (W44.cells e1294), .f, .f, .a, .f, .f, .f, .ft [⟨0, [2], []⟩, ⟨1, [2], []⟩, ⟨2, [0], []⟩, ⟨3, [], []⟩, ⟨4, [], []⟩, ⟨5, [3], []⟩, ⟨6, [3], []⟩, ⟨7, [1], []⟩, ⟨8, [], []⟩, ⟨9, [], []⟩, ⟨10, [], []⟩, ⟨11, [2], []⟩, ⟨12, [2], []⟩, ⟨13, [0], []⟩, ⟨14, [0], []⟩, ⟨15, [0], []⟩, ⟨16, [2], []⟩, ⟨17, [2], []⟩, ⟨18, [0], []⟩, ⟨19, [0], []⟩, ⟨20, [0], []⟩, ⟨21, [], []⟩, ⟨22, [], []⟩, ⟨23, [], []⟩, ⟨24, [], []⟩, ⟨25, [], []⟩, ⟨26, [2], []⟩, ⟨27, [2], []⟩, ⟨28, [0], []⟩, ⟨29, [0], []⟩, ⟨30, [0], []⟩, ⟨31, [2], []⟩, ⟨32, [2], []⟩, ⟨33, [0], []⟩, ⟨34, [0], []⟩, ⟨35, [0], []⟩, ⟨36, [], []⟩, ⟨37, [], []⟩, ⟨38, [], []⟩, ⟨39, [], []⟩, ⟨40, [], []⟩, ⟨41, [2], []⟩, ⟨42, [2], []⟩, ⟨43, [0], []⟩, ⟨44, [0], []⟩, ⟨45, [2], []⟩, ⟨46, [2], []⟩, ⟨47, [0], []⟩, ⟨48, [0], []⟩, ⟨49, [], []⟩, ⟨50, [], []⟩, ⟨51, [], []⟩, ⟨52, [3], []⟩, ⟨53, [3], []⟩, ⟨54, [1], []⟩, ⟨55, [1], []⟩, ⟨56, [1], []⟩, ⟨57, [], []⟩, ⟨58, [], []⟩, ⟨59, [], []⟩, ⟨60, [], []⟩, ⟨61, [], []⟩, ⟨62, [3], []⟩, ⟨63, [3], []⟩, ⟨64, [1], []⟩, ⟨65, [1], []⟩, ⟨66, [1], []⟩, ⟨67, [], []⟩, ⟨68, [], []⟩, ⟨69, [], []⟩, ⟨70, [], []⟩, ⟨71, [], []⟩, ⟨72, [], []⟩, ⟨73, [3], []⟩, ⟨74, [3], []⟩, ⟨75, [1], []⟩, ⟨76, [1], []⟩, ⟨77, [1], []⟩, ⟨78, [], []⟩, ⟨79, [], []⟩, ⟨80, [], []⟩, ⟨81, [], []⟩, ⟨82, [], []⟩, ⟨83, [3], []⟩, ⟨84, [3], []⟩, ⟨85, [1], []⟩, ⟨86, [1], []⟩, ⟨87, [1], []⟩, ⟨88, [], []⟩, ⟨89, [], []⟩, ⟨90, [], []⟩, ⟨91, [], []⟩, ⟨92, [], []⟩], .f, .a, .an (V.agg [vb b1295, V.hs 0 0 k1296]) [Ob.cells true true 2 l1297], .a, .a, .f, .lp (VX.exit 0) (s5_0_2 z1425 z1426 z1427 z1428 z1429 b1430 b1431 k1432 l1433), .an (vb b1434) []]) (notIn []) rfl rfl (by kernel_rfl) (And.intro h0 (And.intro h1 (And.intro (Bool.eq_false_iff.mpr h2) (And.intro (Bool.eq_false_iff.mpr h2) (And.intro (Bool.eq_false_iff.mpr h2) (And.intro (Bool.eq_false_iff.mpr h2) (And.intro (Bool.eq_false_iff.mpr h2) (And.intro (Bool.eq_false_iff.mpr h3) (And.intro (Bool.eq_false_iff.mpr h3) (And.intro (Bool.eq_false_iff.mpr h3) (And.intro (decide_eq_true h4) (And.intro (Bool.eq_false_iff.mpr h3) (And.intro (Bool.eq_false_iff.mpr h3) (And.intro (W44.dec_ok h5) (And.intro (Bool.eq_false_iff.mpr h3) (And.intro (Bool.eq_false_iff.mpr h3) (And.intro (Bool.eq_false_iff.mpr h3) (And.intro (decide_eq_true h6) (And.intro (Bool.eq_false_iff.mpr h3) (And.intro (Bool.eq_false_iff.mpr h3) (And.intro (W44.dec_ok h7) (And.intro (Bool.eq_false_iff.mpr h3) (And.intro (Bool.eq_false_iff.mpr h3) (And.intro (Bool.eq_false_iff.mpr h3) (And.intro (Bool.eq_false_iff.mpr h3) (And.intro (Bool.eq_false_iff.mpr h8) (And.intro (Bool.eq_false_iff.mpr h8) (And.intro (Bool.eq_false_iff.mpr h8) (And.intro (decide_eq_true h9) (And.intro (Bool.eq_false_iff.mpr h8) (And.intro (Bool.eq_false_iff.mpr h8) (And.intro (W44.dec_ok h10) (And.intro (Bool.eq_false_iff.mpr h8) (And.intro (Bool.eq_false_iff.mpr h8) (And.intro (Bool.eq_false_iff.mpr h8) (And.intro (decide_eq_true h4) (And.intro (Bool.eq_false_iff.mpr h8) (And.intro (Bool.eq_false_iff.mpr h8) (And.intro (W44.dec_ok h5) (And.intro (Bool.eq_false_iff.mpr h8) (And.intro (Bool.eq_false_iff.mpr h8) (And.intro (Bool.eq_false_iff.mpr h8) (And.intro (Bool.eq_false_iff.mpr h8) (And.intro (Bool.eq_false_iff.mpr h11) (And.intro (Bool.eq_false_iff.mpr h11) (And.intro (Bool.eq_false_iff.mpr h11) (And.intro (decide_eq_true h6) (And.intro (Bool.eq_false_iff.mpr h11) (And.intro (W44.dec_ok h7) (And.intro (Bool.eq_false_iff.mpr h11) (And.intro (Bool.eq_false_iff.mpr h11) (And.intro (Bool.eq_false_iff.mpr h11) (And.intro (decide_eq_true h12) (And.intro (Bool.eq_false_iff.mpr h11) (And.intro (W44.dec_ok h13) (And.intro (Bool.eq_false_iff.mpr h11) (And.intro (Bool.eq_false_iff.mpr h11) (And.intro (Bool.eq_false_iff.mpr h14) (And.intro (Bool.eq_false_iff.mpr h14) (And.intro (Bool.eq_false_iff.mpr h14) (And.intro (decide_eq_true h15) (And.intro (Bool.eq_false_iff.mpr h14) (And.intro (Bool.eq_false_iff.mpr h14) (And.intro (W44.dec_ok h16) (And.intro (Bool.eq_false_iff.mpr h14) (And.intro (Bool.eq_false_iff.mpr h14) (And.intro (Bool.eq_false_iff.mpr h14) (And.intro (Bool.eq_false_iff.mpr h14) (And.intro (Bool.eq_false_iff.mpr h17) (And.intro (Bool.eq_false_iff.mpr h17) (And.intro (Bool.eq_false_iff.mpr h17) (And.intro (decide_eq_true h18) (And.intro (Bool.eq_false_iff.mpr h17) (And.intro (Bool.eq_false_iff.mpr h17) (And.intro (W44.dec_ok h19) (And.intro (Bool.eq_false_iff.mpr h17) (And.intro (Bool.eq_false_iff.mpr h17) (And.intro (Bool.eq_false_iff.mpr h17) (And.intro (Bool.eq_false_iff.mpr h17) (And.intro (Bool.eq_false_iff.mpr h17) (And.intro (Bool.eq_false_iff.mpr h20) (And.intro (Bool.eq_false_iff.mpr h20) (And.intro (Bool.eq_false_iff.mpr h20) (And.intro (decide_eq_true h21) (And.intro (Bool.eq_false_iff.mpr h20) (And.intro (Bool.eq_false_iff.mpr h20) (And.intro (W44.dec_ok h22) (And.intro (Bool.eq_false_iff.mpr h20) (And.intro (Bool.eq_false_iff.mpr h20) (And.intro (Bool.eq_false_iff.mpr h20) (And.intro (Bool.eq_false_iff.mpr h20) (And.intro (Bool.eq_false_iff.mpr h23) (And.intro (Bool.eq_false_iff.mpr h23) (And.intro (Bool.eq_false_iff.mpr h23) (And.intro (decide_eq_true h24) (And.intro (Bool.eq_false_iff.mpr h23) (And.intro (Bool.eq_false_iff.mpr h23) (And.intro (W44.dec_ok h25) (And.intro (Bool.eq_false_iff.mpr h23) (And.intro (Bool.eq_false_iff.mpr h23) (And.intro (Bool.eq_false_iff.mpr h23) (And.intro (Bool.eq_false_iff.mpr h23) (And.intro (Bool.eq_false_iff.mpr h23) (And.intro (Eq.refl ([⟨0, [2], []⟩, ⟨1, [2], []⟩, ⟨2, [0], []⟩, ⟨3, [], []⟩, ⟨4, [], []⟩, ⟨5, [3], []⟩, ⟨6, [3], []⟩, ⟨7, [1], []⟩, ⟨8, [], []⟩, ⟨9, [], []⟩, ⟨10, [], []⟩, ⟨11, [2], []⟩, ⟨12, [2], []⟩, ⟨13, [0], []⟩, ⟨14, [0], []⟩, ⟨15, [0], []⟩, ⟨16, [2], []⟩, ⟨17, [2], []⟩, ⟨18, [0], []⟩, ⟨19, [0], []⟩, ⟨20, [0], []⟩, ⟨21, [], []⟩, ⟨22, [], []⟩, ⟨23, [], []⟩, ⟨24, [], []⟩, ⟨25, [], []⟩, ⟨26, [2], []⟩, ⟨27, [2], []⟩, ⟨28, [0], []⟩, ⟨29, [0], []⟩, ⟨30, [0], []⟩, ⟨31, [2], []⟩, ⟨32, [2], []⟩, ⟨33, [0], []⟩, ⟨34, [0], []⟩, ⟨35, [0], []⟩, ⟨36, [], []⟩, ⟨37, [], []⟩, ⟨38, [], []⟩, ⟨39, [], []⟩, ⟨40, [], []⟩, ⟨41, [2], []⟩, ⟨42, [2], []⟩, ⟨43, [0], []⟩, ⟨44, [0], []⟩, ⟨45, [2], []⟩, ⟨46, [2], []⟩, ⟨47, [0], []⟩, ⟨48, [0], []⟩, ⟨49, [], []⟩, ⟨50, [], []⟩, ⟨51, [], []⟩, ⟨52, [3], []⟩, ⟨53, [3], []⟩, ⟨54, [1], []⟩, ⟨55, [1], []⟩, ⟨56, [1], []⟩, ⟨57, [], []⟩, ⟨58, [], []⟩, ⟨59, [], []⟩, ⟨60, [], []⟩, ⟨61, [], []⟩, ⟨62, [3], []⟩, ⟨63, [3], []⟩, ⟨64, [1], []⟩, ⟨65, [1], []⟩, ⟨66, [1], []⟩, ⟨67, [], []⟩, ⟨68, [], []⟩, ⟨69, [], []⟩, ⟨70, [], []⟩, ⟨71, [], []⟩, ⟨72, [], []⟩, ⟨73, [3], []⟩, ⟨74, [3], []⟩, ⟨75, [1], []⟩, ⟨76, [1], []⟩, ⟨77, [1], []⟩, ⟨78, [], []⟩, ⟨79, [], []⟩, ⟨80, [], []⟩, ⟨81, [], []⟩, ⟨82, [], []⟩, ⟨83, [3], []⟩, ⟨84, [3], []⟩, ⟨85, [1], []⟩, ⟨86, [1], []⟩, ⟨87, [1], []⟩, ⟨88, [], []⟩, ⟨89, [], []⟩, ⟨90, [], []⟩, ⟨91, [], []⟩, ⟨92, [], []⟩] : List Foot)) (And.intro (Bool.eq_false_iff.mpr h26) (And.intro h27 (And.intro (Bool.eq_false_iff.mpr h28) (And.intro h29 (And.intro h30 True.intro)))))))))))))))))))))))))))))))))))))))))))))))))))))))))))))))))))))))))))))))))))))))))))))))))))))))))))))
                                    · skip
                                      cases h
                                · skip
                                  cases h
                            · skip
                              cases h
                        · skip
                          cases h
                    · skip
                      cases h
                · skip
                  cases h
            · skip
              cases h
          · skip
            cases h

end Go.Proofs.Ytcomanfboibhiaa.H
