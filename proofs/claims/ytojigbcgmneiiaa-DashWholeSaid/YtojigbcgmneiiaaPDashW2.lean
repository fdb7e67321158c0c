/- What the functions compute, and that they do so over the machine of plain values (printed by this session's program wip/vm/Walk.lean). No condition beyond those stated. -/
import Derived.Test.YtojigbcgmneiiaaWk
import Derived.Test.YtojigbcgmneiiaaPDashW
set_option linter.unusedVariables false
set_option linter.unusedSimpArgs false
namespace Go.Proofs.Ytojigbcgmneiiaa.H
open Go Go.VM
set_option maxRecDepth 100000
/-! ## 12 -/
noncomputable abbrev B12v2 : Code := (Try.f12.body).getD .skip
inductive R12v2_0 where
  | e0
  | e1
  | e2 (k1382 : Nat) (l1390 : List (List V))
  | e3 (k1392 : Nat) (l1399 : List (List V))
@[reducible] def s12v2_0_0 (l1361 : List (List V)) (z1362 : Int) (z1363 : Int) (z1364 : Int) (b1365 : Bool) (b1366 : Bool) (b1367 : Bool) (l1368 : List (List V)) : S := { T := U :: V.list 1 l1361 :: V.ptr 0 0 0 :: U :: U :: V.nilS :: i64 z1362 :: i64 z1363 :: i64 z1364 :: un 19 (i64 z1364 :: vb b1365 :: vb b1365 :: i64 z1363 :: i64 z1362 :: vb b1366 :: vb b1366 :: un 30 []), σ := [Ob.cells true false 2 [[vb b1367, V.list 2 l1368]]] }
@[reducible] def s12v2_0_1 (l1369 : List (List V)) (z1370 : Int) (z1371 : Int) (z1372 : Int) (b1373 : Bool) (b1374 : Bool) (l1375 : List (List V)) : S := { T := U :: V.list 1 l1369 :: V.ptr 0 0 0 :: U :: U :: V.nilS :: i64 z1370 :: i64 z1371 :: i64 z1372 :: un 19 (i64 z1372 :: vb b1373 :: vb b1373 :: E :: E :: E :: vb false :: un 30 []), σ := [Ob.cells true false 2 [[vb b1374, V.list 2 l1375]]] }
@[reducible] def s12v2_0_2 (l1381 : List (List V)) (k1382 : Nat) (z1383 : Int) (z1384 : Int) (z1385 : Int) (b1386 : Bool) (b1387 : Bool) (b1388 : Bool) (l1389 : List (List V)) (l1390 : List (List V)) : S := { T := U :: V.list 1 l1381 :: V.ptr 0 0 0 :: U :: U :: V.hs 1 0 k1382 :: i64 z1383 :: i64 z1384 :: i64 z1385 :: un 19 (i64 z1385 :: vb b1386 :: vb b1386 :: i64 z1384 :: i64 z1383 :: vb b1387 :: vb b1387 :: un 30 []), σ := [Ob.cells true false 2 [[vb b1388, V.list 2 l1389]], Ob.cells true true 2 l1390] }
@[reducible] def s12v2_0_3 (l1391 : List (List V)) (k1392 : Nat) (z1393 : Int) (z1394 : Int) (z1395 : Int) (b1396 : Bool) (b1397 : Bool) (l1398 : List (List V)) (l1399 : List (List V)) : S := { T := U :: V.list 1 l1391 :: V.ptr 0 0 0 :: U :: U :: V.hs 1 0 k1392 :: i64 z1393 :: i64 z1394 :: i64 z1395 :: un 19 (i64 z1395 :: vb b1396 :: vb b1396 :: E :: E :: E :: vb false :: un 30 []), σ := [Ob.cells true false 2 [[vb b1397, V.list 2 l1398]], Ob.cells true true 2 l1399] }
def R12v2_0.St : R12v2_0 → VX × S → Prop
  | .e0, p => ∃ l1361 : List (List V), ∃ z1362 : Int, ∃ z1363 : Int, ∃ z1364 : Int, ∃ b1365 : Bool, ∃ b1366 : Bool, ∃ b1367 : Bool, ∃ l1368 : List (List V), p = (VX.exit 0, s12v2_0_0 l1361 z1362 z1363 z1364 b1365 b1366 b1367 l1368)
  | .e1, p => ∃ l1369 : List (List V), ∃ z1370 : Int, ∃ z1371 : Int, ∃ z1372 : Int, ∃ b1373 : Bool, ∃ b1374 : Bool, ∃ l1375 : List (List V), p = (VX.exit 0, s12v2_0_1 l1369 z1370 z1371 z1372 b1373 b1374 l1375)
  | .e2 k1382 l1390, p => ∃ l1381 : List (List V), ∃ z1383 : Int, ∃ z1384 : Int, ∃ z1385 : Int, ∃ b1386 : Bool, ∃ b1387 : Bool, ∃ b1388 : Bool, ∃ l1389 : List (List V), p = (VX.exit 0, s12v2_0_2 l1381 k1382 z1383 z1384 z1385 b1386 b1387 b1388 l1389 l1390)
  | .e3 k1392 l1399, p => ∃ l1391 : List (List V), ∃ z1393 : Int, ∃ z1394 : Int, ∃ z1395 : Int, ∃ b1396 : Bool, ∃ b1397 : Bool, ∃ l1398 : List (List V), p = (VX.exit 0, s12v2_0_3 l1391 k1392 z1393 z1394 z1395 b1396 b1397 l1398 l1399)
def L12v2_0s1 : Nat → List (List V) → Nat → Int → Int → Int → Bool → List (List V) → List (List V) → Option R12v2_0
  | 0, _, _, _, _, _, _, _, _ => none
  | n + 1, l1291, k1292, z1293, z1294, z1295, b1296, l1297, l1298 =>
    if z1295 < 128 then
     if z1294 < z1293 then
      if (↑(List.length l1291) : Int) = 0 then
       none -- none
      else
       if 0 ≤ Int.tmod z1295 (↑(List.length l1291) : Int) then
        ((l1291[Int.toNat (Int.tmod z1295 (↑(List.length l1291) : Int))]?).bind W2.dec).bind fun e1376 =>
        if (Int.tmod z1295 2 == 0) = true then
         (F33v1 (b1296) (l1297) (z1294) (w64 (z1294 + e1376.c0))).bind fun r => match r with
         | .a0 b1377 =>
          L12v2_0s1 n (l1291) (k1292) (z1293) (w64 (z1294 + e1376.c0)) (w64 (z1295 + 1)) (b1296) (l1297) (l1298)
         | .a1 b1378 k1379 l1380 =>
          if (↑k1379 : Int) ≥ 2 then
           if 0 + k1379 ≤ List.length l1380 then
            if 0 + k1292 ≤ List.length l1298 ∧ (k1292 + 1) * 32 ≤ 140737488355328 ∧ k1292 + 1 ≤ 140737488355328 then
             L12v2_0s1 n (l1291) (k1292 + 1) (z1293) (w64 (z1294 + e1376.c0)) (w64 (z1295 + 1)) (b1296) (l1297) (List.take k1292 l1298 ++ [[vb b1378, V.list 2 (List.take k1379 l1380)]])
            else
             none -- none
           else
            none -- none
          else
           L12v2_0s1 n (l1291) (k1292) (z1293) (w64 (z1294 + e1376.c0)) (w64 (z1295 + 1)) (b1296) (l1297) (l1298)
        else
         L12v2_0s1 n (l1291) (k1292) (z1293) (w64 (z1294 + e1376.c0)) (w64 (z1295 + 1)) (b1296) (l1297) (l1298)
       else
        none -- none
     else
      some (R12v2_0.e2 (k1292) (l1298))
    else
     some (R12v2_0.e3 (k1292) (l1298))
theorem L12v2_0s1_ok (m : Nat) : ∀ (n : Nat) (l1291 : List (List V)) (k1292 : Nat) (z1293 : Int) (z1294 : Int) (z1295 : Int) (b1296 : Bool) (l1297 : List (List V)) (l1298 : List (List V)) (r : R12v2_0), L12v2_0s1 n l1291 k1292 z1293 z1294 z1295 b1296 l1297 l1298 = some r → ∃ st, loopFrom Try.prog X (call Try.prog X O0 100000 (m + 6)) 12 (0) 100000 B12v2 0 n ({ T := U :: V.list 1 l1291 :: V.ptr 0 0 0 :: U :: U :: V.hs 1 0 k1292 :: i64 z1293 :: i64 z1294 :: i64 z1295 :: un 56 [], σ := [Ob.cells true false 2 [[vb b1296, V.list 2 l1297]], Ob.cells true true 2 l1298] }) = some st ∧ r.St st
  | 0, _, _, _, _, _, _, _, _, r, h => by cases h
  | n + 1, l1291, k1292, z1293, z1294, z1295, b1296, l1297, l1298, r, h => by
    rw [L12v2_0s1] at h
    rcases ite_eq h with ⟨h0, h⟩ | ⟨h0, h⟩
    · skip
      rcases ite_eq h with ⟨h1, h⟩ | ⟨h1, h⟩
      · skip
        rcases ite_eq h with ⟨h2, h⟩ | ⟨h2, h⟩
        · skip
          cases h
        · skip
          rcases ite_eq h with ⟨h3, h⟩ | ⟨h3, h⟩
          · skip
            obtain ⟨e1376, h4, h⟩ := Option.bind_eq_some_iff.mp h
            rcases ite_eq h with ⟨h5, h⟩ | ⟨h5, h⟩
            · skip
              obtain ⟨r6, h6, h⟩ := Option.bind_eq_some_iff.mp h
              have h6 := F33v1_ok (m + 0) (b1296) (l1297) (z1294) (w64 (z1294 + e1376.c0)) r6 h6
              cases r6 with
              | a0 b1377 =>
                obtain ⟨st, hs, hr⟩ := L12v2_0s1_ok m n (l1291) (k1292) (z1293) (w64 (z1294 + e1376.c0)) (w64 (z1295 + 1)) (b1296) (l1297) (l1298) r h
                exact ⟨st, (round_on (gs := [.t, .t, .t, .t, .t, .f, .t, .el (W2.cells e1376), .a, .t, .a, .an (V.agg [vb b1377, V.nilS]) [], .a, .a, .a]) (notIn []) (by kernel_rfl) (And.intro (decide_eq_true h0) (And.intro (decide_eq_true h0) (And.intro (decide_eq_true h0) (And.intro (decide_eq_true h0) (And.intro (decide_eq_true h1) (And.intro (decide_eq_false h2) (And.intro (decide_eq_true h3) (And.intro (W2.dec_ok h4) (And.intro h5 (And.intro h6 True.intro)))))))))) n).trans hs, hr⟩
              | a1 b1378 k1379 l1380 =>
                rcases ite_eq h with ⟨h7, h⟩ | ⟨h7, h⟩
                · skip
                  rcases ite_eq h with ⟨h8, h⟩ | ⟨h8, h⟩
                  · skip
                    rcases ite_eq h with ⟨h9, h⟩ | ⟨h9, h⟩
                    · skip
                      obtain ⟨st, hs, hr⟩ := L12v2_0s1_ok m n (l1291) (k1292 + 1) (z1293) (w64 (z1294 + e1376.c0)) (w64 (z1295 + 1)) (b1296) (l1297) (List.take k1292 l1298 ++ [[vb b1378, V.list 2 (List.take k1379 l1380)]]) r h
                      exact ⟨st, (round_on (gs := [.t, .t, .t, .t, .t, .f, .t, .el (W2.cells e1376), .a, .t, .a, .an (V.agg [vb b1378, V.hs 0 0 k1379]) [Ob.cells true true 2 l1380], .a, .a, .t, .a, .t, .a, .t]) (notIn []) (by kernel_rfl) (And.intro (decide_eq_true h0) (And.intro (decide_eq_true h0) (And.intro (decide_eq_true h0) (And.intro (decide_eq_true h0) (And.intro (decide_eq_true h1) (And.intro (decide_eq_false h2) (And.intro (decide_eq_true h3) (And.intro (W2.dec_ok h4) (And.intro h5 (And.intro h6 (And.intro (decide_eq_true h7) (And.intro (decide_eq_true h8) (And.intro (decide_eq_true h9) True.intro))))))))))))) n).trans hs, hr⟩
                    · skip
                      cases h
                  · skip
                    cases h
                · skip
                  obtain ⟨st, hs, hr⟩ := L12v2_0s1_ok m n (l1291) (k1292) (z1293) (w64 (z1294 + e1376.c0)) (w64 (z1295 + 1)) (b1296) (l1297) (l1298) r h
                  exact ⟨st, (round_on (gs := [.t, .t, .t, .t, .t, .f, .t, .el (W2.cells e1376), .a, .t, .a, .an (V.agg [vb b1378, V.hs 0 0 k1379]) [Ob.cells true true 2 l1380], .a, .a, .f]) (notIn []) (by kernel_rfl) (And.intro (decide_eq_true h0) (And.intro (decide_eq_true h0) (And.intro (decide_eq_true h0) (And.intro (decide_eq_true h0) (And.intro (decide_eq_true h1) (And.intro (decide_eq_false h2) (And.intro (decide_eq_true h3) (And.intro (W2.dec_ok h4) (And.intro h5 (And.intro h6 (And.intro (decide_eq_false h7) True.intro))))))))))) n).trans hs, hr⟩
            · skip
              obtain ⟨st, hs, hr⟩ := L12v2_0s1_ok m n (l1291) (k1292) (z1293) (w64 (z1294 + e1376.c0)) (w64 (z1295 + 1)) (b1296) (l1297) (l1298) r h
              exact ⟨st, (round_on (gs := [.t, .t, .t, .t, .t, .f, .t, .el (W2.cells e1376), .a, .f]) (notIn []) (by kernel_rfl) (And.intro (decide_eq_true h0) (And.intro (decide_eq_true h0) (And.intro (decide_eq_true h0) (And.intro (decide_eq_true h0) (And.intro (decide_eq_true h1) (And.intro (decide_eq_false h2) (And.intro (decide_eq_true h3) (And.intro (W2.dec_ok h4) (And.intro (Bool.eq_false_iff.mpr h5) True.intro))))))))) n).trans hs, hr⟩
          · skip
            cases h
      · skip
        cases h
        exact ⟨_, round_out (gs := [.t, .t, .t, .t, .f]) (notIn []) (by kernel_rfl) rfl (And.intro (decide_eq_true h0) (And.intro (decide_eq_true h0) (And.intro (decide_eq_true h0) (And.intro (decide_eq_true h0) (And.intro (decide_eq_false h1) True.intro))))) n, l1291, z1293, z1294, z1295, decide (z1295 < 128), decide (z1294 < z1293), b1296, l1297, rfl⟩
    · skip
      cases h
      exact ⟨_, round_out (gs := [.f, .f, .f, .f, .a]) (notIn []) (by kernel_rfl) rfl (And.intro (decide_eq_false h0) (And.intro (decide_eq_false h0) (And.intro (decide_eq_false h0) (And.intro (decide_eq_false h0) True.intro)))) n, l1291, z1293, z1294, z1295, decide (z1295 < 128), b1296, l1297, rfl⟩
def L12v2_0 : Nat → List (List V) → Int → Int → Int → Bool → List (List V) → Option R12v2_0
  | 0, _, _, _, _, _, _ => none
  | n + 1, l1211, z1212, z1213, z1214, b1215, l1216 =>
    if z1214 < 128 then
     if z1213 < z1212 then
      if (↑(List.length l1211) : Int) = 0 then
       none -- none
      else
       if 0 ≤ Int.tmod z1214 (↑(List.length l1211) : Int) then
        ((l1211[Int.toNat (Int.tmod z1214 (↑(List.length l1211) : Int))]?).bind W2.dec).bind fun e1356 =>
        if (Int.tmod z1214 2 == 0) = true then
         (F33v1 (b1215) (l1216) (z1213) (w64 (z1213 + e1356.c0))).bind fun r => match r with
         | .a0 b1357 =>
          L12v2_0 n (l1211) (z1212) (w64 (z1213 + e1356.c0)) (w64 (z1214 + 1)) (b1215) (l1216)
         | .a1 b1358 k1359 l1360 =>
          if (↑k1359 : Int) ≥ 2 then
           if 0 + k1359 ≤ List.length l1360 then
            L12v2_0s1 n (l1211) (1) (z1212) (w64 (z1213 + e1356.c0)) (w64 (z1214 + 1)) (b1215) (l1216) ([[vb b1358, V.list 2 (List.take k1359 l1360)]])
           else
            none -- none
          else
           L12v2_0 n (l1211) (z1212) (w64 (z1213 + e1356.c0)) (w64 (z1214 + 1)) (b1215) (l1216)
        else
         L12v2_0 n (l1211) (z1212) (w64 (z1213 + e1356.c0)) (w64 (z1214 + 1)) (b1215) (l1216)
       else
        none -- none
     else
      some (R12v2_0.e0)
    else
     some (R12v2_0.e1)
theorem L12v2_0_ok (m : Nat) : ∀ (n : Nat) (l1211 : List (List V)) (z1212 : Int) (z1213 : Int) (z1214 : Int) (b1215 : Bool) (l1216 : List (List V)) (r : R12v2_0), L12v2_0 n l1211 z1212 z1213 z1214 b1215 l1216 = some r → ∃ st, loopFrom Try.prog X (call Try.prog X O0 100000 (m + 6)) 12 (0) 100000 B12v2 0 n ({ T := U :: V.list 1 l1211 :: V.ptr 0 0 0 :: U :: U :: V.nilS :: i64 z1212 :: i64 z1213 :: i64 z1214 :: un 56 [], σ := [Ob.cells true false 2 [[vb b1215, V.list 2 l1216]]] }) = some st ∧ r.St st
  | 0, _, _, _, _, _, _, r, h => by cases h
  | n + 1, l1211, z1212, z1213, z1214, b1215, l1216, r, h => by
    rw [L12v2_0] at h
    rcases ite_eq h with ⟨h0, h⟩ | ⟨h0, h⟩
    · skip
      rcases ite_eq h with ⟨h1, h⟩ | ⟨h1, h⟩
      · skip
        rcases ite_eq h with ⟨h2, h⟩ | ⟨h2, h⟩
        · skip
          cases h
        · skip
          rcases ite_eq h with ⟨h3, h⟩ | ⟨h3, h⟩
          · skip
            obtain ⟨e1356, h4, h⟩ := Option.bind_eq_some_iff.mp h
            rcases ite_eq h with ⟨h5, h⟩ | ⟨h5, h⟩
            · skip
              obtain ⟨r6, h6, h⟩ := Option.bind_eq_some_iff.mp h
              have h6 := F33v1_ok (m + 0) (b1215) (l1216) (z1213) (w64 (z1213 + e1356.c0)) r6 h6
              cases r6 with
              | a0 b1357 =>
                obtain ⟨st, hs, hr⟩ := L12v2_0_ok m n (l1211) (z1212) (w64 (z1213 + e1356.c0)) (w64 (z1214 + 1)) (b1215) (l1216) r h
                exact ⟨st, (round_on (gs := [.t, .t, .t, .t, .t, .f, .t, .el (W2.cells e1356), .a, .t, .a, .an (V.agg [vb b1357, V.nilS]) [], .a, .a, .a]) (notIn []) (by kernel_rfl) (And.intro (decide_eq_true h0) (And.intro (decide_eq_true h0) (And.intro (decide_eq_true h0) (And.intro (decide_eq_true h0) (And.intro (decide_eq_true h1) (And.intro (decide_eq_false h2) (And.intro (decide_eq_true h3) (And.intro (W2.dec_ok h4) (And.intro h5 (And.intro h6 True.intro)))))))))) n).trans hs, hr⟩
              | a1 b1358 k1359 l1360 =>
                rcases ite_eq h with ⟨h7, h⟩ | ⟨h7, h⟩
                · skip
                  rcases ite_eq h with ⟨h8, h⟩ | ⟨h8, h⟩
                  · skip
                    obtain ⟨st, hs, hr⟩ := L12v2_0s1_ok m n (l1211) (1) (z1212) (w64 (z1213 + e1356.c0)) (w64 (z1214 + 1)) (b1215) (l1216) ([[vb b1358, V.list 2 (List.take k1359 l1360)]]) r h
                    exact ⟨st, (round_on (gs := [.t, .t, .t, .t, .t, .f, .t, .el (W2.cells e1356), .a, .t, .a, .an (V.agg [vb b1358, V.hs 0 0 k1359]) [Ob.cells true true 2 l1360], .a, .a, .t, .a, .t, .a, .a]) (notIn []) (by kernel_rfl) (And.intro (decide_eq_true h0) (And.intro (decide_eq_true h0) (And.intro (decide_eq_true h0) (And.intro (decide_eq_true h0) (And.intro (decide_eq_true h1) (And.intro (decide_eq_false h2) (And.intro (decide_eq_true h3) (And.intro (W2.dec_ok h4) (And.intro h5 (And.intro h6 (And.intro (decide_eq_true h7) (And.intro (decide_eq_true h8) True.intro)))))))))))) n).trans hs, hr⟩
                  · skip
                    cases h
                · skip
                  obtain ⟨st, hs, hr⟩ := L12v2_0_ok m n (l1211) (z1212) (w64 (z1213 + e1356.c0)) (w64 (z1214 + 1)) (b1215) (l1216) r h
                  exact ⟨st, (round_on (gs := [.t, .t, .t, .t, .t, .f, .t, .el (W2.cells e1356), .a, .t, .a, .an (V.agg [vb b1358, V.hs 0 0 k1359]) [Ob.cells true true 2 l1360], .a, .a, .f]) (notIn []) (by kernel_rfl) (And.intro (decide_eq_true h0) (And.intro (decide_eq_true h0) (And.intro (decide_eq_true h0) (And.intro (decide_eq_true h0) (And.intro (decide_eq_true h1) (And.intro (decide_eq_false h2) (And.intro (decide_eq_true h3) (And.intro (W2.dec_ok h4) (And.intro h5 (And.intro h6 (And.intro (decide_eq_false h7) True.intro))))))))))) n).trans hs, hr⟩
            · skip
              obtain ⟨st, hs, hr⟩ := L12v2_0_ok m n (l1211) (z1212) (w64 (z1213 + e1356.c0)) (w64 (z1214 + 1)) (b1215) (l1216) r h
              exact ⟨st, (round_on (gs := [.t, .t, .t, .t, .t, .f, .t, .el (W2.cells e1356), .a, .f]) (notIn []) (by kernel_rfl) (And.intro (decide_eq_true h0) (And.intro (decide_eq_true h0) (And.intro (decide_eq_true h0) (And.intro (decide_eq_true h0) (And.intro (decide_eq_true h1) (And.intro (decide_eq_false h2) (And.intro (decide_eq_true h3) (And.intro (W2.dec_ok h4) (And.intro (Bool.eq_false_iff.mpr h5) True.intro))))))))) n).trans hs, hr⟩
          · skip
            cases h
      · skip
        cases h
        exact ⟨_, round_out (gs := [.t, .t, .t, .t, .f]) (notIn []) (by kernel_rfl) rfl (And.intro (decide_eq_true h0) (And.intro (decide_eq_true h0) (And.intro (decide_eq_true h0) (And.intro (decide_eq_true h0) (And.intro (decide_eq_false h1) True.intro))))) n, l1211, z1212, z1213, z1214, decide (z1214 < 128), decide (z1213 < z1212), b1215, l1216, rfl⟩
    · skip
      cases h
      exact ⟨_, round_out (gs := [.f, .f, .f, .f, .a]) (notIn []) (by kernel_rfl) rfl (And.intro (decide_eq_false h0) (And.intro (decide_eq_false h0) (And.intro (decide_eq_false h0) (And.intro (decide_eq_false h0) True.intro)))) n, l1211, z1212, z1213, z1214, decide (z1214 < 128), b1215, l1216, rfl⟩
inductive A12v2 where
  | a0 (k1350 : Nat) (l1351 : List (List V))
  | a1
@[reducible] def A12v2.out : A12v2 → V × Store
  | .a0 k1350 l1351 => (V.hs 0 0 k1350, [Ob.cells true true 2 l1351])
  | .a1 => (V.nilS, [])
def F12v2 (b849 : Bool) (l850 : List (List V)) (l851 : List (List V)) : Option A12v2 :=
  if ((↑(List.length l851) : Int) == 0) = true then
   (F31v1 (l850)).bind fun r => match r with
   | .a0 k1348 l1349 =>
    if 0 + k1348 ≤ List.length l1349 then
     some (A12v2.a0 (1) ([[vb b849, V.list 2 (List.take k1348 l1349)]]))
    else
     none -- none
  else
   (F30 (l851)).bind fun r => match r with
   | .a0 b1352 =>
    if (!b1352) = true then
     (F31v1 (l850)).bind fun r => match r with
     | .a0 k1353 l1354 =>
      if 0 + k1353 ≤ List.length l1354 then
       some (A12v2.a0 (1) ([[vb b849, V.list 2 (List.take k1353 l1354)]]))
      else
       none -- none
    else
     (F32v1 (b849) (l850)).bind fun r => match r with
     | .a0 z1355 =>
      (L12v2_0 100000 (l851) (z1355) (0) (0) (b849) (l850)).bind fun r => match r with
      | .e0 =>
       some (A12v2.a1)
      | .e1 =>
       some (A12v2.a1)
      | .e2 k1416 l1424 =>
       some (A12v2.a0 (k1416) (l1424))
      | .e3 k1426 l1433 =>
       some (A12v2.a0 (k1426) (l1433))
theorem F12v2_ok (m : Nat) (b849 : Bool) (l850 : List (List V)) (l851 : List (List V)) (r : A12v2) (h : F12v2 b849 l850 l851 = some r) : call Try.prog X O0 100000 (m + 7) 12 ([V.agg [vb b849, V.list 2 l850], V.list 1 l851]) ([]) = some r.out := by
  unfold F12v2 at h
  rcases ite_eq h with ⟨h0, h⟩ | ⟨h0, h⟩
  · skip
    obtain ⟨r1, h1, h⟩ := Option.bind_eq_some_iff.mp h
    have h1 := F31v1_ok (m + 5) (l850) r1 h1
    cases r1 with
    | a0 k1348 l1349 =>
      rcases ite_eq h with ⟨h2, h⟩ | ⟨h2, h⟩
      · skip
        cases h
        exact call_pathL (gs := [.t, .t, .t, .t, .a, .a, .a, .an (V.hs 0 0 k1348) [Ob.cells true true 2 l1349], .t, .ft [⟨0, [0], []⟩, ⟨1, [0], []⟩, ⟨2, [0], []⟩, ⟨3, [0], []⟩, ⟨4, [1], [1]⟩, ⟨5, [], []⟩, ⟨6, [1, 2], [1, 2]⟩, ⟨7, [], []⟩]]) (notIn []) rfl rfl (by kernel_rfl) (And.intro h0 (And.intro h0 (And.intro h0 (And.intro h0 (And.intro h1 (And.intro (decide_eq_true h2) (And.intro (Eq.refl ([⟨0, [0], []⟩, ⟨1, [0], []⟩, ⟨2, [0], []⟩, ⟨3, [0], []⟩, ⟨4, [1], [1]⟩, ⟨5, [], []⟩, ⟨6, [1, 2], [1, 2]⟩, ⟨7, [], []⟩] : List Foot)) True.intro)))))))
      · skip
        cases h
  · skip
    obtain ⟨r1, h1, h⟩ := Option.bind_eq_some_iff.mp h
    have h1 := F30_ok (m + 2) (l851) r1 h1
    cases r1 with
    | a0 b1352 =>
      rcases ite_eq h with ⟨h2, h⟩ | ⟨h2, h⟩
      · skip
        obtain ⟨r3, h3, h⟩ := Option.bind_eq_some_iff.mp h
        have h3 := F31v1_ok (m + 5) (l850) r3 h3
        cases r3 with
        | a0 k1353 l1354 =>
          rcases ite_eq h with ⟨h4, h⟩ | ⟨h4, h⟩
          · skip
            cases h
            exact call_pathL (gs := [.f, .f, .an (vb b1352) [], .f, .f, .t, .a, .a, .an (V.hs 0 0 k1353) [Ob.cells true true 2 l1354], .t, .ft [⟨0, [0], []⟩, ⟨1, [0], []⟩, ⟨2, [0], []⟩, ⟨3, [0], []⟩, ⟨4, [1], [1]⟩, ⟨5, [], []⟩, ⟨6, [1, 2], [1, 2]⟩, ⟨7, [], []⟩]]) (notIn []) rfl rfl (by kernel_rfl) (And.intro (Bool.eq_false_iff.mpr h0) (And.intro (Bool.eq_false_iff.mpr h0) (And.intro h1 (And.intro (Bool.eq_false_iff.mpr h0) (And.intro (Bool.eq_false_iff.mpr h0) (And.intro h2 (And.intro h3 (And.intro (decide_eq_true h4) (And.intro (Eq.refl ([⟨0, [0], []⟩, ⟨1, [0], []⟩, ⟨2, [0], []⟩, ⟨3, [0], []⟩, ⟨4, [1], [1]⟩, ⟨5, [], []⟩, ⟨6, [1, 2], [1, 2]⟩, ⟨7, [], []⟩] : List Foot)) True.intro)))))))))
          · skip
            cases h
      · skip
        obtain ⟨r3, h3, h⟩ := Option.bind_eq_some_iff.mp h
        have h3 := F32v1_ok (m + 1) (b849) (l850) r3 h3
        cases r3 with
        | a0 z1355 =>
          obtain ⟨r4, h4, h⟩ := Option.bind_eq_some_iff.mp h
          obtain ⟨st4, h4, hr4⟩ := L12v2_0_ok m 100000 (l851) (z1355) (0) (0) (b849) (l850) r4 h4
          have h4 : loopRun Try.prog X (call Try.prog X O0 100000 (m + 6)) 12 (0) 100000 B12v2 0 ({ T := V.agg [vb b849, V.list 2 l850] :: V.list 1 l851 :: V.ptr 0 0 0 :: U :: V.nilS :: V.nilS :: i64 z1355 :: i64 0 :: i64 0 :: U :: U :: V.list 1 l851 :: i64 (↑(List.length l851) : Int) :: vb ((↑(List.length l851) : Int) == 0) :: vb ((↑(List.length l851) : Int) == 0) :: V.list 1 l851 :: vb b1352 :: (vb !b1352) :: (vb !b1352) :: un 7 (V.agg [vb b849, V.list 2 l850] :: i64 z1355 :: un 37 []), σ := [Ob.cells true false 2 [[vb b849, V.list 2 l850]]] }) = some st4 := by
            rw [loopRun_from, show prep (0) (X.keep 12 0) ({ T := V.agg [vb b849, V.list 2 l850] :: V.list 1 l851 :: V.ptr 0 0 0 :: U :: V.nilS :: V.nilS :: i64 z1355 :: i64 0 :: i64 0 :: U :: U :: V.list 1 l851 :: i64 (↑(List.length l851) : Int) :: vb ((↑(List.length l851) : Int) == 0) :: vb ((↑(List.length l851) : Int) == 0) :: V.list 1 l851 :: vb b1352 :: (vb !b1352) :: (vb !b1352) :: un 7 (V.agg [vb b849, V.list 2 l850] :: i64 z1355 :: un 37 []), σ := [Ob.cells true false 2 [[vb b849, V.list 2 l850]]] }) = { T := U :: V.list 1 l851 :: V.ptr 0 0 0 :: U :: U :: V.nilS :: i64 z1355 :: i64 0 :: i64 0 :: un 56 [], σ := [Ob.cells true false 2 [[vb b849, V.list 2 l850]]] } by kernel_rfl]
            exact h4
          cases r4 with
          | e0 =>
            obtain ⟨l1400, z1401, z1402, z1403, b1404, b1405, b1406, l1407, rfl⟩ := hr4
            cases h
            exact call_pathL (gs := [.f, .f, .an (vb b1352) [], .f, .f, .f, .a, .an (i64 z1355) [], .lp (VX.exit 0) (s12v2_0_0 l1400 z1401 z1402 z1403 b1404 b1405 b1406 l1407)]) (notIn []) rfl rfl (by kernel_rfl) (And.intro (Bool.eq_false_iff.mpr h0) (And.intro (Bool.eq_false_iff.mpr h0) (And.intro h1 (And.intro (Bool.eq_false_iff.mpr h0) (And.intro (Bool.eq_false_iff.mpr h0) (And.intro (Bool.eq_false_iff.mpr h2) (And.intro h3 (And.intro h4 True.intro))))))))
          | e1 =>
            obtain ⟨l1408, z1409, z1410, z1411, b1412, b1413, l1414, rfl⟩ := hr4
            cases h
            exact call_pathL (gs := [.f, .f, .an (vb b1352) [], .f, .f, .f, .a, .an (i64 z1355) [], .lp (VX.exit 0) (s12v2_0_1 l1408 z1409 z1410 z1411 b1412 b1413 l1414)]) (notIn []) rfl rfl (by kernel_rfl) (And.intro (Bool.eq_false_iff.mpr h0) (And.intro (Bool.eq_false_iff.mpr h0) (And.intro h1 (And.intro (Bool.eq_false_iff.mpr h0) (And.intro (Bool.eq_false_iff.mpr h0) (And.intro (Bool.eq_false_iff.mpr h2) (And.intro h3 (And.intro h4 True.intro))))))))
          | e2 k1416 l1424 =>
            obtain ⟨l1415, z1417, z1418, z1419, b1420, b1421, b1422, l1423, rfl⟩ := hr4
            cases h
            exact call_pathL (gs := [.f, .f, .an (vb b1352) [], .f, .f, .f, .a, .an (i64 z1355) [], .lp (VX.exit 0) (s12v2_0_2 l1415 k1416 z1417 z1418 z1419 b1420 b1421 b1422 l1423 l1424)]) (notIn []) rfl rfl (by kernel_rfl) (And.intro (Bool.eq_false_iff.mpr h0) (And.intro (Bool.eq_false_iff.mpr h0) (And.intro h1 (And.intro (Bool.eq_false_iff.mpr h0) (And.intro (Bool.eq_false_iff.mpr h0) (And.intro (Bool.eq_false_iff.mpr h2) (And.intro h3 (And.intro h4 True.intro))))))))
          | e3 k1426 l1433 =>
            obtain ⟨l1425, z1427, z1428, z1429, b1430, b1431, l1432, rfl⟩ := hr4
            cases h
            exact call_pathL (gs := [.f, .f, .an (vb b1352) [], .f, .f, .f, .a, .an (i64 z1355) [], .lp (VX.exit 0) (s12v2_0_3 l1425 k1426 z1427 z1428 z1429 b1430 b1431 l1432 l1433)]) (notIn []) rfl rfl (by kernel_rfl) (And.intro (Bool.eq_false_iff.mpr h0) (And.intro (Bool.eq_false_iff.mpr h0) (And.intro h1 (And.intro (Bool.eq_false_iff.mpr h0) (And.intro (Bool.eq_false_iff.mpr h0) (And.intro (Bool.eq_false_iff.mpr h2) (And.intro h3 (And.intro h4 True.intro))))))))
/-! ## 74 -/
noncomputable abbrev B74v1 : Code := (Try.f74.body).getD .skip
inductive R74v1_0 where
  | e0
@[reducible] def s74v1_0_0 : S := { T := V.nilS :: V.fn 52 [] :: un 5 (i64 0 :: i64 0 :: vb false :: un 9 []), σ := [] }
def R74v1_0.St : R74v1_0 → VX × S → Prop
  | .e0, p => p = (VX.exit 0, s74v1_0_0)
def L74v1_0 : Nat → Option R74v1_0
  | 0 => none
  | n + 1 =>
    some (R74v1_0.e0)
theorem L74v1_0_ok (m : Nat) : ∀ (n : Nat) (r : R74v1_0), L74v1_0 n = some r → ∃ st, loopFrom Try.prog X (call Try.prog X O0 100000 (m + 0)) 74 (0) 100000 B74v1 0 n ({ T := V.nilS :: V.fn 52 [] :: un 5 (i64 0 :: i64 0 :: un 10 []), σ := [] }) = some st ∧ r.St st
  | 0, r, h => by cases h
  | n + 1, r, h => by
    rw [L74v1_0] at h
    cases h
    exact ⟨_, round_out (gs := [.a]) (notIn []) (by kernel_rfl) rfl True.intro n, rfl⟩
inductive A74v1 where
  | a0 (z1445 : Int)
@[reducible] def A74v1.out : A74v1 → V × Store
  | .a0 z1445 => (i64 z1445, [])
def F74v1 : Option A74v1 :=
  (L74v1_0 100000).bind fun r => match r with
  | .e0 =>
   some (A74v1.a0 (-1))
theorem F74v1_ok (m : Nat) (r : A74v1) (h : F74v1 = some r) : call Try.prog X O0 100000 (m + 1) 74 ([V.nilS, V.fn 52 []]) ([]) = some r.out := by
  unfold F74v1 at h
  obtain ⟨r0, h0, h⟩ := Option.bind_eq_some_iff.mp h
  obtain ⟨st0, h0, hr0⟩ := L74v1_0_ok m 100000 r0 h0
  have h0 : loopRun Try.prog X (call Try.prog X O0 100000 (m + 0)) 74 (0) 100000 B74v1 0 ({ T := V.nilS :: V.fn 52 [] :: U :: U :: i64 0 :: U :: V.nilS :: i64 0 :: i64 0 :: un 10 [], σ := [] }) = some st0 := by
    rw [loopRun_from, show prep (0) (X.keep 74 0) ({ T := V.nilS :: V.fn 52 [] :: U :: U :: i64 0 :: U :: V.nilS :: i64 0 :: i64 0 :: un 10 [], σ := [] }) = { T := V.nilS :: V.fn 52 [] :: un 5 (i64 0 :: i64 0 :: un 10 []), σ := [] } by kernel_rfl]
    exact h0
  cases r0 with
  | e0 =>
    obtain ⟨rfl⟩ := hr0
    cases h
    exact call_pathL (gs := [.lp (VX.exit 0) (s74v1_0_0)]) (notIn []) rfl rfl (by kernel_rfl) (And.intro h0 True.intro)
/-! ## 51 -/
inductive A51v1 where
  | a0 (b1447 : Bool)
@[reducible] def A51v1.out : A51v1 → V × Store
  | .a0 b1447 => (vb b1447, [])
def F51v1 : Option A51v1 :=
  (F74v1).bind fun r => match r with
  | .a0 z1446 =>
   some (A51v1.a0 (decide (z1446 ≥ 0)))
theorem F51v1_ok (m : Nat) (r : A51v1) (h : F51v1 = some r) : call Try.prog X O0 100000 (m + 2) 51 ([V.nilS, V.fn 52 []]) ([]) = some r.out := by
  unfold F51v1 at h
  obtain ⟨r0, h0, h⟩ := Option.bind_eq_some_iff.mp h
  have h0 := F74v1_ok (m + 0) r0 h0
  cases r0 with
  | a0 z1446 =>
    cases h
    exact call_pathL (gs := [.an (i64 z1446) []]) (notIn []) rfl rfl (by kernel_rfl) (And.intro h0 True.intro)
/-! ## 30 -/
inductive A30v1 where
  | a0 (b1449 : Bool)
@[reducible] def A30v1.out : A30v1 → V × Store
  | .a0 b1449 => (vb b1449, [])
def F30v1 : Option A30v1 :=
  (F51v1).bind fun r => match r with
  | .a0 b1448 =>
   some (A30v1.a0 (!b1448))
theorem F30v1_ok (m : Nat) (r : A30v1) (h : F30v1 = some r) : call Try.prog X O0 100000 (m + 3) 30 ([V.nilS]) ([]) = some r.out := by
  unfold F30v1 at h
  obtain ⟨r0, h0, h⟩ := Option.bind_eq_some_iff.mp h
  have h0 := F51v1_ok (m + 0) r0 h0
  cases r0 with
  | a0 b1448 =>
    cases h
    exact call_pathL (gs := [.a, .a, .an (vb b1448) [], .a, .a]) (notIn []) rfl rfl (by kernel_rfl) (And.intro h0 True.intro)
/-! ## 14 -/
inductive A14 where
  | a0 (b1451 : Bool)
@[reducible] def A14.out : A14 → V × Store
  | .a0 b1451 => (vb b1451, [])
def F14 : Option A14 :=
  (F12v2 (false) ([[i64 0, i64 0], [i64 1048576, i64 0]]) ([[i64 131072], [i64 196608]])).bind fun r => match r with
  | .a0 k1434 l1435 =>
   if ((↑k1434 : Int) == 4) = true then
    if (0 : Int) ≤ (0 : Int) ∧ (0 : Int) < (↑k1434 : Int) then
     orE ((l1435[(0 : Nat)]?).bind W25.dec) (fun e1436 =>
      if ((↑(List.length e1436.2) : Int) == 2) = true then
       if (0 : Int) ≤ (1 : Int) ∧ (1 : Int) < (↑k1434 : Int) then
        orE ((l1435[(1 : Nat)]?).bind W25.dec) (fun e1437 =>
         if ((↑(List.length e1437.2) : Int) == 2) = true then
          ((e1436.2[(1 : Nat)]?).bind W43.dec).bind fun e1438 =>
          if (e1438.c0 == 131072) = true then
           ((e1437.2[(0 : Nat)]?).bind W43.dec).bind fun e1439 =>
           if (e1439.c0 == 327680) = true then
            (F30 ([[i64 0]])).bind fun r => match r with
            | .a0 b1440 =>
             if (!b1440) = true then
              (F30v1).bind fun r => match r with
              | .a0 b1450 =>
               some (A14.a0 (b1450))
             else
              some (A14.a0 (false))
           else
            some (A14.a0 (false))
          else
           some (A14.a0 (false))
         else
          some (A14.a0 (false))
        )
        (
         ((l1435[(1 : Nat)]?).bind W25n.dec).bind fun e1452 =>
         some (A14.a0 (false))
        )
       else
        none -- none
      else
       some (A14.a0 (false))
     )
     (
      ((l1435[(0 : Nat)]?).bind W25n.dec).bind fun e1453 =>
      some (A14.a0 (false))
     )
    else
     none -- none
   else
    some (A14.a0 (false))
  | .a1 =>
   some (A14.a0 (false))
theorem F14_ok (m : Nat) (r : A14) (h : F14 = some r) : call Try.prog X O0 100000 (m + 8) 14 ([]) ([]) = some r.out := by
  unfold F14 at h
  obtain ⟨r0, h0, h⟩ := Option.bind_eq_some_iff.mp h
  have h0 := F12v2_ok (m + 0) (false) ([[i64 0, i64 0], [i64 1048576, i64 0]]) ([[i64 131072], [i64 196608]]) r0 h0
  cases r0 with
  | a0 k1434 l1435 =>
    rcases ite_eq h with ⟨h1, h⟩ | ⟨h1, h⟩
    · skip
      rcases ite_eq h with ⟨h2, h⟩ | ⟨h2, h⟩
      · skip
        rcases orE_eq h with ⟨e1436, h3, h⟩ | ⟨h3, h⟩
        · skip
          rcases ite_eq h with ⟨h4, h⟩ | ⟨h4, h⟩
          · skip
            rcases ite_eq h with ⟨h5, h⟩ | ⟨h5, h⟩
            · skip
              rcases orE_eq h with ⟨e1437, h6, h⟩ | ⟨h6, h⟩
              · skip
                rcases ite_eq h with ⟨h7, h⟩ | ⟨h7, h⟩
                · skip
                  obtain ⟨e1438, h8, h⟩ := Option.bind_eq_some_iff.mp h
                  rcases ite_eq h with ⟨h9, h⟩ | ⟨h9, h⟩
                  · skip
                    obtain ⟨e1439, h10, h⟩ := Option.bind_eq_some_iff.mp h
                    rcases ite_eq h with ⟨h11, h⟩ | ⟨h11, h⟩
                    · skip
                      obtain ⟨r12, h12, h⟩ := Option.bind_eq_some_iff.mp h
                      have h12 := F30_ok (m + 3) ([[i64 0]]) r12 h12
                      cases r12 with
                      | a0 b1440 =>
                        rcases ite_eq h with ⟨h13, h⟩ | ⟨h13, h⟩
                        · skip
                          obtain ⟨r14, h14, h⟩ := Option.bind_eq_some_iff.mp h
                          have h14 := F30v1_ok (m + 4) r14 h14
                          cases r14 with
                          | a0 b1450 =>
                            cases h
                            exact call_pathL (gs := [.a, .a, .a, .a, .an (V.hs 0 0 k1434) [Ob.cells true true 2 l1435], .t, .t, .t, .t, .t, .el (W25.cells e1436), .t, .t, .t, .t, .t, .t, .t, .t, .el (W25.cells e1437), .t, .t, .t, .t, .t, .t, .t, .t, .el (W25.cells e1436), .t, .a, .el (W43.cells e1438), .t, .t, .t, .t, .t, .t, .t, .t, .t, .el (W25.cells e1437), .t, .a, .el (W43.cells e1439), .t, .t, .t, .t, .t, .t, .a, .an (vb b1440) [], .t, .t, .t, .an (vb b1450) [], .t]) (notIn []) rfl rfl (by kernel_rfl) (And.intro h0 (And.intro h1 (And.intro h1 (And.intro (decide_eq_true h2) (And.intro h1 (And.intro h1 (And.intro (W25.dec_ok h3) (And.intro h1 (And.intro h1 (And.intro h1 (And.intro h4 (And.intro h4 (And.intro (decide_eq_true h5) (And.intro h4 (And.intro h4 (And.intro (W25.dec_ok h6) (And.intro h4 (And.intro h4 (And.intro h4 (And.intro h7 (And.intro h7 (And.intro (decide_eq_true h2) (And.intro h7 (And.intro h7 (And.intro (W25.dec_ok h3) (And.intro h7 (And.intro (W43.dec_ok h8) (And.intro h7 (And.intro h7 (And.intro h7 (And.intro h7 (And.intro h9 (And.intro h9 (And.intro (decide_eq_true h5) (And.intro h9 (And.intro h9 (And.intro (W25.dec_ok h6) (And.intro h9 (And.intro (W43.dec_ok h10) (And.intro h9 (And.intro h9 (And.intro h9 (And.intro h9 (And.intro h11 (And.intro h11 (And.intro h12 (And.intro h11 (And.intro h11 (And.intro h13 (And.intro h14 (And.intro h13 True.intro)))))))))))))))))))))))))))))))))))))))))))))))))))
                        · skip
                          cases h
                          exact call_pathL (gs := [.a, .a, .a, .a, .an (V.hs 0 0 k1434) [Ob.cells true true 2 l1435], .t, .t, .t, .t, .t, .el (W25.cells e1436), .t, .t, .t, .t, .t, .t, .t, .t, .el (W25.cells e1437), .t, .t, .t, .t, .t, .t, .t, .t, .el (W25.cells e1436), .t, .a, .el (W43.cells e1438), .t, .t, .t, .t, .t, .t, .t, .t, .t, .el (W25.cells e1437), .t, .a, .el (W43.cells e1439), .t, .t, .t, .t, .t, .t, .a, .an (vb b1440) [], .t, .t, .f, .f]) (notIn []) rfl rfl (by kernel_rfl) (And.intro h0 (And.intro h1 (And.intro h1 (And.intro (decide_eq_true h2) (And.intro h1 (And.intro h1 (And.intro (W25.dec_ok h3) (And.intro h1 (And.intro h1 (And.intro h1 (And.intro h4 (And.intro h4 (And.intro (decide_eq_true h5) (And.intro h4 (And.intro h4 (And.intro (W25.dec_ok h6) (And.intro h4 (And.intro h4 (And.intro h4 (And.intro h7 (And.intro h7 (And.intro (decide_eq_true h2) (And.intro h7 (And.intro h7 (And.intro (W25.dec_ok h3) (And.intro h7 (And.intro (W43.dec_ok h8) (And.intro h7 (And.intro h7 (And.intro h7 (And.intro h7 (And.intro h9 (And.intro h9 (And.intro (decide_eq_true h5) (And.intro h9 (And.intro h9 (And.intro (W25.dec_ok h6) (And.intro h9 (And.intro (W43.dec_ok h10) (And.intro h9 (And.intro h9 (And.intro h9 (And.intro h9 (And.intro h11 (And.intro h11 (And.intro h12 (And.intro h11 (And.intro h11 (And.intro (Bool.eq_false_iff.mpr h13) (And.intro (Bool.eq_false_iff.mpr h13) True.intro))))))))))))))))))))))))))))))))))))))))))))))))))
                    · skip
                      cases h
                      exact call_pathL (gs := [.a, .a, .a, .a, .an (V.hs 0 0 k1434) [Ob.cells true true 2 l1435], .t, .t, .t, .t, .t, .el (W25.cells e1436), .t, .t, .t, .t, .t, .t, .t, .t, .el (W25.cells e1437), .t, .t, .t, .t, .t, .t, .t, .t, .el (W25.cells e1436), .t, .a, .el (W43.cells e1438), .t, .t, .t, .t, .t, .t, .t, .t, .t, .el (W25.cells e1437), .t, .a, .el (W43.cells e1439), .t, .t, .t, .t, .f, .f, .f, .f, .a, .a]) (notIn []) rfl rfl (by kernel_rfl) (And.intro h0 (And.intro h1 (And.intro h1 (And.intro (decide_eq_true h2) (And.intro h1 (And.intro h1 (And.intro (W25.dec_ok h3) (And.intro h1 (And.intro h1 (And.intro h1 (And.intro h4 (And.intro h4 (And.intro (decide_eq_true h5) (And.intro h4 (And.intro h4 (And.intro (W25.dec_ok h6) (And.intro h4 (And.intro h4 (And.intro h4 (And.intro h7 (And.intro h7 (And.intro (decide_eq_true h2) (And.intro h7 (And.intro h7 (And.intro (W25.dec_ok h3) (And.intro h7 (And.intro (W43.dec_ok h8) (And.intro h7 (And.intro h7 (And.intro h7 (And.intro h7 (And.intro h9 (And.intro h9 (And.intro (decide_eq_true h5) (And.intro h9 (And.intro h9 (And.intro (W25.dec_ok h6) (And.intro h9 (And.intro (W43.dec_ok h10) (And.intro h9 (And.intro h9 (And.intro h9 (And.intro h9 (And.intro (Bool.eq_false_iff.mpr h11) (And.intro (Bool.eq_false_iff.mpr h11) (And.intro (Bool.eq_false_iff.mpr h11) (And.intro (Bool.eq_false_iff.mpr h11) True.intro)))))))))))))))))))))))))))))))))))))))))))))))
                  · skip
                    cases h
                    exact call_pathL (gs := [.a, .a, .a, .a, .an (V.hs 0 0 k1434) [Ob.cells true true 2 l1435], .t, .t, .t, .t, .t, .el (W25.cells e1436), .t, .t, .t, .t, .t, .t, .t, .t, .el (W25.cells e1437), .t, .t, .t, .t, .t, .t, .t, .t, .el (W25.cells e1436), .t, .a, .el (W43.cells e1438), .t, .t, .t, .t, .f, .f, .f, .f, .f, .f, .f, .f, .f, .a, .a, .a, .a, .a, .a]) (notIn []) rfl rfl (by kernel_rfl) (And.intro h0 (And.intro h1 (And.intro h1 (And.intro (decide_eq_true h2) (And.intro h1 (And.intro h1 (And.intro (W25.dec_ok h3) (And.intro h1 (And.intro h1 (And.intro h1 (And.intro h4 (And.intro h4 (And.intro (decide_eq_true h5) (And.intro h4 (And.intro h4 (And.intro (W25.dec_ok h6) (And.intro h4 (And.intro h4 (And.intro h4 (And.intro h7 (And.intro h7 (And.intro (decide_eq_true h2) (And.intro h7 (And.intro h7 (And.intro (W25.dec_ok h3) (And.intro h7 (And.intro (W43.dec_ok h8) (And.intro h7 (And.intro h7 (And.intro h7 (And.intro h7 (And.intro (Bool.eq_false_iff.mpr h9) (And.intro (Bool.eq_false_iff.mpr h9) (And.intro (Bool.eq_false_iff.mpr h9) (And.intro (Bool.eq_false_iff.mpr h9) (And.intro (Bool.eq_false_iff.mpr h9) (And.intro (Bool.eq_false_iff.mpr h9) (And.intro (Bool.eq_false_iff.mpr h9) (And.intro (Bool.eq_false_iff.mpr h9) (And.intro (Bool.eq_false_iff.mpr h9) True.intro))))))))))))))))))))))))))))))))))))))))
                · skip
                  cases h
                  exact call_pathL (gs := [.a, .a, .a, .a, .an (V.hs 0 0 k1434) [Ob.cells true true 2 l1435], .t, .t, .t, .t, .t, .el (W25.cells e1436), .t, .t, .t, .t, .t, .t, .t, .t, .el (W25.cells e1437), .t, .t, .t, .f, .f, .f, .f, .f, .f, .f, .f, .f, .a, .a, .a, .a, .a, .a, .a, .a, .a, .a, .a, .a, .a, .a, .a]) (notIn []) rfl rfl (by kernel_rfl) (And.intro h0 (And.intro h1 (And.intro h1 (And.intro (decide_eq_true h2) (And.intro h1 (And.intro h1 (And.intro (W25.dec_ok h3) (And.intro h1 (And.intro h1 (And.intro h1 (And.intro h4 (And.intro h4 (And.intro (decide_eq_true h5) (And.intro h4 (And.intro h4 (And.intro (W25.dec_ok h6) (And.intro h4 (And.intro h4 (And.intro h4 (And.intro (Bool.eq_false_iff.mpr h7) (And.intro (Bool.eq_false_iff.mpr h7) (And.intro (Bool.eq_false_iff.mpr h7) (And.intro (Bool.eq_false_iff.mpr h7) (And.intro (Bool.eq_false_iff.mpr h7) (And.intro (Bool.eq_false_iff.mpr h7) (And.intro (Bool.eq_false_iff.mpr h7) (And.intro (Bool.eq_false_iff.mpr h7) (And.intro (Bool.eq_false_iff.mpr h7) True.intro))))))))))))))))))))))))))))
              · skip
                obtain ⟨e1452, h7, h⟩ := Option.bind_eq_some_iff.mp h
                cases h
                exact call_pathL (gs := [.a, .a, .a, .a, .an (V.hs 0 0 k1434) [Ob.cells true true 2 l1435], .t, .t, .t, .t, .t, .el (W25.cells e1436), .t, .t, .t, .t, .t, .t, .t, .t, .el (W25n.cells e1452), .t, .t, .t, .a, .a, .a, .a, .a, .a, .a, .a, .a, .a, .a, .a, .a, .a, .a, .a, .a, .a, .a, .a, .a, .a, .a, .a]) (notIn []) rfl rfl (by kernel_rfl) (And.intro h0 (And.intro h1 (And.intro h1 (And.intro (decide_eq_true h2) (And.intro h1 (And.intro h1 (And.intro (W25.dec_ok h3) (And.intro h1 (And.intro h1 (And.intro h1 (And.intro h4 (And.intro h4 (And.intro (decide_eq_true h5) (And.intro h4 (And.intro h4 (And.intro (W25n.dec_ok h7) (And.intro h4 (And.intro h4 (And.intro h4 True.intro)))))))))))))))))))
            · skip
              cases h
          · skip
            cases h
            exact call_pathL (gs := [.a, .a, .a, .a, .an (V.hs 0 0 k1434) [Ob.cells true true 2 l1435], .t, .t, .t, .t, .t, .el (W25.cells e1436), .t, .t, .t, .f, .f, .f, .f, .f, .f, .f, .a, .a, .a, .a, .a, .a, .a, .a, .a, .a, .a, .a, .a, .a, .a, .a, .a, .a, .a, .a, .a, .a, .a, .a]) (notIn []) rfl rfl (by kernel_rfl) (And.intro h0 (And.intro h1 (And.intro h1 (And.intro (decide_eq_true h2) (And.intro h1 (And.intro h1 (And.intro (W25.dec_ok h3) (And.intro h1 (And.intro h1 (And.intro h1 (And.intro (Bool.eq_false_iff.mpr h4) (And.intro (Bool.eq_false_iff.mpr h4) (And.intro (Bool.eq_false_iff.mpr h4) (And.intro (Bool.eq_false_iff.mpr h4) (And.intro (Bool.eq_false_iff.mpr h4) (And.intro (Bool.eq_false_iff.mpr h4) (And.intro (Bool.eq_false_iff.mpr h4) True.intro)))))))))))))))))
        · skip
          obtain ⟨e1453, h4, h⟩ := Option.bind_eq_some_iff.mp h
          cases h
          exact call_pathL (gs := [.a, .a, .a, .a, .an (V.hs 0 0 k1434) [Ob.cells true true 2 l1435], .t, .t, .t, .t, .t, .el (W25n.cells e1453), .t, .t, .t, .a, .a, .a, .a, .a, .a, .a, .a, .a, .a, .a, .a, .a, .a, .a, .a, .a, .a, .a, .a, .a, .a, .a, .a, .a, .a, .a, .a, .a, .a, .a]) (notIn []) rfl rfl (by kernel_rfl) (And.intro h0 (And.intro h1 (And.intro h1 (And.intro (decide_eq_true h2) (And.intro h1 (And.intro h1 (And.intro (W25n.dec_ok h4) (And.intro h1 (And.intro h1 (And.intro h1 True.intro))))))))))
      · skip
        cases h
    · skip
      cases h
      exact call_pathL (gs := [.a, .a, .a, .a, .an (V.hs 0 0 k1434) [Ob.cells true true 2 l1435], .f, .f, .f, .f, .f, .f, .f, .a, .a, .a, .a, .a, .a, .a, .a, .a, .a, .a, .a, .a, .a, .a, .a, .a, .a, .a, .a, .a, .a, .a, .a, .a, .a, .a, .a, .a, .a, .a]) (notIn []) rfl rfl (by kernel_rfl) (And.intro h0 (And.intro (Bool.eq_false_iff.mpr h1) (And.intro (Bool.eq_false_iff.mpr h1) (And.intro (Bool.eq_false_iff.mpr h1) (And.intro (Bool.eq_false_iff.mpr h1) (And.intro (Bool.eq_false_iff.mpr h1) (And.intro (Bool.eq_false_iff.mpr h1) (And.intro (Bool.eq_false_iff.mpr h1) True.intro))))))))
  | a1 =>
    cases h
    exact call_pathL (gs := [.a, .a, .a, .a, .an (V.nilS) [], .a, .a, .a, .a, .a, .a, .a, .a, .a, .a, .a, .a, .a, .a, .a, .a, .a, .a, .a, .a, .a, .a, .a, .a, .a, .a, .a, .a, .a, .a, .a, .a, .a, .a, .a, .a, .a, .a]) (notIn []) rfl rfl (by kernel_rfl) (And.intro h0 True.intro)
/-! ## 21 -/
def F21v1 (b1462 : Bool) (l1463 : List (List V)) : Int :=
  if (↑(List.length l1463) : Int) < 2 then
   0
  else
   if (b1462) = true then
    (↑(List.length l1463) : Int)
   else
    w64 ((↑(List.length l1463) : Int) - 1)
theorem F21v1_ok (m : Nat) (b1462 : Bool) (l1463 : List (List V)) (z1466 : Int) (h : F21v1 b1462 l1463 = z1466) : call Try.prog X O0 100000 (m + 1) 21 ([V.agg [vb b1462, V.list 2 l1463]]) ([]) = some (i64 z1466, []) := by
  unfold F21v1 at h
  rcases ite_eq h with ⟨h0, h⟩ | ⟨h0, h⟩
  · skip
    subst h
    exact call_pathL (gs := [.a, .t]) (notIn []) rfl rfl (by kernel_rfl) (And.intro (decide_eq_true h0) True.intro)
  · skip
    rcases ite_eq h with ⟨h1, h⟩ | ⟨h1, h⟩
    · skip
      subst h
      exact call_pathL (gs := [.a, .f, .a, .t]) (notIn []) rfl rfl (by kernel_rfl) (And.intro (decide_eq_false h0) (And.intro h1 True.intro))
    · skip
      subst h
      exact call_pathL (gs := [.a, .f, .a, .f]) (notIn []) rfl rfl (by kernel_rfl) (And.intro (decide_eq_false h0) (And.intro (Bool.eq_false_iff.mpr h1) True.intro))
/-! ## 67 -/
def F67 (z1478 : Int) (z1479 : Int) (z1480 : Int) : Int :=
  if z1478 < z1479 then
   z1479
  else
   if z1478 > z1480 then
    z1480
   else
    z1478
theorem F67_ok (m : Nat) (z1478 : Int) (z1479 : Int) (z1480 : Int) (z1483 : Int) (h : F67 z1478 z1479 z1480 = z1483) : call Try.prog X O0 100000 (m + 1) 67 ([i64 z1478, i64 z1479, i64 z1480]) ([]) = some (i64 z1483, []) := by
  unfold F67 at h
  rcases ite_eq h with ⟨h0, h⟩ | ⟨h0, h⟩
  · skip
    subst h
    exact call_pathL (gs := [.t]) (notIn []) rfl rfl (by kernel_rfl) (And.intro (decide_eq_true h0) True.intro)
  · skip
    rcases ite_eq h with ⟨h1, h⟩ | ⟨h1, h⟩
    · skip
      subst h
      exact call_pathL (gs := [.f, .t]) (notIn []) rfl rfl (by kernel_rfl) (And.intro (decide_eq_false h0) (And.intro (decide_eq_true h1) True.intro))
    · skip
      subst h
      exact call_pathL (gs := [.f, .f]) (notIn []) rfl rfl (by kernel_rfl) (And.intro (decide_eq_false h0) (And.intro (decide_eq_false h1) True.intro))
/-! ## 78 -/
def F78 (z1476 : Int) : Int :=
  bnd (F67 (z1476) (-536870912) (536870912)) fun z1484 =>
  z1484
theorem F78_ok (m : Nat) (z1476 : Int) (z1486 : Int) (h : F78 z1476 = z1486) : call Try.prog X O0 100000 (m + 2) 78 ([i64 z1476]) ([]) = some (i64 z1486, []) := by
  unfold F78 at h
  obtain ⟨z1484, h0, h⟩ := bnd_eq h
  subst h
  exact call_pathL (gs := [.an (i64 z1484) []]) (notIn []) rfl rfl (by kernel_rfl) (And.intro (F67_ok (m + 0) (z1476) (-536870912) (536870912) z1484 h0) True.intro)
/-! ## 58 -/
inductive A58 where
  | a0 (z1489 : Int) (z1490 : Int)
@[reducible] def A58.out : A58 → V × Store
  | .a0 z1489 z1490 => (V.agg [i64 z1489, i64 z1490], [])
def F58 (z1473 : Int) (z1474 : Int) : Option A58 :=
  bnd (F78 (z1473)) fun z1487 =>
  bnd (F78 (z1474)) fun z1488 =>
  some (A58.a0 (z1487) (z1488))
theorem F58_ok (m : Nat) (z1473 : Int) (z1474 : Int) (r : A58) (h : F58 z1473 z1474 = some r) : call Try.prog X O0 100000 (m + 3) 58 ([V.agg [i64 z1473, i64 z1474]]) ([]) = some r.out := by
  unfold F58 at h
  obtain ⟨z1487, h0, h⟩ := bnd_eq h
  obtain ⟨z1488, h1, h⟩ := bnd_eq h
  cases h
  exact call_pathL (gs := [.a, .an (i64 z1487) [], .a, .an (i64 z1488) [], .a, .ft [⟨0, [0], []⟩, ⟨1, [0], []⟩, ⟨2, [], []⟩, ⟨3, [0], []⟩, ⟨4, [0], []⟩, ⟨5, [], []⟩, ⟨6, [], []⟩, ⟨7, [1], [1]⟩]]) (notIn []) rfl rfl (by kernel_rfl) (And.intro (F78_ok (m + 0) (z1473) z1487 h0) (And.intro (F78_ok (m + 0) (z1474) z1488 h1) (And.intro (Eq.refl ([⟨0, [0], []⟩, ⟨1, [0], []⟩, ⟨2, [], []⟩, ⟨3, [0], []⟩, ⟨4, [0], []⟩, ⟨5, [], []⟩, ⟨6, [], []⟩, ⟨7, [1], [1]⟩] : List Foot)) True.intro)))
/-! ## 34 -/
inductive A34v1 where
  | a0 (z1496 : Int) (z1497 : Int) (z1498 : Int) (z1499 : Int)
@[reducible] def A34v1.out : A34v1 → V × Store
  | .a0 z1496 z1497 z1498 z1499 => (V.tup [V.agg [i64 z1496, i64 z1497], V.agg [i64 z1498, i64 z1499]], [])
def F34v1 (b1468 : Bool) (l1469 : List (List V)) (z1470 : Int) : Option A34v1 :=
  if 0 ≤ z1470 then
   ((l1469[Int.toNat z1470]?).bind W43.dec).bind fun e1472 =>
   (F58 (e1472.c0) (e1472.c1)).bind fun r => match r with
   | .a0 z1491 z1492 =>
    if (↑(List.length l1469) : Int) = 0 then
     none -- none
    else
     if 0 ≤ Int.tmod (w64 (z1470 + 1)) (↑(List.length l1469) : Int) then
      ((l1469[Int.toNat (Int.tmod (w64 (z1470 + (1 : Int))) (↑(List.length l1469) : Int))]?).bind W43.dec).bind fun e1493 =>
      (F58 (e1493.c0) (e1493.c1)).bind fun r => match r with
      | .a0 z1494 z1495 =>
       some (A34v1.a0 (z1491) (z1492) (z1494) (z1495))
     else
      none -- none
  else
   none -- none
theorem F34v1_ok (m : Nat) (b1468 : Bool) (l1469 : List (List V)) (z1470 : Int) (r : A34v1) (h : F34v1 b1468 l1469 z1470 = some r) : call Try.prog X O0 100000 (m + 4) 34 ([V.agg [vb b1468, V.list 2 l1469], i64 z1470]) ([]) = some r.out := by
  unfold F34v1 at h
  rcases ite_eq h with ⟨h0, h⟩ | ⟨h0, h⟩
  · skip
    obtain ⟨e1472, h1, h⟩ := Option.bind_eq_some_iff.mp h
    obtain ⟨r2, h2, h⟩ := Option.bind_eq_some_iff.mp h
    have h2 := F58_ok (m + 0) (e1472.c0) (e1472.c1) r2 h2
    cases r2 with
    | a0 z1491 z1492 =>
      rcases ite_eq h with ⟨h3, h⟩ | ⟨h3, h⟩
      · skip
        cases h
      · skip
        rcases ite_eq h with ⟨h4, h⟩ | ⟨h4, h⟩
        · skip
          obtain ⟨e1493, h5, h⟩ := Option.bind_eq_some_iff.mp h
          obtain ⟨r6, h6, h⟩ := Option.bind_eq_some_iff.mp h
          have h6 := F58_ok (m + 0) (e1493.c0) (e1493.c1) r6 h6
          cases r6 with
          | a0 z1494 z1495 =>
            cases h
            exact call_pathL (gs := [.a, .t, .el (W43.cells e1472), .an (V.agg [i64 z1491, i64 z1492]) [], .a, .a, .f, .t, .el (W43.cells e1493), .an (V.agg [i64 z1494, i64 z1495]) [], .a, .a, .ft [⟨0, [0], []⟩, ⟨1, [0], []⟩, ⟨2, [], []⟩, ⟨3, [], []⟩, ⟨4, [], []⟩, ⟨5, [], []⟩, ⟨6, [0], []⟩, ⟨7, [0], []⟩, ⟨8, [], []⟩, ⟨9, [], []⟩, ⟨10, [0], []⟩, ⟨11, [0], []⟩, ⟨12, [], []⟩, ⟨13, [], []⟩, ⟨14, [], []⟩, ⟨15, [], []⟩, ⟨16, [], []⟩, ⟨17, [1], [1]⟩, ⟨18, [2], [2]⟩]]) (notIn []) rfl rfl (by kernel_rfl) (And.intro (decide_eq_true h0) (And.intro (W43.dec_ok h1) (And.intro h2 (And.intro (decide_eq_false h3) (And.intro (decide_eq_true h4) (And.intro (W43.dec_ok h5) (And.intro h6 (And.intro (Eq.refl ([⟨0, [0], []⟩, ⟨1, [0], []⟩, ⟨2, [], []⟩, ⟨3, [], []⟩, ⟨4, [], []⟩, ⟨5, [], []⟩, ⟨6, [0], []⟩, ⟨7, [0], []⟩, ⟨8, [], []⟩, ⟨9, [], []⟩, ⟨10, [0], []⟩, ⟨11, [0], []⟩, ⟨12, [], []⟩, ⟨13, [], []⟩, ⟨14, [], []⟩, ⟨15, [], []⟩, ⟨16, [], []⟩, ⟨17, [1], [1]⟩, ⟨18, [2], [2]⟩] : List Foot)) True.intro))))))))
        · skip
          cases h
  · skip
    cases h
/-! ## 79 -/
noncomputable abbrev B79 : Code := (Try.f79.body).getD .skip
inductive R79_0 where
  | e0 (z1521 : Int)
@[reducible] def s79_0_0 (z1520 : Int) (z1521 : Int) (z1522 : Int) (b1523 : Bool) : S := { T := V.int IntKind.u64 z1520 :: U :: U :: V.int IntKind.u64 z1521 :: V.int IntKind.u64 z1522 :: V.int IntKind.u64 z1522 :: vb b1523 :: un 15 [], σ := [] }
def R79_0.St : R79_0 → VX × S → Prop
  | .e0 z1521, p => ∃ z1520 : Int, ∃ z1522 : Int, ∃ b1523 : Bool, p = (VX.exit 0, s79_0_0 z1520 z1521 z1522 b1523)
def L79_0 : Nat → Int → Int → Int → Option R79_0
  | 0, _, _, _ => none
  | n + 1, z1517, z1518, z1519 =>
    if z1519 > 0 then
     if IntKind.wrap IntKind.u64 (IntKind.wrap IntKind.u64 (z1518 + z1519) * IntKind.wrap IntKind.u64 (z1518 + z1519)) ≤ z1517 then
      L79_0 n (z1517) (IntKind.wrap IntKind.u64 (z1518 + z1519)) (IntKind.wrap IntKind.u64 (Int.tdiv z1519 2))
     else
      L79_0 n (z1517) (z1518) (IntKind.wrap IntKind.u64 (Int.tdiv z1519 2))
    else
     some (R79_0.e0 (z1518))
theorem L79_0_ok (m : Nat) : ∀ (n : Nat) (z1517 : Int) (z1518 : Int) (z1519 : Int) (r : R79_0), L79_0 n z1517 z1518 z1519 = some r → ∃ st, loopFrom Try.prog X (call Try.prog X O0 100000 (m + 0)) 79 (0) 100000 B79 0 n ({ T := V.int IntKind.u64 z1517 :: U :: U :: V.int IntKind.u64 z1518 :: V.int IntKind.u64 z1519 :: un 17 [], σ := [] }) = some st ∧ r.St st
  | 0, _, _, _, r, h => by cases h
  | n + 1, z1517, z1518, z1519, r, h => by
    rw [L79_0] at h
    rcases ite_eq h with ⟨h0, h⟩ | ⟨h0, h⟩
    · skip
      rcases ite_eq h with ⟨h1, h⟩ | ⟨h1, h⟩
      · skip
        obtain ⟨st, hs, hr⟩ := L79_0_ok m n (z1517) (IntKind.wrap IntKind.u64 (z1518 + z1519)) (IntKind.wrap IntKind.u64 (Int.tdiv z1519 2)) r h
        exact ⟨st, (round_on (gs := [.t, .t, .a]) (notIn []) (by kernel_rfl) (And.intro (decide_eq_true h0) (And.intro (decide_eq_true h1) True.intro)) n).trans hs, hr⟩
      · skip
        obtain ⟨st, hs, hr⟩ := L79_0_ok m n (z1517) (z1518) (IntKind.wrap IntKind.u64 (Int.tdiv z1519 2)) r h
        exact ⟨st, (round_on (gs := [.t, .f, .a]) (notIn []) (by kernel_rfl) (And.intro (decide_eq_true h0) (And.intro (decide_eq_false h1) True.intro)) n).trans hs, hr⟩
    · skip
      cases h
      exact ⟨_, round_out (gs := [.f]) (notIn []) (by kernel_rfl) rfl (And.intro (decide_eq_false h0) True.intro) n, z1517, z1519, decide (z1519 > 0), rfl⟩
inductive A79 where
  | a0 (z1528 : Int)
@[reducible] def A79.out : A79 → V × Store
  | .a0 z1528 => (V.int IntKind.u64 z1528, [])
def F79 (z1514 : Int) : Option A79 :=
  (L79_0 100000 (z1514) (0) (2147483648)).bind fun r => match r with
  | .e0 z1525 =>
   some (A79.a0 (z1525))
theorem F79_ok (m : Nat) (z1514 : Int) (r : A79) (h : F79 z1514 = some r) : call Try.prog X O0 100000 (m + 1) 79 ([V.int IntKind.u64 z1514]) ([]) = some r.out := by
  unfold F79 at h
  obtain ⟨r0, h0, h⟩ := Option.bind_eq_some_iff.mp h
  obtain ⟨st0, h0, hr0⟩ := L79_0_ok m 100000 (z1514) (0) (2147483648) r0 h0
  have h0 : loopRun Try.prog X (call Try.prog X O0 100000 (m + 0)) 79 (0) 100000 B79 0 ({ T := V.int IntKind.u64 z1514 :: U :: V.int IntKind.u64 0 :: V.int IntKind.u64 0 :: V.int IntKind.u64 2147483648 :: un 17 [], σ := [] }) = some st0 := by
    rw [loopRun_from, show prep (0) (X.keep 79 0) ({ T := V.int IntKind.u64 z1514 :: U :: V.int IntKind.u64 0 :: V.int IntKind.u64 0 :: V.int IntKind.u64 2147483648 :: un 17 [], σ := [] }) = { T := V.int IntKind.u64 z1514 :: U :: U :: V.int IntKind.u64 0 :: V.int IntKind.u64 2147483648 :: un 17 [], σ := [] } by kernel_rfl]
    exact h0
  cases r0 with
  | e0 z1525 =>
    obtain ⟨z1524, z1526, b1527, rfl⟩ := hr0
    cases h
    exact call_pathL (gs := [.lp (VX.exit 0) (s79_0_0 z1524 z1525 z1526 b1527)]) (notIn []) rfl rfl (by kernel_rfl) (And.intro h0 True.intro)
/-! ## 59 -/
inductive A59 where
  | a0 (z1530 : Int)
@[reducible] def A59.out : A59 → V × Store
  | .a0 z1530 => (i64 z1530, [])
def F59 (z1509 : Int) (z1510 : Int) : Option A59 :=
  bnd (F67 (z1509) (-1073741824) (1073741824)) fun z1512 =>
  bnd (F67 (z1510) (-1073741824) (1073741824)) fun z1513 =>
  (F79 (IntKind.wrap IntKind.u64 (IntKind.wrap IntKind.u64 (w64 (z1512 * z1512)) + IntKind.wrap IntKind.u64 (w64 (z1513 * z1513))))).bind fun r => match r with
  | .a0 z1529 =>
   some (A59.a0 (w64 z1529))
theorem F59_ok (m : Nat) (z1509 : Int) (z1510 : Int) (r : A59) (h : F59 z1509 z1510 = some r) : call Try.prog X O0 100000 (m + 2) 59 ([i64 z1509, i64 z1510]) ([]) = some r.out := by
  unfold F59 at h
  obtain ⟨z1512, h0, h⟩ := bnd_eq h
  obtain ⟨z1513, h1, h⟩ := bnd_eq h
  obtain ⟨r2, h2, h⟩ := Option.bind_eq_some_iff.mp h
  have h2 := F79_ok (m + 0) (IntKind.wrap IntKind.u64 (IntKind.wrap IntKind.u64 (w64 (z1512 * z1512)) + IntKind.wrap IntKind.u64 (w64 (z1513 * z1513)))) r2 h2
  cases r2 with
  | a0 z1529 =>
    cases h
    exact call_pathL (gs := [.an (i64 z1512) [], .an (i64 z1513) [], .an (V.int IntKind.u64 z1529) []]) (notIn []) rfl rfl (by kernel_rfl) (And.intro (F67_ok (m + 0) (z1509) (-1073741824) (1073741824) z1512 h0) (And.intro (F67_ok (m + 0) (z1510) (-1073741824) (1073741824) z1513 h1) (And.intro h2 True.intro)))
/-! ## 36 -/
inductive A36 where
  | a0 (z1532 : Int)
@[reducible] def A36.out : A36 → V × Store
  | .a0 z1532 => (i64 z1532, [])
def F36 (z1504 : Int) (z1505 : Int) (z1506 : Int) (z1507 : Int) : Option A36 :=
  (F59 (w64 (z1506 - z1504)) (w64 (z1507 - z1505))).bind fun r => match r with
  | .a0 z1531 =>
   some (A36.a0 (z1531))
theorem F36_ok (m : Nat) (z1504 : Int) (z1505 : Int) (z1506 : Int) (z1507 : Int) (r : A36) (h : F36 z1504 z1505 z1506 z1507 = some r) : call Try.prog X O0 100000 (m + 3) 36 ([V.agg [i64 z1504, i64 z1505], V.agg [i64 z1506, i64 z1507]]) ([]) = some r.out := by
  unfold F36 at h
  obtain ⟨r0, h0, h⟩ := Option.bind_eq_some_iff.mp h
  have h0 := F59_ok (m + 0) (w64 (z1506 - z1504)) (w64 (z1507 - z1505)) r0 h0
  cases r0 with
  | a0 z1531 =>
    cases h
    exact call_pathL (gs := [.a, .a, .a, .a, .an (i64 z1531) []]) (notIn []) rfl rfl (by kernel_rfl) (And.intro h0 True.intro)
/-! ## 45 -/
def F45 (z1537 : Int) : Int :=
  bnd (F67 (z1537) (-1099511627776) (1099511627776)) fun z1539 =>
  z1539
theorem F45_ok (m : Nat) (z1537 : Int) (z1541 : Int) (h : F45 z1537 = z1541) : call Try.prog X O0 100000 (m + 2) 45 ([i64 z1537]) ([]) = some (i64 z1541, []) := by
  unfold F45 at h
  obtain ⟨z1539, h0, h⟩ := bnd_eq h
  subst h
  exact call_pathL (gs := [.an (i64 z1539) []]) (notIn []) rfl rfl (by kernel_rfl) (And.intro (F67_ok (m + 0) (z1537) (-1099511627776) (1099511627776) z1539 h0) True.intro)
/-! ## 35 -/
def F35 (z1534 : Int) (z1535 : Int) : Int :=
  bnd (F45 (z1534)) fun z1542 =>
  bnd (F45 (z1535)) fun z1543 =>
  bnd (F45 (w64 (z1542 + z1543))) fun z1544 =>
  z1544
theorem F35_ok (m : Nat) (z1534 : Int) (z1535 : Int) (z1546 : Int) (h : F35 z1534 z1535 = z1546) : call Try.prog X O0 100000 (m + 3) 35 ([i64 z1534, i64 z1535]) ([]) = some (i64 z1546, []) := by
  unfold F35 at h
  obtain ⟨z1542, h0, h⟩ := bnd_eq h
  obtain ⟨z1543, h1, h⟩ := bnd_eq h
  obtain ⟨z1544, h2, h⟩ := bnd_eq h
  subst h
  exact call_pathL (gs := [.an (i64 z1542) [], .an (i64 z1543) [], .an (i64 z1544) []]) (notIn []) rfl rfl (by kernel_rfl) (And.intro (F45_ok (m + 0) (z1534) z1542 h0) (And.intro (F45_ok (m + 0) (z1535) z1543 h1) (And.intro (F45_ok (m + 0) (w64 (z1542 + z1543)) z1544 h2) True.intro)))
/-! ## 13 -/
noncomputable abbrev B13v1 : Code := (Try.f13.body).getD .skip
inductive R13v1_0 where
  | e0 (z1568 : Int)
@[reducible] def s13v1_0_0 (z1568 : Int) (z1569 : Int) (b1570 : Bool) (l1571 : List (List V)) (z1572 : Int) (b1573 : Bool) : S := { T := U :: V.ptr 0 0 0 :: U :: i64 z1568 :: i64 z1569 :: U :: U :: i64 z1569 :: V.agg [vb b1570, V.list 2 l1571] :: i64 z1572 :: vb b1573 :: un 14 [], σ := [Ob.cells true false 2 [[vb b1570, V.list 2 l1571]]] }
def R13v1_0.St : R13v1_0 → VX × S → Prop
  | .e0 z1568, p => ∃ z1569 : Int, ∃ b1570 : Bool, ∃ l1571 : List (List V), ∃ z1572 : Int, ∃ b1573 : Bool, p = (VX.exit 0, s13v1_0_0 z1568 z1569 b1570 l1571 z1572 b1573)
def L13v1_0 : Nat → Int → Int → Bool → List (List V) → Option R13v1_0
  | 0, _, _, _, _ => none
  | n + 1, z1548, z1549, b1550, l1551 =>
    bnd (F21v1 (b1550) (l1551)) fun z1561 =>
    if z1549 < z1561 then
     (F34v1 (b1550) (l1551) (z1549)).bind fun r => match r with
     | .a0 z1562 z1563 z1564 z1565 =>
      (F36 (z1562) (z1563) (z1564) (z1565)).bind fun r => match r with
      | .a0 z1566 =>
       bnd (F35 (z1548) (z1566)) fun z1567 =>
       L13v1_0 n (z1567) (w64 (z1549 + 1)) (b1550) (l1551)
    else
     some (R13v1_0.e0 (z1548))
theorem L13v1_0_ok (m : Nat) : ∀ (n : Nat) (z1548 : Int) (z1549 : Int) (b1550 : Bool) (l1551 : List (List V)) (r : R13v1_0), L13v1_0 n z1548 z1549 b1550 l1551 = some r → ∃ st, loopFrom Try.prog X (call Try.prog X O0 100000 (m + 4)) 13 (0) 100000 B13v1 0 n ({ T := U :: V.ptr 0 0 0 :: U :: i64 z1548 :: i64 z1549 :: un 20 [], σ := [Ob.cells true false 2 [[vb b1550, V.list 2 l1551]]] }) = some st ∧ r.St st
  | 0, _, _, _, _, r, h => by cases h
  | n + 1, z1548, z1549, b1550, l1551, r, h => by
    rw [L13v1_0] at h
    obtain ⟨z1561, h0, h⟩ := bnd_eq h
    rcases ite_eq h with ⟨h1, h⟩ | ⟨h1, h⟩
    · skip
      obtain ⟨r2, h2, h⟩ := Option.bind_eq_some_iff.mp h
      have h2 := F34v1_ok (m + 0) (b1550) (l1551) (z1549) r2 h2
      cases r2 with
      | a0 z1562 z1563 z1564 z1565 =>
        obtain ⟨r3, h3, h⟩ := Option.bind_eq_some_iff.mp h
        have h3 := F36_ok (m + 1) (z1562) (z1563) (z1564) (z1565) r3 h3
        cases r3 with
        | a0 z1566 =>
          obtain ⟨z1567, h4, h⟩ := bnd_eq h
          obtain ⟨st, hs, hr⟩ := L13v1_0_ok m n (z1567) (w64 (z1549 + 1)) (b1550) (l1551) r h
          exact ⟨st, (round_on (gs := [.a, .an (i64 z1561) [], .t, .a, .an (V.tup [V.agg [i64 z1562, i64 z1563], V.agg [i64 z1564, i64 z1565]]) [], .a, .a, .a, .a, .an (i64 z1566) [], .an (i64 z1567) []]) (notIn []) (by kernel_rfl) (And.intro (F21v1_ok (m + 3) (b1550) (l1551) z1561 h0) (And.intro (decide_eq_true h1) (And.intro h2 (And.intro h3 (And.intro (F35_ok (m + 1) (z1548) (z1566) z1567 h4) True.intro))))) n).trans hs, hr⟩
    · skip
      cases h
      exact ⟨_, round_out (gs := [.a, .an (i64 z1561) [], .f]) (notIn []) (by kernel_rfl) rfl (And.intro (F21v1_ok (m + 3) (b1550) (l1551) z1561 h0) (And.intro (decide_eq_false h1) True.intro)) n, z1549, b1550, l1551, z1561, decide (z1549 < z1561), rfl⟩
inductive A13v1 where
  | a0 (z1580 : Int)
@[reducible] def A13v1.out : A13v1 → V × Store
  | .a0 z1580 => (i64 z1580, [])
def F13v1 (b1457 : Bool) (l1458 : List (List V)) : Option A13v1 :=
  (L13v1_0 100000 (0) (0) (b1457) (l1458)).bind fun r => match r with
  | .e0 z1574 =>
   some (A13v1.a0 (z1574))
theorem F13v1_ok (m : Nat) (b1457 : Bool) (l1458 : List (List V)) (r : A13v1) (h : F13v1 b1457 l1458 = some r) : call Try.prog X O0 100000 (m + 5) 13 ([V.agg [vb b1457, V.list 2 l1458]]) ([]) = some r.out := by
  unfold F13v1 at h
  obtain ⟨r0, h0, h⟩ := Option.bind_eq_some_iff.mp h
  obtain ⟨st0, h0, hr0⟩ := L13v1_0_ok m 100000 (0) (0) (b1457) (l1458) r0 h0
  have h0 : loopRun Try.prog X (call Try.prog X O0 100000 (m + 4)) 13 (0) 100000 B13v1 0 ({ T := V.agg [vb b1457, V.list 2 l1458] :: V.ptr 0 0 0 :: i64 0 :: i64 0 :: i64 0 :: un 20 [], σ := [Ob.cells true false 2 [[vb b1457, V.list 2 l1458]]] }) = some st0 := by
    rw [loopRun_from, show prep (0) (X.keep 13 0) ({ T := V.agg [vb b1457, V.list 2 l1458] :: V.ptr 0 0 0 :: i64 0 :: i64 0 :: i64 0 :: un 20 [], σ := [Ob.cells true false 2 [[vb b1457, V.list 2 l1458]]] }) = { T := U :: V.ptr 0 0 0 :: U :: i64 0 :: i64 0 :: un 20 [], σ := [Ob.cells true false 2 [[vb b1457, V.list 2 l1458]]] } by kernel_rfl]
    exact h0
  cases r0 with
  | e0 z1574 =>
    obtain ⟨z1575, b1576, l1577, z1578, b1579, rfl⟩ := hr0
    cases h
    exact call_pathL (gs := [.lp (VX.exit 0) (s13v1_0_0 z1574 z1575 b1576 l1577 z1578 b1579)]) (notIn []) rfl rfl (by kernel_rfl) (And.intro h0 True.intro)
/-! ## 25 -/
noncomputable abbrev B25 : Code := (Try.f25.body).getD .skip
inductive R25_0 where
  | e0
@[reducible] def s25_0_0 (z1607 : Int) (z1608 : Int) (b1609 : Bool) (z1610 : Int) (b1611 : Bool) : S := { T := U :: i64 z1607 :: i64 z1608 :: V.ptr 0 0 0 :: U :: U :: V.ptr 1 0 0 :: V.ptr 2 0 0 :: i64 0 :: i64 0 :: un 12 (i64 0 :: V.agg [vb b1609, V.nilS] :: i64 z1610 :: vb b1611 :: un 56 []), σ := [Ob.cells true false 2 [[vb b1609, V.nilS]], Ob.cells true false 2 [[vb false, V.nilS]], Ob.cells true false 2 [[vb false, V.nilS]]] }
def R25_0.St : R25_0 → VX × S → Prop
  | .e0, p => ∃ z1607 : Int, ∃ z1608 : Int, ∃ b1609 : Bool, ∃ z1610 : Int, ∃ b1611 : Bool, p = (VX.exit 0, s25_0_0 z1607 z1608 b1609 z1610 b1611)
def L25_0 : Nat → Int → Int → Bool → Option R25_0
  | 0, _, _, _ => none
  | n + 1, z1589, z1590, b1591 =>
    bnd (F21 (b1591)) fun z1606 =>
    if 0 < z1606 then
     none -- F34 has no answer
    else
     some (R25_0.e0)
theorem L25_0_ok (m : Nat) : ∀ (n : Nat) (z1589 : Int) (z1590 : Int) (b1591 : Bool) (r : R25_0), L25_0 n z1589 z1590 b1591 = some r → ∃ st, loopFrom Try.prog X (call Try.prog X O0 100000 (m + 2)) 25 (0) 100000 B25 0 n ({ T := U :: i64 z1589 :: i64 z1590 :: V.ptr 0 0 0 :: U :: U :: V.ptr 1 0 0 :: V.ptr 2 0 0 :: i64 0 :: i64 0 :: un 72 [], σ := [Ob.cells true false 2 [[vb b1591, V.nilS]], Ob.cells true false 2 [[vb false, V.nilS]], Ob.cells true false 2 [[vb false, V.nilS]]] }) = some st ∧ r.St st
  | 0, _, _, _, r, h => by cases h
  | n + 1, z1589, z1590, b1591, r, h => by
    rw [L25_0] at h
    obtain ⟨z1606, h0, h⟩ := bnd_eq h
    rcases ite_eq h with ⟨h1, h⟩ | ⟨h1, h⟩
    · skip
      cases h
    · skip
      cases h
      exact ⟨_, round_out (gs := [.a, .an (i64 z1606) [], .f]) (notIn []) (by kernel_rfl) rfl (And.intro (F21_ok (m + 1) (b1591) z1606 h0) (And.intro (decide_eq_false h1) True.intro)) n, z1589, z1590, b1591, z1606, decide (0 < z1606), rfl⟩
inductive A25 where
  | a0 (b1605 : Bool)
@[reducible] def A25.out : A25 → V × Store
  | .a0 b1605 => (V.agg [vb b1605, V.nilS], [])
def F25 (b1582 : Bool) (z1583 : Int) (z1584 : Int) : Option A25 :=
  bnd (F45 (z1583)) fun z1603 =>
  bnd (F45 (z1584)) fun z1604 =>
  if z1603 ≥ z1604 then
   some (A25.a0 (false))
  else
   (L25_0 100000 (z1603) (z1604) (b1582)).bind fun r => match r with
   | .e0 =>
    some (A25.a0 (false))
theorem F25_ok (m : Nat) (b1582 : Bool) (z1583 : Int) (z1584 : Int) (r : A25) (h : F25 b1582 z1583 z1584 = some r) : call Try.prog X O0 100000 (m + 3) 25 ([V.agg [vb b1582, V.nilS], i64 z1583, i64 z1584]) ([]) = some r.out := by
  unfold F25 at h
  obtain ⟨z1603, h0, h⟩ := bnd_eq h
  obtain ⟨z1604, h1, h⟩ := bnd_eq h
  rcases ite_eq h with ⟨h2, h⟩ | ⟨h2, h⟩
  · skip
    cases h
    exact call_pathL (gs := [.an (i64 z1603) [], .an (i64 z1604) [], .t, .a, .a]) (notIn []) rfl rfl (by kernel_rfl) (And.intro (F45_ok (m + 0) (z1583) z1603 h0) (And.intro (F45_ok (m + 0) (z1584) z1604 h1) (And.intro (decide_eq_true h2) True.intro)))
  · skip
    obtain ⟨r3, h3, h⟩ := Option.bind_eq_some_iff.mp h
    obtain ⟨st3, h3, hr3⟩ := L25_0_ok m 100000 (z1603) (z1604) (b1582) r3 h3
    have h3 : loopRun Try.prog X (call Try.prog X O0 100000 (m + 2)) 25 (0) 100000 B25 0 ({ T := V.agg [vb b1582, V.nilS] :: i64 z1603 :: i64 z1604 :: V.ptr 0 0 0 :: U :: U :: V.ptr 1 0 0 :: V.ptr 2 0 0 :: i64 0 :: i64 0 :: un 4 (i64 z1583 :: i64 z1603 :: i64 z1584 :: i64 z1604 :: i64 z1603 :: i64 z1604 :: vb (decide (z1603 ≥ z1604)) :: un 61 []), σ := [Ob.cells true false 2 [[vb b1582, V.nilS]], Ob.cells true false 2 [[vb false, V.nilS]], Ob.cells true false 2 [[vb false, V.nilS]]] }) = some st3 := by
      rw [loopRun_from, show prep (0) (X.keep 25 0) ({ T := V.agg [vb b1582, V.nilS] :: i64 z1603 :: i64 z1604 :: V.ptr 0 0 0 :: U :: U :: V.ptr 1 0 0 :: V.ptr 2 0 0 :: i64 0 :: i64 0 :: un 4 (i64 z1583 :: i64 z1603 :: i64 z1584 :: i64 z1604 :: i64 z1603 :: i64 z1604 :: vb (decide (z1603 ≥ z1604)) :: un 61 []), σ := [Ob.cells true false 2 [[vb b1582, V.nilS]], Ob.cells true false 2 [[vb false, V.nilS]], Ob.cells true false 2 [[vb false, V.nilS]]] }) = { T := U :: i64 z1603 :: i64 z1604 :: V.ptr 0 0 0 :: U :: U :: V.ptr 1 0 0 :: V.ptr 2 0 0 :: i64 0 :: i64 0 :: un 72 [], σ := [Ob.cells true false 2 [[vb b1582, V.nilS]], Ob.cells true false 2 [[vb false, V.nilS]], Ob.cells true false 2 [[vb false, V.nilS]]] } by kernel_rfl]
      exact h3
    cases r3 with
    | e0 =>
      obtain ⟨z1612, z1613, b1614, z1615, b1616, rfl⟩ := hr3
      cases h
      exact call_pathL (gs := [.an (i64 z1603) [], .an (i64 z1604) [], .f, .lp (VX.exit 0) (s25_0_0 z1612 z1613 b1614 z1615 b1616), .a, .a]) (notIn []) rfl rfl (by kernel_rfl) (And.intro (F45_ok (m + 0) (z1583) z1603 h0) (And.intro (F45_ok (m + 0) (z1584) z1604 h1) (And.intro (decide_eq_false h2) (And.intro h3 True.intro))))
/-! ## 12 -/
inductive A12v3 where
  | a0 (k1642 : Nat) (l1643 : List (List V))
@[reducible] def A12v3.out : A12v3 → V × Store
  | .a0 k1642 l1643 => (V.hs 0 0 k1642, [Ob.cells true true 2 l1643])
def F12v3 (b1637 : Bool) (l1638 : List (List V)) : Option A12v3 :=
  (F31v1 (l1638)).bind fun r => match r with
  | .a0 k1640 l1641 =>
   if 0 + k1640 ≤ List.length l1641 then
    some (A12v3.a0 (1) ([[vb b1637, V.list 2 (List.take k1640 l1641)]]))
   else
    none -- none
theorem F12v3_ok (m : Nat) (b1637 : Bool) (l1638 : List (List V)) (r : A12v3) (h : F12v3 b1637 l1638 = some r) : call Try.prog X O0 100000 (m + 2) 12 ([V.agg [vb b1637, V.list 2 l1638], V.nilS]) ([]) = some r.out := by
  unfold F12v3 at h
  obtain ⟨r0, h0, h⟩ := Option.bind_eq_some_iff.mp h
  have h0 := F31v1_ok (m + 0) (l1638) r0 h0
  cases r0 with
  | a0 k1640 l1641 =>
    rcases ite_eq h with ⟨h1, h⟩ | ⟨h1, h⟩
    · skip
      cases h
      exact call_pathL (gs := [.a, .a, .a, .a, .a, .a, .a, .an (V.hs 0 0 k1640) [Ob.cells true true 2 l1641], .t, .ft [⟨0, [0], []⟩, ⟨1, [0], []⟩, ⟨2, [0], []⟩, ⟨3, [0], []⟩, ⟨4, [1], [1]⟩, ⟨5, [], []⟩, ⟨6, [1, 2], [1, 2]⟩, ⟨7, [], []⟩]]) (notIn []) rfl rfl (by kernel_rfl) (And.intro h0 (And.intro (decide_eq_true h1) (And.intro (Eq.refl ([⟨0, [0], []⟩, ⟨1, [0], []⟩, ⟨2, [0], []⟩, ⟨3, [0], []⟩, ⟨4, [1], [1]⟩, ⟨5, [], []⟩, ⟨6, [1, 2], [1, 2]⟩, ⟨7, [], []⟩] : List Foot)) True.intro)))
    · skip
      cases h
/-! ## 82 -/
inductive A82 where
  | a0 (z1689 : Int) (b1690 : Bool)
@[reducible] def A82.out : A82 → V × Store
  | .a0 z1689 b1690 => (V.tup [V.int IntKind.u64 z1689, vb b1690], [])
def F82 (z1687 : Int) : Option A82 :=
  if z1687 < 0 then
   some (A82.a0 (IntKind.wrap IntKind.u64 (w64 (0 - z1687))) (true))
  else
   some (A82.a0 (IntKind.wrap IntKind.u64 z1687) (false))
theorem F82_ok (m : Nat) (z1687 : Int) (r : A82) (h : F82 z1687 = some r) : call Try.prog X O0 100000 (m + 1) 82 ([i64 z1687]) ([]) = some r.out := by
  unfold F82 at h
  rcases ite_eq h with ⟨h0, h⟩ | ⟨h0, h⟩
  · skip
    cases h
    exact call_pathL (gs := [.t]) (notIn []) rfl rfl (by kernel_rfl) (And.intro (decide_eq_true h0) True.intro)
  · skip
    cases h
    exact call_pathL (gs := [.f]) (notIn []) rfl rfl (by kernel_rfl) (And.intro (decide_eq_false h0) True.intro)
/-! ## 89 -/
inductive A89 where
@[reducible] def A89.out : A89 → V × Store
  := fun x => nomatch x
def F89 (z1713 : Int) : Option A89 :=
  if z1713 ≥ 4294967296 then
   if Int.fdiv z1713 4294967296 ≥ 65536 then
    if Int.fdiv (Int.fdiv z1713 4294967296) 65536 ≥ 256 then
     none -- none
    else
     none -- none
   else
    if Int.fdiv z1713 4294967296 ≥ 256 then
     none -- none
    else
     none -- none
  else
   if z1713 ≥ 65536 then
    if Int.fdiv z1713 65536 ≥ 256 then
     none -- none
    else
     none -- none
   else
    if z1713 ≥ 256 then
     none -- none
    else
     none -- none
theorem F89_ok (m : Nat) (z1713 : Int) (r : A89) (h : F89 z1713 = some r) : call Try.prog X O0 100000 (m + 1) 89 ([V.int IntKind.u64 z1713]) ([]) = some r.out := by
  unfold F89 at h
  rcases ite_eq h with ⟨h0, h⟩ | ⟨h0, h⟩
  · skip
    rcases ite_eq h with ⟨h1, h⟩ | ⟨h1, h⟩
    · skip
      rcases ite_eq h with ⟨h2, h⟩ | ⟨h2, h⟩
      · skip
        cases h
      · skip
        cases h
    · skip
      rcases ite_eq h with ⟨h2, h⟩ | ⟨h2, h⟩
      · skip
        cases h
      · skip
        cases h
  · skip
    rcases ite_eq h with ⟨h1, h⟩ | ⟨h1, h⟩
    · skip
      rcases ite_eq h with ⟨h2, h⟩ | ⟨h2, h⟩
      · skip
        cases h
      · skip
        cases h
    · skip
      rcases ite_eq h with ⟨h2, h⟩ | ⟨h2, h⟩
      · skip
        cases h
      · skip
        cases h
/-! ## 88 -/
inductive A88 where
@[reducible] def A88.out : A88 → V × Store
  := fun x => nomatch x
def F88 (z1711 : Int) : Option A88 :=
  none -- F89 has no answer
theorem F88_ok (m : Nat) (z1711 : Int) (r : A88) (h : F88 z1711 = some r) : call Try.prog X O0 100000 (m + 2) 88 ([V.int IntKind.u64 z1711]) ([]) = some r.out := by
  unfold F88 at h
  cases h
/-! ## 87 -/
inductive A87 where
  | a0 (z1709 : Int) (z1710 : Int)
@[reducible] def A87.out : A87 → V × Store
  | .a0 z1709 z1710 => (V.tup [V.int IntKind.u64 z1709, V.int IntKind.u64 z1710], [])
def F87 (z1705 : Int) (z1706 : Int) (z1707 : Int) : Option A87 :=
  if (z1707 == 0) = true then
   none -- none
  else
   if z1707 ≤ z1705 then
    none -- none
   else
    if (z1705 == 0) = true then
     if z1707 = 0 then
      none -- none
     else
      some (A87.a0 (IntKind.wrap IntKind.u64 (Int.tdiv z1706 z1707)) (Int.tmod z1706 z1707))
    else
     none -- F88 has no answer
theorem F87_ok (m : Nat) (z1705 : Int) (z1706 : Int) (z1707 : Int) (r : A87) (h : F87 z1705 z1706 z1707 = some r) : call Try.prog X O0 100000 (m + 3) 87 ([V.int IntKind.u64 z1705, V.int IntKind.u64 z1706, V.int IntKind.u64 z1707]) ([]) = some r.out := by
  unfold F87 at h
  rcases ite_eq h with ⟨h0, h⟩ | ⟨h0, h⟩
  · skip
    cases h
  · skip
    rcases ite_eq h with ⟨h1, h⟩ | ⟨h1, h⟩
    · skip
      cases h
    · skip
      rcases ite_eq h with ⟨h2, h⟩ | ⟨h2, h⟩
      · skip
        rcases ite_eq h with ⟨h3, h⟩ | ⟨h3, h⟩
        · skip
          cases h
        · skip
          cases h
          exact call_pathL (gs := [.f, .f, .t, .f, .f, .ft [⟨0, [], []⟩, ⟨1, [], []⟩, ⟨2, [], []⟩, ⟨3, [], []⟩, ⟨4, [], []⟩, ⟨5, [], []⟩, ⟨6, [], []⟩, ⟨7, [], []⟩]]) (notIn []) rfl rfl (by kernel_rfl) (And.intro (Bool.eq_false_iff.mpr h0) (And.intro (decide_eq_false h1) (And.intro h2 (And.intro (decide_eq_false h3) (And.intro (decide_eq_false h3) (And.intro (Eq.refl ([⟨0, [], []⟩, ⟨1, [], []⟩, ⟨2, [], []⟩, ⟨3, [], []⟩, ⟨4, [], []⟩, ⟨5, [], []⟩, ⟨6, [], []⟩, ⟨7, [], []⟩] : List Foot)) True.intro))))))
      · skip
        cases h
/-! ## 84 -/
inductive A84 where
  | a0 (z1704 : Int)
@[reducible] def A84.out : A84 → V × Store
  | .a0 z1704 => (i64 z1704, [])
def F84 (z1699 : Int) (z1700 : Int) (z1701 : Int) (b1702 : Bool) : Option A84 :=
  if z1699 ≥ z1701 then
   if (b1702) = true then
    some (A84.a0 (-1099511627776))
   else
    some (A84.a0 (1099511627776))
  else
   (F87 (z1699) (z1700) (z1701)).bind fun r => match r with
   | .a0 z1715 z1716 =>
    if (b1702) = true then
     if z1716 > 0 then
      if z1715 < 4611686018427387904 then
       bnd (F45 (w64 (0 - w64 (if 4611686018427387904 < IntKind.wrap IntKind.u64 (z1715 + 1) then 4611686018427387904 else IntKind.wrap IntKind.u64 (z1715 + 1))))) fun z1717 =>
       some (A84.a0 (z1717))
      else
       bnd (F45 (w64 (0 - w64 (if 4611686018427387904 < z1715 then 4611686018427387904 else z1715)))) fun z1718 =>
       some (A84.a0 (z1718))
     else
      bnd (F45 (w64 (0 - w64 (if 4611686018427387904 < z1715 then 4611686018427387904 else z1715)))) fun z1719 =>
      some (A84.a0 (z1719))
    else
     bnd (F45 (w64 (if 4611686018427387904 < z1715 then 4611686018427387904 else z1715))) fun z1720 =>
     some (A84.a0 (z1720))
theorem F84_ok (m : Nat) (z1699 : Int) (z1700 : Int) (z1701 : Int) (b1702 : Bool) (r : A84) (h : F84 z1699 z1700 z1701 b1702 = some r) : call Try.prog X O0 100000 (m + 4) 84 ([V.int IntKind.u64 z1699, V.int IntKind.u64 z1700, V.int IntKind.u64 z1701, vb b1702]) ([]) = some r.out := by
  unfold F84 at h
  rcases ite_eq h with ⟨h0, h⟩ | ⟨h0, h⟩
  · skip
    rcases ite_eq h with ⟨h1, h⟩ | ⟨h1, h⟩
    · skip
      cases h
      exact call_pathL (gs := [.t, .t]) (notIn []) rfl rfl (by kernel_rfl) (And.intro (decide_eq_true h0) (And.intro h1 True.intro))
    · skip
      cases h
      exact call_pathL (gs := [.t, .f]) (notIn []) rfl rfl (by kernel_rfl) (And.intro (decide_eq_true h0) (And.intro (Bool.eq_false_iff.mpr h1) True.intro))
  · skip
    obtain ⟨r1, h1, h⟩ := Option.bind_eq_some_iff.mp h
    have h1 := F87_ok (m + 0) (z1699) (z1700) (z1701) r1 h1
    cases r1 with
    | a0 z1715 z1716 =>
      rcases ite_eq h with ⟨h2, h⟩ | ⟨h2, h⟩
      · skip
        rcases ite_eq h with ⟨h3, h⟩ | ⟨h3, h⟩
        · skip
          rcases ite_eq h with ⟨h4, h⟩ | ⟨h4, h⟩
          · skip
            obtain ⟨z1717, h5, h⟩ := bnd_eq h
            cases h
            exact call_pathL (gs := [.f, .an (V.tup [V.int IntKind.u64 z1715, V.int IntKind.u64 z1716]) [], .t, .t, .t, .t, .t, .t, .t, .t, .an (i64 z1717) []]) (notIn []) rfl rfl (by kernel_rfl) (And.intro (decide_eq_false h0) (And.intro h1 (And.intro h2 (And.intro h2 (And.intro h2 (And.intro (decide_eq_true h3) (And.intro (decide_eq_true h3) (And.intro (decide_eq_true h3) (And.intro (decide_eq_true h4) (And.intro h2 (And.intro (F45_ok (m + 1) (w64 (0 - w64 (if 4611686018427387904 < IntKind.wrap IntKind.u64 (z1715 + 1) then 4611686018427387904 else IntKind.wrap IntKind.u64 (z1715 + 1)))) z1717 h5) True.intro)))))))))))
          · skip
            obtain ⟨z1718, h5, h⟩ := bnd_eq h
            cases h
            exact call_pathL (gs := [.f, .an (V.tup [V.int IntKind.u64 z1715, V.int IntKind.u64 z1716]) [], .t, .t, .t, .t, .t, .t, .f, .t, .an (i64 z1718) []]) (notIn []) rfl rfl (by kernel_rfl) (And.intro (decide_eq_false h0) (And.intro h1 (And.intro h2 (And.intro h2 (And.intro h2 (And.intro (decide_eq_true h3) (And.intro (decide_eq_true h3) (And.intro (decide_eq_true h3) (And.intro (decide_eq_false h4) (And.intro h2 (And.intro (F45_ok (m + 1) (w64 (0 - w64 (if 4611686018427387904 < z1715 then 4611686018427387904 else z1715))) z1718 h5) True.intro)))))))))))
        · skip
          obtain ⟨z1719, h4, h⟩ := bnd_eq h
          cases h
          exact call_pathL (gs := [.f, .an (V.tup [V.int IntKind.u64 z1715, V.int IntKind.u64 z1716]) [], .t, .t, .t, .f, .f, .f, .a, .t, .an (i64 z1719) []]) (notIn []) rfl rfl (by kernel_rfl) (And.intro (decide_eq_false h0) (And.intro h1 (And.intro h2 (And.intro h2 (And.intro h2 (And.intro (decide_eq_false h3) (And.intro (decide_eq_false h3) (And.intro (decide_eq_false h3) (And.intro h2 (And.intro (F45_ok (m + 1) (w64 (0 - w64 (if 4611686018427387904 < z1715 then 4611686018427387904 else z1715))) z1719 h4) True.intro))))))))))
      · skip
        obtain ⟨z1720, h3, h⟩ := bnd_eq h
        cases h
        exact call_pathL (gs := [.f, .an (V.tup [V.int IntKind.u64 z1715, V.int IntKind.u64 z1716]) [], .f, .f, .f, .a, .a, .a, .a, .f, .an (i64 z1720) []]) (notIn []) rfl rfl (by kernel_rfl) (And.intro (decide_eq_false h0) (And.intro h1 (And.intro (Bool.eq_false_iff.mpr h2) (And.intro (Bool.eq_false_iff.mpr h2) (And.intro (Bool.eq_false_iff.mpr h2) (And.intro (Bool.eq_false_iff.mpr h2) (And.intro (F45_ok (m + 1) (w64 (if 4611686018427387904 < z1715 then 4611686018427387904 else z1715)) z1720 h3) True.intro)))))))
/-! ## 68 -/
inductive A68 where
  | a0 (z1696 : Int)
@[reducible] def A68.out : A68 → V × Store
  | .a0 z1696 => (i64 z1696, [])
def F68 (z1683 : Int) (z1684 : Int) : Option A68 :=
  bnd (F45 (z1683)) fun z1686 =>
  (F82 (z1686)).bind fun r => match r with
  | .a0 z1691 b1692 =>
   bnd (F45 (z1684)) fun z1693 =>
   (F82 (z1693)).bind fun r => match r with
   | .a0 z1694 b1695 =>
    if (z1694 == 0) = true then
     some (A68.a0 (0))
    else
     (F83 (z1691) (65536)).bind fun r => match r with
     | .a0 z1697 z1698 =>
      (F84 (z1697) (z1698) (z1694) (!b1692 == b1695)).bind fun r => match r with
      | .a0 z1721 =>
       some (A68.a0 (z1721))
theorem F68_ok (m : Nat) (z1683 : Int) (z1684 : Int) (r : A68) (h : F68 z1683 z1684 = some r) : call Try.prog X O0 100000 (m + 5) 68 ([i64 z1683, i64 z1684]) ([]) = some r.out := by
  unfold F68 at h
  obtain ⟨z1686, h0, h⟩ := bnd_eq h
  obtain ⟨r1, h1, h⟩ := Option.bind_eq_some_iff.mp h
  have h1 := F82_ok (m + 3) (z1686) r1 h1
  cases r1 with
  | a0 z1691 b1692 =>
    obtain ⟨z1693, h2, h⟩ := bnd_eq h
    obtain ⟨r3, h3, h⟩ := Option.bind_eq_some_iff.mp h
    have h3 := F82_ok (m + 3) (z1693) r3 h3
    cases r3 with
    | a0 z1694 b1695 =>
      rcases ite_eq h with ⟨h4, h⟩ | ⟨h4, h⟩
      · skip
        cases h
        exact call_pathL (gs := [.an (i64 z1686) [], .an (V.tup [V.int IntKind.u64 z1691, vb b1692]) [], .an (i64 z1693) [], .an (V.tup [V.int IntKind.u64 z1694, vb b1695]) [], .t]) (notIn []) rfl rfl (by kernel_rfl) (And.intro (F45_ok (m + 2) (z1683) z1686 h0) (And.intro h1 (And.intro (F45_ok (m + 2) (z1684) z1693 h2) (And.intro h3 (And.intro h4 True.intro)))))
      · skip
        obtain ⟨r5, h5, h⟩ := Option.bind_eq_some_iff.mp h
        have h5 := F83_ok (m + 3) (z1691) (65536) r5 h5
        cases r5 with
        | a0 z1697 z1698 =>
          obtain ⟨r6, h6, h⟩ := Option.bind_eq_some_iff.mp h
          have h6 := F84_ok (m + 0) (z1697) (z1698) (z1694) (!b1692 == b1695) r6 h6
          cases r6 with
          | a0 z1721 =>
            cases h
            exact call_pathL (gs := [.an (i64 z1686) [], .an (V.tup [V.int IntKind.u64 z1691, vb b1692]) [], .an (i64 z1693) [], .an (V.tup [V.int IntKind.u64 z1694, vb b1695]) [], .f, .an (V.tup [V.int IntKind.u64 z1697, V.int IntKind.u64 z1698]) [], .an (i64 z1721) []]) (notIn []) rfl rfl (by kernel_rfl) (And.intro (F45_ok (m + 2) (z1683) z1686 h0) (And.intro h1 (And.intro (F45_ok (m + 2) (z1684) z1693 h2) (And.intro h3 (And.intro (Bool.eq_false_iff.mpr h4) (And.intro h5 (And.intro h6 True.intro)))))))
/-! ## 85 -/
inductive A85 where
  | a0 (z1741 : Int)
@[reducible] def A85.out : A85 → V × Store
  | .a0 z1741 => (i64 z1741, [])
def F85 (z1729 : Int) (z1730 : Int) : Option A85 :=
  bnd (F45 (z1729)) fun z1732 =>
  (F82 (z1732)).bind fun r => match r with
  | .a0 z1733 b1734 =>
   bnd (F45 (z1730)) fun z1735 =>
   (F82 (z1735)).bind fun r => match r with
   | .a0 z1736 b1737 =>
    (F83 (z1733) (z1736)).bind fun r => match r with
    | .a0 z1738 z1739 =>
     (F84 (z1738) (z1739) (65536) (!b1734 == b1737)).bind fun r => match r with
     | .a0 z1740 =>
      some (A85.a0 (z1740))
theorem F85_ok (m : Nat) (z1729 : Int) (z1730 : Int) (r : A85) (h : F85 z1729 z1730 = some r) : call Try.prog X O0 100000 (m + 5) 85 ([i64 z1729, i64 z1730]) ([]) = some r.out := by
  unfold F85 at h
  obtain ⟨z1732, h0, h⟩ := bnd_eq h
  obtain ⟨r1, h1, h⟩ := Option.bind_eq_some_iff.mp h
  have h1 := F82_ok (m + 3) (z1732) r1 h1
  cases r1 with
  | a0 z1733 b1734 =>
    obtain ⟨z1735, h2, h⟩ := bnd_eq h
    obtain ⟨r3, h3, h⟩ := Option.bind_eq_some_iff.mp h
    have h3 := F82_ok (m + 3) (z1735) r3 h3
    cases r3 with
    | a0 z1736 b1737 =>
      obtain ⟨r4, h4, h⟩ := Option.bind_eq_some_iff.mp h
      have h4 := F83_ok (m + 3) (z1733) (z1736) r4 h4
      cases r4 with
      | a0 z1738 z1739 =>
        obtain ⟨r5, h5, h⟩ := Option.bind_eq_some_iff.mp h
        have h5 := F84_ok (m + 0) (z1738) (z1739) (65536) (!b1734 == b1737) r5 h5
        cases r5 with
        | a0 z1740 =>
          cases h
          exact call_pathL (gs := [.an (i64 z1732) [], .an (V.tup [V.int IntKind.u64 z1733, vb b1734]) [], .an (i64 z1735) [], .an (V.tup [V.int IntKind.u64 z1736, vb b1737]) [], .an (V.tup [V.int IntKind.u64 z1738, V.int IntKind.u64 z1739]) [], .an (i64 z1740) []]) (notIn []) rfl rfl (by kernel_rfl) (And.intro (F45_ok (m + 2) (z1729) z1732 h0) (And.intro h1 (And.intro (F45_ok (m + 2) (z1730) z1735 h2) (And.intro h3 (And.intro h4 (And.intro h5 True.intro))))))
/-! ## 69 -/
inductive A69 where
  | a0 (z1744 : Int)
@[reducible] def A69.out : A69 → V × Store
  | .a0 z1744 => (i64 z1744, [])
def F69 (z1723 : Int) (z1724 : Int) (z1725 : Int) : Option A69 :=
  bnd (F45 (z1723)) fun z1727 =>
  bnd (F35 (z1724) (w64 (0 - z1727))) fun z1728 =>
  (F85 (z1728) (z1725)).bind fun r => match r with
  | .a0 z1742 =>
   bnd (F35 (z1723) (z1742)) fun z1743 =>
   some (A69.a0 (z1743))
theorem F69_ok (m : Nat) (z1723 : Int) (z1724 : Int) (z1725 : Int) (r : A69) (h : F69 z1723 z1724 z1725 = some r) : call Try.prog X O0 100000 (m + 6) 69 ([i64 z1723, i64 z1724, i64 z1725]) ([]) = some r.out := by
  unfold F69 at h
  obtain ⟨z1727, h0, h⟩ := bnd_eq h
  obtain ⟨z1728, h1, h⟩ := bnd_eq h
  obtain ⟨r2, h2, h⟩ := Option.bind_eq_some_iff.mp h
  have h2 := F85_ok (m + 0) (z1728) (z1725) r2 h2
  cases r2 with
  | a0 z1742 =>
    obtain ⟨z1743, h3, h⟩ := bnd_eq h
    cases h
    exact call_pathL (gs := [.an (i64 z1727) [], .an (i64 z1728) [], .an (i64 z1742) [], .an (i64 z1743) []]) (notIn []) rfl rfl (by kernel_rfl) (And.intro (F45_ok (m + 3) (z1723) z1727 h0) (And.intro (F35_ok (m + 2) (z1724) (w64 (0 - z1727)) z1728 h1) (And.intro h2 (And.intro (F35_ok (m + 2) (z1723) (z1742) z1743 h3) True.intro))))
/-! ## 46 -/
inductive A46 where
  | a0 (z1681 : Int) (z1682 : Int)
@[reducible] def A46.out : A46 → V × Store
  | .a0 z1681 z1682 => (V.agg [i64 z1681, i64 z1682], [])
def F46 (z1669 : Int) (z1670 : Int) (z1671 : Int) (z1672 : Int) (z1673 : Int) (z1674 : Int) : Option A46 :=
  (F58 (z1669) (z1670)).bind fun r => match r with
  | .a0 z1676 z1677 =>
   (F58 (z1671) (z1672)).bind fun r => match r with
   | .a0 z1678 z1679 =>
    bnd (F45 (z1673)) fun z1680 =>
    if z1680 ≤ 0 then
     some (A46.a0 (z1676) (z1677))
    else
     if z1680 ≥ z1674 then
      some (A46.a0 (z1678) (z1679))
     else
      (F68 (z1680) (z1674)).bind fun r => match r with
      | .a0 z1722 =>
       (F69 (z1676) (z1678) (z1722)).bind fun r => match r with
       | .a0 z1745 =>
        (F69 (z1677) (z1679) (z1722)).bind fun r => match r with
        | .a0 z1746 =>
         some (A46.a0 (z1745) (z1746))
theorem F46_ok (m : Nat) (z1669 : Int) (z1670 : Int) (z1671 : Int) (z1672 : Int) (z1673 : Int) (z1674 : Int) (r : A46) (h : F46 z1669 z1670 z1671 z1672 z1673 z1674 = some r) : call Try.prog X O0 100000 (m + 7) 46 ([V.agg [i64 z1669, i64 z1670], V.agg [i64 z1671, i64 z1672], i64 z1673, i64 z1674]) ([]) = some r.out := by
  unfold F46 at h
  obtain ⟨r0, h0, h⟩ := Option.bind_eq_some_iff.mp h
  have h0 := F58_ok (m + 3) (z1669) (z1670) r0 h0
  cases r0 with
  | a0 z1676 z1677 =>
    obtain ⟨r1, h1, h⟩ := Option.bind_eq_some_iff.mp h
    have h1 := F58_ok (m + 3) (z1671) (z1672) r1 h1
    cases r1 with
    | a0 z1678 z1679 =>
      obtain ⟨z1680, h2, h⟩ := bnd_eq h
      rcases ite_eq h with ⟨h3, h⟩ | ⟨h3, h⟩
      · skip
        cases h
        exact call_pathL (gs := [.a, .an (V.agg [i64 z1676, i64 z1677]) [], .a, .an (V.agg [i64 z1678, i64 z1679]) [], .an (i64 z1680) [], .a, .a, .ft [⟨0, [0], []⟩, ⟨1, [], []⟩, ⟨2, [1], []⟩, ⟨3, [], []⟩, ⟨4, [], []⟩, ⟨5, [], []⟩, ⟨6, [0], [0]⟩, ⟨7, [1], [1]⟩, ⟨8, [], []⟩], .t, .a, .a]) (notIn []) rfl rfl (by kernel_rfl) (And.intro h0 (And.intro h1 (And.intro (F45_ok (m + 4) (z1673) z1680 h2) (And.intro (Eq.refl ([⟨0, [0], []⟩, ⟨1, [], []⟩, ⟨2, [1], []⟩, ⟨3, [], []⟩, ⟨4, [], []⟩, ⟨5, [], []⟩, ⟨6, [0], [0]⟩, ⟨7, [1], [1]⟩, ⟨8, [], []⟩] : List Foot)) (And.intro (decide_eq_true h3) True.intro)))))
      · skip
        rcases ite_eq h with ⟨h4, h⟩ | ⟨h4, h⟩
        · skip
          cases h
          exact call_pathL (gs := [.a, .an (V.agg [i64 z1676, i64 z1677]) [], .a, .an (V.agg [i64 z1678, i64 z1679]) [], .an (i64 z1680) [], .a, .a, .ft [⟨0, [0], []⟩, ⟨1, [], []⟩, ⟨2, [1], []⟩, ⟨3, [], []⟩, ⟨4, [], []⟩, ⟨5, [], []⟩, ⟨6, [0], [0]⟩, ⟨7, [1], [1]⟩, ⟨8, [], []⟩], .f, .t, .a, .a]) (notIn []) rfl rfl (by kernel_rfl) (And.intro h0 (And.intro h1 (And.intro (F45_ok (m + 4) (z1673) z1680 h2) (And.intro (Eq.refl ([⟨0, [0], []⟩, ⟨1, [], []⟩, ⟨2, [1], []⟩, ⟨3, [], []⟩, ⟨4, [], []⟩, ⟨5, [], []⟩, ⟨6, [0], [0]⟩, ⟨7, [1], [1]⟩, ⟨8, [], []⟩] : List Foot)) (And.intro (decide_eq_false h3) (And.intro (decide_eq_true h4) True.intro))))))
        · skip
          obtain ⟨r5, h5, h⟩ := Option.bind_eq_some_iff.mp h
          have h5 := F68_ok (m + 1) (z1680) (z1674) r5 h5
          cases r5 with
          | a0 z1722 =>
            obtain ⟨r6, h6, h⟩ := Option.bind_eq_some_iff.mp h
            have h6 := F69_ok (m + 0) (z1676) (z1678) (z1722) r6 h6
            cases r6 with
            | a0 z1745 =>
              obtain ⟨r7, h7, h⟩ := Option.bind_eq_some_iff.mp h
              have h7 := F69_ok (m + 0) (z1677) (z1679) (z1722) r7 h7
              cases r7 with
              | a0 z1746 =>
                cases h
                exact call_pathL (gs := [.a, .an (V.agg [i64 z1676, i64 z1677]) [], .a, .an (V.agg [i64 z1678, i64 z1679]) [], .an (i64 z1680) [], .a, .a, .ft [⟨0, [0], []⟩, ⟨1, [], []⟩, ⟨2, [1], []⟩, ⟨3, [], []⟩, ⟨4, [], []⟩, ⟨5, [], []⟩, ⟨6, [0], [0]⟩, ⟨7, [1], [1]⟩, ⟨8, [], []⟩], .f, .f, .an (i64 z1722) [], .a, .a, .an (i64 z1745) [], .a, .a, .an (i64 z1746) [], .a, .ft [⟨0, [0], []⟩, ⟨1, [0], []⟩, ⟨2, [1], []⟩, ⟨3, [1], []⟩, ⟨4, [], []⟩, ⟨5, [], []⟩, ⟨6, [0], []⟩, ⟨7, [0], []⟩, ⟨8, [1], []⟩, ⟨9, [1], []⟩, ⟨10, [], []⟩, ⟨11, [], []⟩, ⟨12, [], []⟩, ⟨13, [2], [2]⟩]]) (notIn []) rfl rfl (by kernel_rfl) (And.intro h0 (And.intro h1 (And.intro (F45_ok (m + 4) (z1673) z1680 h2) (And.intro (Eq.refl ([⟨0, [0], []⟩, ⟨1, [], []⟩, ⟨2, [1], []⟩, ⟨3, [], []⟩, ⟨4, [], []⟩, ⟨5, [], []⟩, ⟨6, [0], [0]⟩, ⟨7, [1], [1]⟩, ⟨8, [], []⟩] : List Foot)) (And.intro (decide_eq_false h3) (And.intro (decide_eq_false h4) (And.intro h5 (And.intro h6 (And.intro h7 (And.intro (Eq.refl ([⟨0, [0], []⟩, ⟨1, [0], []⟩, ⟨2, [1], []⟩, ⟨3, [1], []⟩, ⟨4, [], []⟩, ⟨5, [], []⟩, ⟨6, [0], []⟩, ⟨7, [0], []⟩, ⟨8, [1], []⟩, ⟨9, [1], []⟩, ⟨10, [], []⟩, ⟨11, [], []⟩, ⟨12, [], []⟩, ⟨13, [2], [2]⟩] : List Foot)) True.intro))))))))))
/-! ## 25 -/
noncomputable abbrev B25v1 : Code := (Try.f25.body).getD .skip
inductive R25v1_0 where
  | e0
  | e1 (k1854 : Nat) (l1855 : List (List V))
@[reducible] def s25v1_0_0 (z1825 : Int) (z1826 : Int) (z1827 : Int) (z1828 : Int) (b1829 : Bool) (l1830 : List (List V)) (z1831 : Int) (b1832 : Bool) : S := { T := U :: i64 z1825 :: i64 z1826 :: V.ptr 0 0 0 :: U :: U :: V.ptr 1 0 0 :: V.ptr 2 0 0 :: i64 z1827 :: i64 z1828 :: un 12 (i64 z1828 :: V.agg [vb b1829, V.list 2 l1830] :: i64 z1831 :: vb b1832 :: un 56 []), σ := [Ob.cells true false 2 [[vb b1829, V.list 2 l1830]], Ob.cells true false 2 [[vb false, V.nilS]], Ob.cells true false 2 [[vb false, V.nilS]]] }
@[reducible] def s25v1_0_1 (z1846 : Int) (z1847 : Int) (z1848 : Int) (z1849 : Int) (b1850 : Bool) (l1851 : List (List V)) (z1852 : Int) (b1853 : Bool) (k1854 : Nat) (l1855 : List (List V)) : S := { T := U :: i64 z1846 :: i64 z1847 :: V.ptr 0 0 0 :: U :: U :: V.ptr 1 0 0 :: V.ptr 2 0 0 :: i64 z1848 :: i64 z1849 :: un 12 (i64 z1849 :: V.agg [vb b1850, V.list 2 l1851] :: i64 z1852 :: vb b1853 :: un 56 []), σ := [Ob.cells true false 2 [[vb b1850, V.list 2 l1851]], Ob.cells true false 2 [[vb false, V.nilS]], Ob.cells true false 2 [[vb false, V.hs 3 0 k1854]], Ob.cells true true 2 l1855] }
def R25v1_0.St : R25v1_0 → VX × S → Prop
  | .e0, p => ∃ z1825 : Int, ∃ z1826 : Int, ∃ z1827 : Int, ∃ z1828 : Int, ∃ b1829 : Bool, ∃ l1830 : List (List V), ∃ z1831 : Int, ∃ b1832 : Bool, p = (VX.exit 0, s25v1_0_0 z1825 z1826 z1827 z1828 b1829 l1830 z1831 b1832)
  | .e1 k1854 l1855, p => ∃ z1846 : Int, ∃ z1847 : Int, ∃ z1848 : Int, ∃ z1849 : Int, ∃ b1850 : Bool, ∃ l1851 : List (List V), ∃ z1852 : Int, ∃ b1853 : Bool, p = (VX.exit 0, s25v1_0_1 z1846 z1847 z1848 z1849 b1850 l1851 z1852 b1853 k1854 l1855)
def L25v1_0s1 : Nat → Int → Int → Int → Int → Bool → List (List V) → Nat → List (List V) → Option R25v1_0
  | 0, _, _, _, _, _, _, _, _ => none
  | n + 1, z1778, z1779, z1780, z1781, b1782, l1783, k1784, l1785 =>
    bnd (F21v1 (b1782) (l1783)) fun z1833 =>
    if z1781 < z1833 then
     (F34v1 (b1782) (l1783) (z1781)).bind fun r => match r with
     | .a0 z1834 z1835 z1836 z1837 =>
      (F36 (z1834) (z1835) (z1836) (z1837)).bind fun r => match r with
      | .a0 z1838 =>
       bnd (F35 (z1780) (z1838)) fun z1839 =>
       if z1838 > 0 then
        if z1839 > z1778 then
         if z1780 < z1779 then
          if ((↑k1784 : Int) == 0) = true then
           (F46 (z1834) (z1835) (z1836) (z1837) (w64 (z1778 - z1780)) (z1838)).bind fun r => match r with
           | .a0 z1840 z1841 =>
            if 0 + k1784 ≤ List.length l1785 ∧ (k1784 + 1) * 16 ≤ 140737488355328 ∧ k1784 + 1 ≤ 140737488355328 then
             (F46 (z1834) (z1835) (z1836) (z1837) (w64 (z1779 - z1780)) (z1838)).bind fun r => match r with
             | .a0 z1842 z1843 =>
              if 0 + (k1784 + 1) ≤ List.length (List.take k1784 l1785 ++ [[i64 z1840, i64 z1841]]) ∧ (k1784 + 1 + 1) * 16 ≤ 140737488355328 ∧ k1784 + 1 + 1 ≤ 140737488355328 then
               L25v1_0s1 n (z1778) (z1779) (z1839) (w64 (z1781 + 1)) (b1782) (l1783) (k1784 + 1 + 1) (List.take (k1784 + 1) (List.take k1784 l1785 ++ [[i64 z1840, i64 z1841]]) ++ [[i64 z1842, i64 z1843]])
              else
               none -- none
            else
             none -- none
          else
           (F46 (z1834) (z1835) (z1836) (z1837) (w64 (z1779 - z1780)) (z1838)).bind fun r => match r with
           | .a0 z1844 z1845 =>
            if 0 + k1784 ≤ List.length l1785 ∧ (k1784 + 1) * 16 ≤ 140737488355328 ∧ k1784 + 1 ≤ 140737488355328 then
             L25v1_0s1 n (z1778) (z1779) (z1839) (w64 (z1781 + 1)) (b1782) (l1783) (k1784 + 1) (List.take k1784 l1785 ++ [[i64 z1844, i64 z1845]])
            else
             none -- none
         else
          L25v1_0s1 n (z1778) (z1779) (z1839) (w64 (z1781 + 1)) (b1782) (l1783) (k1784) (l1785)
        else
         L25v1_0s1 n (z1778) (z1779) (z1839) (w64 (z1781 + 1)) (b1782) (l1783) (k1784) (l1785)
       else
        L25v1_0s1 n (z1778) (z1779) (z1839) (w64 (z1781 + 1)) (b1782) (l1783) (k1784) (l1785)
    else
     some (R25v1_0.e1 (k1784) (l1785))
theorem L25v1_0s1_ok (m : Nat) : ∀ (n : Nat) (z1778 : Int) (z1779 : Int) (z1780 : Int) (z1781 : Int) (b1782 : Bool) (l1783 : List (List V)) (k1784 : Nat) (l1785 : List (List V)) (r : R25v1_0), L25v1_0s1 n z1778 z1779 z1780 z1781 b1782 l1783 k1784 l1785 = some r → ∃ st, loopFrom Try.prog X (call Try.prog X O0 100000 (m + 7)) 25 (0) 100000 B25v1 0 n ({ T := U :: i64 z1778 :: i64 z1779 :: V.ptr 0 0 0 :: U :: U :: V.ptr 1 0 0 :: V.ptr 2 0 0 :: i64 z1780 :: i64 z1781 :: un 72 [], σ := [Ob.cells true false 2 [[vb b1782, V.list 2 l1783]], Ob.cells true false 2 [[vb false, V.nilS]], Ob.cells true false 2 [[vb false, V.hs 3 0 k1784]], Ob.cells true true 2 l1785] }) = some st ∧ r.St st
  | 0, _, _, _, _, _, _, _, _, r, h => by cases h
  | n + 1, z1778, z1779, z1780, z1781, b1782, l1783, k1784, l1785, r, h => by
    rw [L25v1_0s1] at h
    obtain ⟨z1833, h0, h⟩ := bnd_eq h
    rcases ite_eq h with ⟨h1, h⟩ | ⟨h1, h⟩
    · skip
      obtain ⟨r2, h2, h⟩ := Option.bind_eq_some_iff.mp h
      have h2 := F34v1_ok (m + 3) (b1782) (l1783) (z1781) r2 h2
      cases r2 with
      | a0 z1834 z1835 z1836 z1837 =>
        obtain ⟨r3, h3, h⟩ := Option.bind_eq_some_iff.mp h
        have h3 := F36_ok (m + 4) (z1834) (z1835) (z1836) (z1837) r3 h3
        cases r3 with
        | a0 z1838 =>
          obtain ⟨z1839, h4, h⟩ := bnd_eq h
          rcases ite_eq h with ⟨h5, h⟩ | ⟨h5, h⟩
          · skip
            rcases ite_eq h with ⟨h6, h⟩ | ⟨h6, h⟩
            · skip
              rcases ite_eq h with ⟨h7, h⟩ | ⟨h7, h⟩
              · skip
                rcases ite_eq h with ⟨h8, h⟩ | ⟨h8, h⟩
                · skip
                  obtain ⟨r9, h9, h⟩ := Option.bind_eq_some_iff.mp h
                  have h9 := F46_ok (m + 0) (z1834) (z1835) (z1836) (z1837) (w64 (z1778 - z1780)) (z1838) r9 h9
                  cases r9 with
                  | a0 z1840 z1841 =>
                    rcases ite_eq h with ⟨h10, h⟩ | ⟨h10, h⟩
                    · skip
                      obtain ⟨r11, h11, h⟩ := Option.bind_eq_some_iff.mp h
                      have h11 := F46_ok (m + 0) (z1834) (z1835) (z1836) (z1837) (w64 (z1779 - z1780)) (z1838) r11 h11
                      cases r11 with
                      | a0 z1842 z1843 =>
                        rcases ite_eq h with ⟨h12, h⟩ | ⟨h12, h⟩
                        · skip
                          obtain ⟨st, hs, hr⟩ := L25v1_0s1_ok m n (z1778) (z1779) (z1839) (w64 (z1781 + 1)) (b1782) (l1783) (k1784 + 1 + 1) (List.take (k1784 + 1) (List.take k1784 l1785 ++ [[i64 z1840, i64 z1841]]) ++ [[i64 z1842, i64 z1843]]) r h
                          exact ⟨st, (round_on (gs := [.a, .an (i64 z1833) [], .t, .a, .an (V.tup [V.agg [i64 z1834, i64 z1835], V.agg [i64 z1836, i64 z1837]]) [], .a, .a, .a, .a, .an (i64 z1838) [], .an (i64 z1839) [], .t, .t, .t, .t, .t, .t, .t, .t, .t, .a, .t, .a, .a, .a, .an (V.agg [i64 z1840, i64 z1841]) [], .a, .t, .a, .ft [⟨0, [2], []⟩, ⟨1, [2], []⟩, ⟨2, [7], []⟩, ⟨3, [8], []⟩, ⟨4, [], []⟩, ⟨5, [], []⟩, ⟨6, [], []⟩, ⟨7, [], []⟩, ⟨8, [], []⟩, ⟨9, [9], [9]⟩, ⟨10, [9, 10, 3], [3, 10]⟩, ⟨11, [2], []⟩, ⟨12, [2], [2]⟩], .a, .a, .a, .an (V.agg [i64 z1842, i64 z1843]) [], .a, .t, .a, .ft [⟨0, [2], []⟩, ⟨1, [2], []⟩, ⟨2, [7], []⟩, ⟨3, [8], []⟩, ⟨4, [], []⟩, ⟨5, [], []⟩, ⟨6, [], []⟩, ⟨7, [], []⟩, ⟨8, [], []⟩, ⟨9, [11], [11]⟩, ⟨10, [11, 12, 10], [10, 12]⟩, ⟨11, [2], []⟩, ⟨12, [2], [2]⟩]]) (notIn []) (by kernel_rfl) (And.intro (F21v1_ok (m + 6) (b1782) (l1783) z1833 h0) (And.intro (decide_eq_true h1) (And.intro h2 (And.intro h3 (And.intro (F35_ok (m + 4) (z1780) (z1838) z1839 h4) (And.intro (decide_eq_true h5) (And.intro (decide_eq_true h5) (And.intro (decide_eq_true h5) (And.intro (decide_eq_true h5) (And.intro (decide_eq_true h6) (And.intro (decide_eq_true h6) (And.intro (decide_eq_true h6) (And.intro (decide_eq_true h6) (And.intro (decide_eq_true h7) (And.intro h8 (And.intro h9 (And.intro (decide_eq_true h10) (And.intro (Eq.refl ([⟨0, [2], []⟩, ⟨1, [2], []⟩, ⟨2, [7], []⟩, ⟨3, [8], []⟩, ⟨4, [], []⟩, ⟨5, [], []⟩, ⟨6, [], []⟩, ⟨7, [], []⟩, ⟨8, [], []⟩, ⟨9, [9], [9]⟩, ⟨10, [9, 10, 3], [3, 10]⟩, ⟨11, [2], []⟩, ⟨12, [2], [2]⟩] : List Foot)) (And.intro h11 (And.intro (decide_eq_true h12) (And.intro (Eq.refl ([⟨0, [2], []⟩, ⟨1, [2], []⟩, ⟨2, [7], []⟩, ⟨3, [8], []⟩, ⟨4, [], []⟩, ⟨5, [], []⟩, ⟨6, [], []⟩, ⟨7, [], []⟩, ⟨8, [], []⟩, ⟨9, [11], [11]⟩, ⟨10, [11, 12, 10], [10, 12]⟩, ⟨11, [2], []⟩, ⟨12, [2], [2]⟩] : List Foot)) True.intro))))))))))))))))))))) n).trans hs, hr⟩
                        · skip
                          cases h
                    · skip
                      cases h
                · skip
                  obtain ⟨r9, h9, h⟩ := Option.bind_eq_some_iff.mp h
                  have h9 := F46_ok (m + 0) (z1834) (z1835) (z1836) (z1837) (w64 (z1779 - z1780)) (z1838) r9 h9
                  cases r9 with
                  | a0 z1844 z1845 =>
                    rcases ite_eq h with ⟨h10, h⟩ | ⟨h10, h⟩
                    · skip
                      obtain ⟨st, hs, hr⟩ := L25v1_0s1_ok m n (z1778) (z1779) (z1839) (w64 (z1781 + 1)) (b1782) (l1783) (k1784 + 1) (List.take k1784 l1785 ++ [[i64 z1844, i64 z1845]]) r h
                      exact ⟨st, (round_on (gs := [.a, .an (i64 z1833) [], .t, .a, .an (V.tup [V.agg [i64 z1834, i64 z1835], V.agg [i64 z1836, i64 z1837]]) [], .a, .a, .a, .a, .an (i64 z1838) [], .an (i64 z1839) [], .t, .t, .t, .t, .t, .t, .t, .t, .t, .a, .f, .a, .a, .a, .an (V.agg [i64 z1844, i64 z1845]) [], .a, .t, .a, .ft [⟨0, [2], []⟩, ⟨1, [2], []⟩, ⟨2, [7], []⟩, ⟨3, [8], []⟩, ⟨4, [], []⟩, ⟨5, [], []⟩, ⟨6, [], []⟩, ⟨7, [], []⟩, ⟨8, [], []⟩, ⟨9, [9], [9]⟩, ⟨10, [9, 10, 3], [3, 10]⟩, ⟨11, [2], []⟩, ⟨12, [2], [2]⟩]]) (notIn []) (by kernel_rfl) (And.intro (F21v1_ok (m + 6) (b1782) (l1783) z1833 h0) (And.intro (decide_eq_true h1) (And.intro h2 (And.intro h3 (And.intro (F35_ok (m + 4) (z1780) (z1838) z1839 h4) (And.intro (decide_eq_true h5) (And.intro (decide_eq_true h5) (And.intro (decide_eq_true h5) (And.intro (decide_eq_true h5) (And.intro (decide_eq_true h6) (And.intro (decide_eq_true h6) (And.intro (decide_eq_true h6) (And.intro (decide_eq_true h6) (And.intro (decide_eq_true h7) (And.intro (Bool.eq_false_iff.mpr h8) (And.intro h9 (And.intro (decide_eq_true h10) (And.intro (Eq.refl ([⟨0, [2], []⟩, ⟨1, [2], []⟩, ⟨2, [7], []⟩, ⟨3, [8], []⟩, ⟨4, [], []⟩, ⟨5, [], []⟩, ⟨6, [], []⟩, ⟨7, [], []⟩, ⟨8, [], []⟩, ⟨9, [9], [9]⟩, ⟨10, [9, 10, 3], [3, 10]⟩, ⟨11, [2], []⟩, ⟨12, [2], [2]⟩] : List Foot)) True.intro)))))))))))))))))) n).trans hs, hr⟩
                    · skip
                      cases h
              · skip
                obtain ⟨st, hs, hr⟩ := L25v1_0s1_ok m n (z1778) (z1779) (z1839) (w64 (z1781 + 1)) (b1782) (l1783) (k1784) (l1785) r h
                exact ⟨st, (round_on (gs := [.a, .an (i64 z1833) [], .t, .a, .an (V.tup [V.agg [i64 z1834, i64 z1835], V.agg [i64 z1836, i64 z1837]]) [], .a, .a, .a, .a, .an (i64 z1838) [], .an (i64 z1839) [], .t, .t, .t, .t, .t, .t, .t, .t, .f]) (notIn []) (by kernel_rfl) (And.intro (F21v1_ok (m + 6) (b1782) (l1783) z1833 h0) (And.intro (decide_eq_true h1) (And.intro h2 (And.intro h3 (And.intro (F35_ok (m + 4) (z1780) (z1838) z1839 h4) (And.intro (decide_eq_true h5) (And.intro (decide_eq_true h5) (And.intro (decide_eq_true h5) (And.intro (decide_eq_true h5) (And.intro (decide_eq_true h6) (And.intro (decide_eq_true h6) (And.intro (decide_eq_true h6) (And.intro (decide_eq_true h6) (And.intro (decide_eq_false h7) True.intro)))))))))))))) n).trans hs, hr⟩
            · skip
              obtain ⟨st, hs, hr⟩ := L25v1_0s1_ok m n (z1778) (z1779) (z1839) (w64 (z1781 + 1)) (b1782) (l1783) (k1784) (l1785) r h
              exact ⟨st, (round_on (gs := [.a, .an (i64 z1833) [], .t, .a, .an (V.tup [V.agg [i64 z1834, i64 z1835], V.agg [i64 z1836, i64 z1837]]) [], .a, .a, .a, .a, .an (i64 z1838) [], .an (i64 z1839) [], .t, .t, .t, .t, .f, .f, .f, .f, .a]) (notIn []) (by kernel_rfl) (And.intro (F21v1_ok (m + 6) (b1782) (l1783) z1833 h0) (And.intro (decide_eq_true h1) (And.intro h2 (And.intro h3 (And.intro (F35_ok (m + 4) (z1780) (z1838) z1839 h4) (And.intro (decide_eq_true h5) (And.intro (decide_eq_true h5) (And.intro (decide_eq_true h5) (And.intro (decide_eq_true h5) (And.intro (decide_eq_false h6) (And.intro (decide_eq_false h6) (And.intro (decide_eq_false h6) (And.intro (decide_eq_false h6) True.intro))))))))))))) n).trans hs, hr⟩
          · skip
            obtain ⟨st, hs, hr⟩ := L25v1_0s1_ok m n (z1778) (z1779) (z1839) (w64 (z1781 + 1)) (b1782) (l1783) (k1784) (l1785) r h
            exact ⟨st, (round_on (gs := [.a, .an (i64 z1833) [], .t, .a, .an (V.tup [V.agg [i64 z1834, i64 z1835], V.agg [i64 z1836, i64 z1837]]) [], .a, .a, .a, .a, .an (i64 z1838) [], .an (i64 z1839) [], .f, .f, .f, .f, .a, .a, .a, .a, .a]) (notIn []) (by kernel_rfl) (And.intro (F21v1_ok (m + 6) (b1782) (l1783) z1833 h0) (And.intro (decide_eq_true h1) (And.intro h2 (And.intro h3 (And.intro (F35_ok (m + 4) (z1780) (z1838) z1839 h4) (And.intro (decide_eq_false h5) (And.intro (decide_eq_false h5) (And.intro (decide_eq_false h5) (And.intro (decide_eq_false h5) True.intro))))))))) n).trans hs, hr⟩
    · skip
      cases h
      exact ⟨_, round_out (gs := [.a, .an (i64 z1833) [], .f]) (notIn []) (by kernel_rfl) rfl (And.intro (F21v1_ok (m + 6) (b1782) (l1783) z1833 h0) (And.intro (decide_eq_false h1) True.intro)) n, z1778, z1779, z1780, z1781, b1782, l1783, z1833, decide (z1781 < z1833), rfl⟩
def L25v1_0 : Nat → Int → Int → Int → Int → Bool → List (List V) → Option R25v1_0
  | 0, _, _, _, _, _, _ => none
  | n + 1, z1757, z1758, z1759, z1760, b1761, l1762 =>
    bnd (F21v1 (b1761) (l1762)) fun z1814 =>
    if z1760 < z1814 then
     (F34v1 (b1761) (l1762) (z1760)).bind fun r => match r with
     | .a0 z1815 z1816 z1817 z1818 =>
      (F36 (z1815) (z1816) (z1817) (z1818)).bind fun r => match r with
      | .a0 z1819 =>
       bnd (F35 (z1759) (z1819)) fun z1820 =>
       if z1819 > 0 then
        if z1820 > z1757 then
         if z1759 < z1758 then
          (F46 (z1815) (z1816) (z1817) (z1818) (w64 (z1757 - z1759)) (z1819)).bind fun r => match r with
          | .a0 z1821 z1822 =>
           (F46 (z1815) (z1816) (z1817) (z1818) (w64 (z1758 - z1759)) (z1819)).bind fun r => match r with
           | .a0 z1823 z1824 =>
            L25v1_0s1 n (z1757) (z1758) (z1820) (w64 (z1760 + 1)) (b1761) (l1762) (2) ([[i64 z1821, i64 z1822], [i64 z1823, i64 z1824]])
         else
          L25v1_0 n (z1757) (z1758) (z1820) (w64 (z1760 + 1)) (b1761) (l1762)
        else
         L25v1_0 n (z1757) (z1758) (z1820) (w64 (z1760 + 1)) (b1761) (l1762)
       else
        L25v1_0 n (z1757) (z1758) (z1820) (w64 (z1760 + 1)) (b1761) (l1762)
    else
     some (R25v1_0.e0)
theorem L25v1_0_ok (m : Nat) : ∀ (n : Nat) (z1757 : Int) (z1758 : Int) (z1759 : Int) (z1760 : Int) (b1761 : Bool) (l1762 : List (List V)) (r : R25v1_0), L25v1_0 n z1757 z1758 z1759 z1760 b1761 l1762 = some r → ∃ st, loopFrom Try.prog X (call Try.prog X O0 100000 (m + 7)) 25 (0) 100000 B25v1 0 n ({ T := U :: i64 z1757 :: i64 z1758 :: V.ptr 0 0 0 :: U :: U :: V.ptr 1 0 0 :: V.ptr 2 0 0 :: i64 z1759 :: i64 z1760 :: un 72 [], σ := [Ob.cells true false 2 [[vb b1761, V.list 2 l1762]], Ob.cells true false 2 [[vb false, V.nilS]], Ob.cells true false 2 [[vb false, V.nilS]]] }) = some st ∧ r.St st
  | 0, _, _, _, _, _, _, r, h => by cases h
  | n + 1, z1757, z1758, z1759, z1760, b1761, l1762, r, h => by
    rw [L25v1_0] at h
    obtain ⟨z1814, h0, h⟩ := bnd_eq h
    rcases ite_eq h with ⟨h1, h⟩ | ⟨h1, h⟩
    · skip
      obtain ⟨r2, h2, h⟩ := Option.bind_eq_some_iff.mp h
      have h2 := F34v1_ok (m + 3) (b1761) (l1762) (z1760) r2 h2
      cases r2 with
      | a0 z1815 z1816 z1817 z1818 =>
        obtain ⟨r3, h3, h⟩ := Option.bind_eq_some_iff.mp h
        have h3 := F36_ok (m + 4) (z1815) (z1816) (z1817) (z1818) r3 h3
        cases r3 with
        | a0 z1819 =>
          obtain ⟨z1820, h4, h⟩ := bnd_eq h
          rcases ite_eq h with ⟨h5, h⟩ | ⟨h5, h⟩
          · skip
            rcases ite_eq h with ⟨h6, h⟩ | ⟨h6, h⟩
            · skip
              rcases ite_eq h with ⟨h7, h⟩ | ⟨h7, h⟩
              · skip
                obtain ⟨r8, h8, h⟩ := Option.bind_eq_some_iff.mp h
                have h8 := F46_ok (m + 0) (z1815) (z1816) (z1817) (z1818) (w64 (z1757 - z1759)) (z1819) r8 h8
                cases r8 with
                | a0 z1821 z1822 =>
                  obtain ⟨r9, h9, h⟩ := Option.bind_eq_some_iff.mp h
                  have h9 := F46_ok (m + 0) (z1815) (z1816) (z1817) (z1818) (w64 (z1758 - z1759)) (z1819) r9 h9
                  cases r9 with
                  | a0 z1823 z1824 =>
                    obtain ⟨st, hs, hr⟩ := L25v1_0s1_ok m n (z1757) (z1758) (z1820) (w64 (z1760 + 1)) (b1761) (l1762) (2) ([[i64 z1821, i64 z1822], [i64 z1823, i64 z1824]]) r h
                    exact ⟨st, (round_on (gs := [.a, .an (i64 z1814) [], .t, .a, .an (V.tup [V.agg [i64 z1815, i64 z1816], V.agg [i64 z1817, i64 z1818]]) [], .a, .a, .a, .a, .an (i64 z1819) [], .an (i64 z1820) [], .t, .t, .t, .t, .t, .t, .t, .t, .t, .a, .a, .a, .a, .a, .an (V.agg [i64 z1821, i64 z1822]) [], .a, .a, .a, .ft [⟨0, [2], []⟩, ⟨1, [2], []⟩, ⟨2, [6], []⟩, ⟨3, [7], []⟩, ⟨4, [], []⟩, ⟨5, [], []⟩, ⟨6, [], []⟩, ⟨7, [], []⟩, ⟨8, [], []⟩, ⟨9, [8], [8]⟩, ⟨10, [8, 9], [9]⟩, ⟨11, [2], []⟩, ⟨12, [2], [2]⟩], .a, .a, .a, .an (V.agg [i64 z1823, i64 z1824]) [], .a, .a, .a, .ft [⟨0, [2], []⟩, ⟨1, [2], []⟩, ⟨2, [6], []⟩, ⟨3, [7], []⟩, ⟨4, [], []⟩, ⟨5, [], []⟩, ⟨6, [], []⟩, ⟨7, [], []⟩, ⟨8, [], []⟩, ⟨9, [10], [10]⟩, ⟨10, [10, 11, 9], [9, 11]⟩, ⟨11, [2], []⟩, ⟨12, [2], [2]⟩]]) (notIn []) (by kernel_rfl) (And.intro (F21v1_ok (m + 6) (b1761) (l1762) z1814 h0) (And.intro (decide_eq_true h1) (And.intro h2 (And.intro h3 (And.intro (F35_ok (m + 4) (z1759) (z1819) z1820 h4) (And.intro (decide_eq_true h5) (And.intro (decide_eq_true h5) (And.intro (decide_eq_true h5) (And.intro (decide_eq_true h5) (And.intro (decide_eq_true h6) (And.intro (decide_eq_true h6) (And.intro (decide_eq_true h6) (And.intro (decide_eq_true h6) (And.intro (decide_eq_true h7) (And.intro h8 (And.intro (Eq.refl ([⟨0, [2], []⟩, ⟨1, [2], []⟩, ⟨2, [6], []⟩, ⟨3, [7], []⟩, ⟨4, [], []⟩, ⟨5, [], []⟩, ⟨6, [], []⟩, ⟨7, [], []⟩, ⟨8, [], []⟩, ⟨9, [8], [8]⟩, ⟨10, [8, 9], [9]⟩, ⟨11, [2], []⟩, ⟨12, [2], [2]⟩] : List Foot)) (And.intro h9 (And.intro (Eq.refl ([⟨0, [2], []⟩, ⟨1, [2], []⟩, ⟨2, [6], []⟩, ⟨3, [7], []⟩, ⟨4, [], []⟩, ⟨5, [], []⟩, ⟨6, [], []⟩, ⟨7, [], []⟩, ⟨8, [], []⟩, ⟨9, [10], [10]⟩, ⟨10, [10, 11, 9], [9, 11]⟩, ⟨11, [2], []⟩, ⟨12, [2], [2]⟩] : List Foot)) True.intro)))))))))))))))))) n).trans hs, hr⟩
              · skip
                obtain ⟨st, hs, hr⟩ := L25v1_0_ok m n (z1757) (z1758) (z1820) (w64 (z1760 + 1)) (b1761) (l1762) r h
                exact ⟨st, (round_on (gs := [.a, .an (i64 z1814) [], .t, .a, .an (V.tup [V.agg [i64 z1815, i64 z1816], V.agg [i64 z1817, i64 z1818]]) [], .a, .a, .a, .a, .an (i64 z1819) [], .an (i64 z1820) [], .t, .t, .t, .t, .t, .t, .t, .t, .f]) (notIn []) (by kernel_rfl) (And.intro (F21v1_ok (m + 6) (b1761) (l1762) z1814 h0) (And.intro (decide_eq_true h1) (And.intro h2 (And.intro h3 (And.intro (F35_ok (m + 4) (z1759) (z1819) z1820 h4) (And.intro (decide_eq_true h5) (And.intro (decide_eq_true h5) (And.intro (decide_eq_true h5) (And.intro (decide_eq_true h5) (And.intro (decide_eq_true h6) (And.intro (decide_eq_true h6) (And.intro (decide_eq_true h6) (And.intro (decide_eq_true h6) (And.intro (decide_eq_false h7) True.intro)))))))))))))) n).trans hs, hr⟩
            · skip
              obtain ⟨st, hs, hr⟩ := L25v1_0_ok m n (z1757) (z1758) (z1820) (w64 (z1760 + 1)) (b1761) (l1762) r h
              exact ⟨st, (round_on (gs := [.a, .an (i64 z1814) [], .t, .a, .an (V.tup [V.agg [i64 z1815, i64 z1816], V.agg [i64 z1817, i64 z1818]]) [], .a, .a, .a, .a, .an (i64 z1819) [], .an (i64 z1820) [], .t, .t, .t, .t, .f, .f, .f, .f, .a]) (notIn []) (by kernel_rfl) (And.intro (F21v1_ok (m + 6) (b1761) (l1762) z1814 h0) (And.intro (decide_eq_true h1) (And.intro h2 (And.intro h3 (And.intro (F35_ok (m + 4) (z1759) (z1819) z1820 h4) (And.intro (decide_eq_true h5) (And.intro (decide_eq_true h5) (And.intro (decide_eq_true h5) (And.intro (decide_eq_true h5) (And.intro (decide_eq_false h6) (And.intro (decide_eq_false h6) (And.intro (decide_eq_false h6) (And.intro (decide_eq_false h6) True.intro))))))))))))) n).trans hs, hr⟩
          · skip
            obtain ⟨st, hs, hr⟩ := L25v1_0_ok m n (z1757) (z1758) (z1820) (w64 (z1760 + 1)) (b1761) (l1762) r h
            exact ⟨st, (round_on (gs := [.a, .an (i64 z1814) [], .t, .a, .an (V.tup [V.agg [i64 z1815, i64 z1816], V.agg [i64 z1817, i64 z1818]]) [], .a, .a, .a, .a, .an (i64 z1819) [], .an (i64 z1820) [], .f, .f, .f, .f, .a, .a, .a, .a, .a]) (notIn []) (by kernel_rfl) (And.intro (F21v1_ok (m + 6) (b1761) (l1762) z1814 h0) (And.intro (decide_eq_true h1) (And.intro h2 (And.intro h3 (And.intro (F35_ok (m + 4) (z1759) (z1819) z1820 h4) (And.intro (decide_eq_false h5) (And.intro (decide_eq_false h5) (And.intro (decide_eq_false h5) (And.intro (decide_eq_false h5) True.intro))))))))) n).trans hs, hr⟩
    · skip
      cases h
      exact ⟨_, round_out (gs := [.a, .an (i64 z1814) [], .f]) (notIn []) (by kernel_rfl) rfl (And.intro (F21v1_ok (m + 6) (b1761) (l1762) z1814 h0) (And.intro (decide_eq_false h1) True.intro)) n, z1757, z1758, z1759, z1760, b1761, l1762, z1814, decide (z1760 < z1814), rfl⟩
inductive A25v1 where
  | a0 (b1813 : Bool)
  | a1 (b1874 : Bool) (k1875 : Nat) (l1876 : List (List V))
@[reducible] def A25v1.out : A25v1 → V × Store
  | .a0 b1813 => (V.agg [vb b1813, V.nilS], [])
  | .a1 b1874 k1875 l1876 => (V.agg [vb b1874, V.hs 0 0 k1875], [Ob.cells true true 2 l1876])
def F25v1 (b1650 : Bool) (l1651 : List (List V)) (z1652 : Int) (z1653 : Int) : Option A25v1 :=
  bnd (F45 (z1652)) fun z1811 =>
  bnd (F45 (z1653)) fun z1812 =>
  if z1811 ≥ z1812 then
   some (A25v1.a0 (false))
  else
   (L25v1_0 100000 (z1811) (z1812) (0) (0) (b1650) (l1651)).bind fun r => match r with
   | .e0 =>
    some (A25v1.a0 (false))
   | .e1 k1872 l1873 =>
    some (A25v1.a1 (false) (k1872) (l1873))
theorem F25v1_ok (m : Nat) (b1650 : Bool) (l1651 : List (List V)) (z1652 : Int) (z1653 : Int) (r : A25v1) (h : F25v1 b1650 l1651 z1652 z1653 = some r) : call Try.prog X O0 100000 (m + 8) 25 ([V.agg [vb b1650, V.list 2 l1651], i64 z1652, i64 z1653]) ([]) = some r.out := by
  unfold F25v1 at h
  obtain ⟨z1811, h0, h⟩ := bnd_eq h
  obtain ⟨z1812, h1, h⟩ := bnd_eq h
  rcases ite_eq h with ⟨h2, h⟩ | ⟨h2, h⟩
  · skip
    cases h
    exact call_pathL (gs := [.an (i64 z1811) [], .an (i64 z1812) [], .t, .a, .a]) (notIn []) rfl rfl (by kernel_rfl) (And.intro (F45_ok (m + 5) (z1652) z1811 h0) (And.intro (F45_ok (m + 5) (z1653) z1812 h1) (And.intro (decide_eq_true h2) True.intro)))
  · skip
    obtain ⟨r3, h3, h⟩ := Option.bind_eq_some_iff.mp h
    obtain ⟨st3, h3, hr3⟩ := L25v1_0_ok m 100000 (z1811) (z1812) (0) (0) (b1650) (l1651) r3 h3
    have h3 : loopRun Try.prog X (call Try.prog X O0 100000 (m + 7)) 25 (0) 100000 B25v1 0 ({ T := V.agg [vb b1650, V.list 2 l1651] :: i64 z1811 :: i64 z1812 :: V.ptr 0 0 0 :: U :: U :: V.ptr 1 0 0 :: V.ptr 2 0 0 :: i64 0 :: i64 0 :: un 4 (i64 z1652 :: i64 z1811 :: i64 z1653 :: i64 z1812 :: i64 z1811 :: i64 z1812 :: vb (decide (z1811 ≥ z1812)) :: un 61 []), σ := [Ob.cells true false 2 [[vb b1650, V.list 2 l1651]], Ob.cells true false 2 [[vb false, V.nilS]], Ob.cells true false 2 [[vb false, V.nilS]]] }) = some st3 := by
      rw [loopRun_from, show prep (0) (X.keep 25 0) ({ T := V.agg [vb b1650, V.list 2 l1651] :: i64 z1811 :: i64 z1812 :: V.ptr 0 0 0 :: U :: U :: V.ptr 1 0 0 :: V.ptr 2 0 0 :: i64 0 :: i64 0 :: un 4 (i64 z1652 :: i64 z1811 :: i64 z1653 :: i64 z1812 :: i64 z1811 :: i64 z1812 :: vb (decide (z1811 ≥ z1812)) :: un 61 []), σ := [Ob.cells true false 2 [[vb b1650, V.list 2 l1651]], Ob.cells true false 2 [[vb false, V.nilS]], Ob.cells true false 2 [[vb false, V.nilS]]] }) = { T := U :: i64 z1811 :: i64 z1812 :: V.ptr 0 0 0 :: U :: U :: V.ptr 1 0 0 :: V.ptr 2 0 0 :: i64 0 :: i64 0 :: un 72 [], σ := [Ob.cells true false 2 [[vb b1650, V.list 2 l1651]], Ob.cells true false 2 [[vb false, V.nilS]], Ob.cells true false 2 [[vb false, V.nilS]]] } by kernel_rfl]
      exact h3
    cases r3 with
    | e0 =>
      obtain ⟨z1856, z1857, z1858, z1859, b1860, l1861, z1862, b1863, rfl⟩ := hr3
      cases h
      exact call_pathL (gs := [.an (i64 z1811) [], .an (i64 z1812) [], .f, .lp (VX.exit 0) (s25v1_0_0 z1856 z1857 z1858 z1859 b1860 l1861 z1862 b1863), .a, .a]) (notIn []) rfl rfl (by kernel_rfl) (And.intro (F45_ok (m + 5) (z1652) z1811 h0) (And.intro (F45_ok (m + 5) (z1653) z1812 h1) (And.intro (decide_eq_false h2) (And.intro h3 True.intro))))
    | e1 k1872 l1873 =>
      obtain ⟨z1864, z1865, z1866, z1867, b1868, l1869, z1870, b1871, rfl⟩ := hr3
      cases h
      exact call_pathL (gs := [.an (i64 z1811) [], .an (i64 z1812) [], .f, .lp (VX.exit 0) (s25v1_0_1 z1864 z1865 z1866 z1867 b1868 l1869 z1870 b1871 k1872 l1873), .a, .a]) (notIn []) rfl rfl (by kernel_rfl) (And.intro (F45_ok (m + 5) (z1652) z1811 h0) (And.intro (F45_ok (m + 5) (z1653) z1812 h1) (And.intro (decide_eq_false h2) (And.intro h3 True.intro))))
/-! ## 8 -/
inductive A8 where
  | a0 (b1455 : Bool)
@[reducible] def A8.out : A8 → V × Store
  | .a0 b1455 => (vb b1455, [])
def F8 (l0 : List (List V)) : Option A8 :=
  (F11 (l0) (0)).bind fun r => match r with
  | .a0 b163 l164 z165 =>
   (F13 (b163)).bind fun r => match r with
   | .a0 z192 =>
    (F12 (b163) ([[i64 67108864], [i64 65536]])).bind fun r => match r with
    | .a0 k386 l387 =>
     (F12v1 (b163)).bind fun r => match r with
     | .a0 k392 l393 =>
      if 0 + k392 ≤ List.length l393 then
       (F24 (List.take k392 l393) ([[vb b163, V.nilS]])).bind fun r => match r with
       | .a0 b847 =>
        if (!b847) = true then
         none -- false
        else
         if (z192 == 0) = true then
          if ((↑k386 : Int) == 0) = true then
           (F14).bind fun r => match r with
           | .a0 b1454 =>
            some (A8.a0 (b1454))
          else
           none -- false
         else
          if ((↑k386 : Int) == 1) = true then
           if (0 : Int) ≤ (0 : Int) ∧ (0 : Int) < (↑k386 : Int) then
            orE ((l387[(0 : Nat)]?).bind W25.dec) (fun e1456 =>
             if (!e1456.c0) = true then
              (F13v1 (e1456.c0) (e1456.2)).bind fun r => match r with
              | .a0 z1581 =>
               if (z1581 == z192) = true then
                (F25 (b163) (0) (z192)).bind fun r => match r with
                | .a0 b1617 =>
                 if 0 + k386 ≤ List.length l387 then
                  (F24 (List.take k386 l387) ([[vb b1617, V.nilS]])).bind fun r => match r with
                  | .a0 b1618 =>
                   if (b1618) = true then
                    (F14).bind fun r => match r with
                    | .a0 b1619 =>
                     some (A8.a0 (b1619))
                   else
                    none -- false
                 else
                  none -- none
               else
                none -- false
             else
              none -- false
            )
            (
             ((l387[(0 : Nat)]?).bind W25n.dec).bind fun e1620 =>
             if (!e1620.c0) = true then
              (F13 (e1620.c0)).bind fun r => match r with
              | .a0 z1621 =>
               if (z1621 == z192) = true then
                (F25 (b163) (0) (z192)).bind fun r => match r with
                | .a0 b1622 =>
                 if 0 + k386 ≤ List.length l387 then
                  (F24 (List.take k386 l387) ([[vb b1622, V.nilS]])).bind fun r => match r with
                  | .a0 b1623 =>
                   if (b1623) = true then
                    (F14).bind fun r => match r with
                    | .a0 b1624 =>
                     some (A8.a0 (b1624))
                   else
                    none -- false
                 else
                  none -- none
               else
                none -- false
             else
              none -- false
            )
           else
            none -- none
          else
           none -- false
      else
       none -- none
    | .a1 =>
     (F12v1 (b163)).bind fun r => match r with
     | .a0 k1625 l1626 =>
      if 0 + k1625 ≤ List.length l1626 then
       (F24 (List.take k1625 l1626) ([[vb b163, V.nilS]])).bind fun r => match r with
       | .a0 b1627 =>
        if (!b1627) = true then
         none -- false
        else
         if (z192 == 0) = true then
          (F14).bind fun r => match r with
          | .a0 b1628 =>
           some (A8.a0 (b1628))
         else
          none -- false
      else
       none -- none
  | .a1 b1629 k1630 l1631 z1632 l1633 =>
   if 0 + k1630 ≤ List.length l1633 then
    (F13v1 (b1629) (List.take k1630 l1633)).bind fun r => match r with
    | .a0 z1634 =>
     (F12v2 (b1629) (List.take k1630 l1633) ([[i64 67108864], [i64 65536]])).bind fun r => match r with
     | .a0 k1635 l1636 =>
      (F12v3 (b1629) (List.take k1630 l1633)).bind fun r => match r with
      | .a0 k1644 l1645 =>
       if 0 + k1644 ≤ List.length l1645 then
        (F24 (List.take k1644 l1645) ([[vb b1629, V.list 2 (List.take k1630 l1633)]])).bind fun r => match r with
        | .a0 b1646 =>
         if (!b1646) = true then
          none -- false
         else
          if (z1634 == 0) = true then
           if ((↑k1635 : Int) == 0) = true then
            (F14).bind fun r => match r with
            | .a0 b1647 =>
             some (A8.a0 (b1647))
           else
            none -- false
          else
           if ((↑k1635 : Int) == 1) = true then
            if (0 : Int) ≤ (0 : Int) ∧ (0 : Int) < (↑k1635 : Int) then
             orE ((l1636[(0 : Nat)]?).bind W25.dec) (fun e1648 =>
              if (!e1648.c0) = true then
               (F13v1 (e1648.c0) (e1648.2)).bind fun r => match r with
               | .a0 z1649 =>
                if (z1649 == z1634) = true then
                 (F25v1 (b1629) (List.take k1630 l1633) (0) (z1634)).bind fun r => match r with
                 | .a0 b1877 =>
                  if 0 + k1635 ≤ List.length l1636 then
                   (F24 (List.take k1635 l1636) ([[vb b1877, V.nilS]])).bind fun r => match r with
                   | .a0 b1878 =>
                    if (b1878) = true then
                     (F14).bind fun r => match r with
                     | .a0 b1879 =>
                      some (A8.a0 (b1879))
                    else
                     none -- false
                  else
                   none -- none
                 | .a1 b1880 k1881 l1882 =>
                  if 0 + k1881 ≤ List.length l1882 then
                   if 0 + k1635 ≤ List.length l1636 then
                    (F24 (List.take k1635 l1636) ([[vb b1880, V.list 2 (List.take k1881 l1882)]])).bind fun r => match r with
                    | .a0 b1883 =>
                     if (b1883) = true then
                      (F14).bind fun r => match r with
                      | .a0 b1884 =>
                       some (A8.a0 (b1884))
                     else
                      none -- false
                   else
                    none -- none
                  else
                   none -- none
                else
                 none -- false
              else
               none -- false
             )
             (
              ((l1636[(0 : Nat)]?).bind W25n.dec).bind fun e1885 =>
              if (!e1885.c0) = true then
               (F13 (e1885.c0)).bind fun r => match r with
               | .a0 z1886 =>
                if (z1886 == z1634) = true then
                 (F25v1 (b1629) (List.take k1630 l1633) (0) (z1634)).bind fun r => match r with
                 | .a0 b1887 =>
                  if 0 + k1635 ≤ List.length l1636 then
                   (F24 (List.take k1635 l1636) ([[vb b1887, V.nilS]])).bind fun r => match r with
                   | .a0 b1888 =>
                    if (b1888) = true then
                     (F14).bind fun r => match r with
                     | .a0 b1889 =>
                      some (A8.a0 (b1889))
                    else
                     none -- false
                  else
                   none -- none
                 | .a1 b1890 k1891 l1892 =>
                  if 0 + k1891 ≤ List.length l1892 then
                   if 0 + k1635 ≤ List.length l1636 then
                    (F24 (List.take k1635 l1636) ([[vb b1890, V.list 2 (List.take k1891 l1892)]])).bind fun r => match r with
                    | .a0 b1893 =>
                     if (b1893) = true then
                      (F14).bind fun r => match r with
                      | .a0 b1894 =>
                       some (A8.a0 (b1894))
                     else
                      none -- false
                   else
                    none -- none
                  else
                   none -- none
                else
                 none -- false
              else
               none -- false
             )
            else
             none -- none
           else
            none -- false
       else
        none -- none
     | .a1 =>
      (F12v3 (b1629) (List.take k1630 l1633)).bind fun r => match r with
      | .a0 k1895 l1896 =>
       if 0 + k1895 ≤ List.length l1896 then
        (F24 (List.take k1895 l1896) ([[vb b1629, V.list 2 (List.take k1630 l1633)]])).bind fun r => match r with
        | .a0 b1897 =>
         (F12v3 (b1629) (List.take k1630 l1633)).bind fun r => match r with
         | .a0 k1898 l1899 =>
          if 0 + k1898 ≤ List.length l1899 then
           (F24 (List.take k1898 l1899) ([[vb b1629, V.list 2 (List.take k1630 l1633)]])).bind fun r => match r with
           | .a0 b1900 =>
            if (!b1900) = true then
             none -- false
            else
             if (z1634 == 0) = true then
              (F14).bind fun r => match r with
              | .a0 b1901 =>
               some (A8.a0 (b1901))
             else
              none -- false
          else
           none -- none
       else
        none -- none
   else
    none -- none
theorem F8_ok (m : Nat) (l0 : List (List V)) (r : A8) (h : F8 l0 = some r) : call Try.prog X O0 100000 (m + 9) 8 ([V.list 1 l0]) ([]) = some r.out := by
  unfold F8 at h
  obtain ⟨r0, h0, h⟩ := Option.bind_eq_some_iff.mp h
  have h0 := F11_ok (m + 4) (l0) (0) r0 h0
  cases r0 with
  | a0 b163 l164 z165 =>
    obtain ⟨r1, h1, h⟩ := Option.bind_eq_some_iff.mp h
    have h1 := F13_ok (m + 6) (b163) r1 h1
    cases r1 with
    | a0 z192 =>
      obtain ⟨r2, h2, h⟩ := Option.bind_eq_some_iff.mp h
      have h2 := F12_ok (m + 3) (b163) ([[i64 67108864], [i64 65536]]) r2 h2
      cases r2 with
      | a0 k386 l387 =>
        obtain ⟨r3, h3, h⟩ := Option.bind_eq_some_iff.mp h
        have h3 := F12v1_ok (m + 6) (b163) r3 h3
        cases r3 with
        | a0 k392 l393 =>
          rcases ite_eq h with ⟨h4, h⟩ | ⟨h4, h⟩
          · skip
            obtain ⟨r5, h5, h⟩ := Option.bind_eq_some_iff.mp h
            have h5 := F24_ok (m + 6) (List.take k392 l393) ([[vb b163, V.nilS]]) r5 h5
            cases r5 with
            | a0 b847 =>
              rcases ite_eq h with ⟨h6, h⟩ | ⟨h6, h⟩
              · skip
                cases h
              · skip
                rcases ite_eq h with ⟨h7, h⟩ | ⟨h7, h⟩
                · skip
                  rcases ite_eq h with ⟨h8, h⟩ | ⟨h8, h⟩
                  · skip
                    obtain ⟨r9, h9, h⟩ := Option.bind_eq_some_iff.mp h
                    have h9 := F14_ok (m + 0) r9 h9
                    cases r9 with
                    | a0 b1454 =>
                      cases h
                      exact call_pathL (gs := [.an (V.agg [vb b163, V.nilS]) [Ob.cells true false 2 [[V.list 1 l164, i64 z165]]], .a, .a, .an (i64 z192) [], .a, .a, .an (V.hs 0 0 k386) [Ob.cells true true 2 l387], .a, .an (V.hs 0 0 k392) [Ob.cells true true 2 l393], .a, .t, .a, .an (vb b847) [], .ft [⟨0, [2], []⟩, ⟨1, [5], [5]⟩, ⟨2, [2], []⟩, ⟨3, [6], [6]⟩, ⟨4, [5, 6], []⟩, ⟨5, [], []⟩], .f, .t, .t, .an (vb b1454) [], .t]) (notIn []) rfl rfl (by kernel_rfl) (And.intro h0 (And.intro h1 (And.intro h2 (And.intro h3 (And.intro (decide_eq_true h4) (And.intro h5 (And.intro (Eq.refl ([⟨0, [2], []⟩, ⟨1, [5], [5]⟩, ⟨2, [2], []⟩, ⟨3, [6], [6]⟩, ⟨4, [5, 6], []⟩, ⟨5, [], []⟩] : List Foot)) (And.intro (Bool.eq_false_iff.mpr h6) (And.intro h7 (And.intro h8 (And.intro h9 (And.intro h8 True.intro))))))))))))
                  · skip
                    cases h
                · skip
                  rcases ite_eq h with ⟨h8, h⟩ | ⟨h8, h⟩
                  · skip
                    rcases ite_eq h with ⟨h9, h⟩ | ⟨h9, h⟩
                    · skip
                      rcases orE_eq h with ⟨e1456, h10, h⟩ | ⟨h10, h⟩
                      · skip
                        rcases ite_eq h with ⟨h11, h⟩ | ⟨h11, h⟩
                        · skip
                          obtain ⟨r12, h12, h⟩ := Option.bind_eq_some_iff.mp h
                          have h12 := F13v1_ok (m + 3) (e1456.c0) (e1456.2) r12 h12
                          cases r12 with
                          | a0 z1581 =>
                            rcases ite_eq h with ⟨h13, h⟩ | ⟨h13, h⟩
                            · skip
                              obtain ⟨r14, h14, h⟩ := Option.bind_eq_some_iff.mp h
                              have h14 := F25_ok (m + 5) (b163) (0) (z192) r14 h14
                              cases r14 with
                              | a0 b1617 =>
                                rcases ite_eq h with ⟨h15, h⟩ | ⟨h15, h⟩
                                · skip
                                  obtain ⟨r16, h16, h⟩ := Option.bind_eq_some_iff.mp h
                                  have h16 := F24_ok (m + 6) (List.take k386 l387) ([[vb b1617, V.nilS]]) r16 h16
                                  cases r16 with
                                  | a0 b1618 =>
                                    rcases ite_eq h with ⟨h17, h⟩ | ⟨h17, h⟩
                                    · skip
                                      obtain ⟨r18, h18, h⟩ := Option.bind_eq_some_iff.mp h
                                      have h18 := F14_ok (m + 0) r18 h18
                                      cases r18 with
                                      | a0 b1619 =>
                                        cases h
                                        exact call_pathL (gs := [.an (V.agg [vb b163, V.nilS]) [Ob.cells true false 2 [[V.list 1 l164, i64 z165]]], .a, .a, .an (i64 z192) [], .a, .a, .an (V.hs 0 0 k386) [Ob.cells true true 2 l387], .a, .an (V.hs 0 0 k392) [Ob.cells true true 2 l393], .a, .t, .a, .an (vb b847) [], .ft [⟨0, [2], []⟩, ⟨1, [5], [5]⟩, ⟨2, [2], []⟩, ⟨3, [6], [6]⟩, ⟨4, [5, 6], []⟩, ⟨5, [], []⟩], .f, .f, .t, .t, .t, .t, .t, .el (W25.cells e1456), .t, .t, .t, .t, .t, .t, .el (W25.cells e1456), .t, .an (i64 z1581) [], .t, .t, .t, .t, .t, .a, .t, .t, .an (V.agg [vb b1617, V.nilS]) [], .t, .t, .t, .a, .an (vb b1618) [], .t, .t, .an (vb b1619) [], .t]) (notIn []) rfl rfl (by kernel_rfl) (And.intro h0 (And.intro h1 (And.intro h2 (And.intro h3 (And.intro (decide_eq_true h4) (And.intro h5 (And.intro (Eq.refl ([⟨0, [2], []⟩, ⟨1, [5], [5]⟩, ⟨2, [2], []⟩, ⟨3, [6], [6]⟩, ⟨4, [5, 6], []⟩, ⟨5, [], []⟩] : List Foot)) (And.intro (Bool.eq_false_iff.mpr h6) (And.intro (Bool.eq_false_iff.mpr h7) (And.intro h8 (And.intro h8 (And.intro (decide_eq_true h9) (And.intro h8 (And.intro h8 (And.intro (W25.dec_ok h10) (And.intro h8 (And.intro h8 (And.intro h11 (And.intro h11 (And.intro (decide_eq_true h9) (And.intro h11 (And.intro (W25.dec_ok h10) (And.intro h11 (And.intro h12 (And.intro h11 (And.intro h11 (And.intro h11 (And.intro h13 (And.intro h13 (And.intro h13 (And.intro h13 (And.intro h14 (And.intro h13 (And.intro h13 (And.intro (decide_eq_true h15) (And.intro h16 (And.intro h13 (And.intro h17 (And.intro h18 (And.intro h17 True.intro))))))))))))))))))))))))))))))))))))))))
                                    · skip
                                      cases h
                                · skip
                                  cases h
                            · skip
                              cases h
                        · skip
                          cases h
                      · skip
                        obtain ⟨e1620, h11, h⟩ := Option.bind_eq_some_iff.mp h
                        rcases ite_eq h with ⟨h12, h⟩ | ⟨h12, h⟩
                        · skip
                          obtain ⟨r13, h13, h⟩ := Option.bind_eq_some_iff.mp h
                          have h13 := F13_ok (m + 6) (e1620.c0) r13 h13
                          cases r13 with
                          | a0 z1621 =>
                            rcases ite_eq h with ⟨h14, h⟩ | ⟨h14, h⟩
                            · skip
                              obtain ⟨r15, h15, h⟩ := Option.bind_eq_some_iff.mp h
                              have h15 := F25_ok (m + 5) (b163) (0) (z192) r15 h15
                              cases r15 with
                              | a0 b1622 =>
                                rcases ite_eq h with ⟨h16, h⟩ | ⟨h16, h⟩
                                · skip
                                  obtain ⟨r17, h17, h⟩ := Option.bind_eq_some_iff.mp h
                                  have h17 := F24_ok (m + 6) (List.take k386 l387) ([[vb b1622, V.nilS]]) r17 h17
                                  cases r17 with
                                  | a0 b1623 =>
                                    rcases ite_eq h with ⟨h18, h⟩ | ⟨h18, h⟩
                                    · skip
                                      obtain ⟨r19, h19, h⟩ := Option.bind_eq_some_iff.mp h
                                      have h19 := F14_ok (m + 0) r19 h19
                                      cases r19 with
                                      | a0 b1624 =>
                                        cases h
                                        exact call_pathL (gs := [.an (V.agg [vb b163, V.nilS]) [Ob.cells true false 2 [[V.list 1 l164, i64 z165]]], .a, .a, .an (i64 z192) [], .a, .a, .an (V.hs 0 0 k386) [Ob.cells true true 2 l387], .a, .an (V.hs 0 0 k392) [Ob.cells true true 2 l393], .a, .t, .a, .an (vb b847) [], .ft [⟨0, [2], []⟩, ⟨1, [5], [5]⟩, ⟨2, [2], []⟩, ⟨3, [6], [6]⟩, ⟨4, [5, 6], []⟩, ⟨5, [], []⟩], .f, .f, .t, .t, .t, .t, .t, .el (W25n.cells e1620), .t, .t, .t, .t, .t, .t, .el (W25n.cells e1620), .t, .an (i64 z1621) [], .t, .t, .t, .t, .t, .a, .t, .t, .an (V.agg [vb b1622, V.nilS]) [], .t, .t, .t, .a, .an (vb b1623) [], .t, .t, .an (vb b1624) [], .t]) (notIn []) rfl rfl (by kernel_rfl) (And.intro h0 (And.intro h1 (And.intro h2 (And.intro h3 (And.intro (decide_eq_true h4) (And.intro h5 (And.intro (Eq.refl ([⟨0, [2], []⟩, ⟨1, [5], [5]⟩, ⟨2, [2], []⟩, ⟨3, [6], [6]⟩, ⟨4, [5, 6], []⟩, ⟨5, [], []⟩] : List Foot)) (And.intro (Bool.eq_false_iff.mpr h6) (And.intro (Bool.eq_false_iff.mpr h7) (And.intro h8 (And.intro h8 (And.intro (decide_eq_true h9) (And.intro h8 (And.intro h8 (And.intro (W25n.dec_ok h11) (And.intro h8 (And.intro h8 (And.intro h12 (And.intro h12 (And.intro (decide_eq_true h9) (And.intro h12 (And.intro (W25n.dec_ok h11) (And.intro h12 (And.intro h13 (And.intro h12 (And.intro h12 (And.intro h12 (And.intro h14 (And.intro h14 (And.intro h14 (And.intro h14 (And.intro h15 (And.intro h14 (And.intro h14 (And.intro (decide_eq_true h16) (And.intro h17 (And.intro h14 (And.intro h18 (And.intro h19 (And.intro h18 True.intro))))))))))))))))))))))))))))))))))))))))
                                    · skip
                                      cases h
                                · skip
                                  cases h
                            · skip
                              cases h
                        · skip
                          cases h
                    · skip
                      cases h
                  · skip
                    cases h
          · skip
            cases h
      | a1 =>
        obtain ⟨r3, h3, h⟩ := Option.bind_eq_some_iff.mp h
        have h3 := F12v1_ok (m + 6) (b163) r3 h3
        cases r3 with
        | a0 k1625 l1626 =>
          rcases ite_eq h with ⟨h4, h⟩ | ⟨h4, h⟩
          · skip
            obtain ⟨r5, h5, h⟩ := Option.bind_eq_some_iff.mp h
            have h5 := F24_ok (m + 6) (List.take k1625 l1626) ([[vb b163, V.nilS]]) r5 h5
            cases r5 with
            | a0 b1627 =>
              rcases ite_eq h with ⟨h6, h⟩ | ⟨h6, h⟩
              · skip
                cases h
              · skip
                rcases ite_eq h with ⟨h7, h⟩ | ⟨h7, h⟩
                · skip
                  obtain ⟨r8, h8, h⟩ := Option.bind_eq_some_iff.mp h
                  have h8 := F14_ok (m + 0) r8 h8
                  cases r8 with
                  | a0 b1628 =>
                    cases h
                    exact call_pathL (gs := [.an (V.agg [vb b163, V.nilS]) [Ob.cells true false 2 [[V.list 1 l164, i64 z165]]], .a, .a, .an (i64 z192) [], .a, .a, .an (V.nilS) [], .a, .an (V.hs 0 0 k1625) [Ob.cells true true 2 l1626], .a, .t, .a, .an (vb b1627) [], .ft [⟨0, [2], []⟩, ⟨1, [5], [5]⟩, ⟨2, [2], []⟩, ⟨3, [6], [6]⟩, ⟨4, [5, 6], []⟩, ⟨5, [], []⟩], .f, .t, .a, .an (vb b1628) [], .a]) (notIn []) rfl rfl (by kernel_rfl) (And.intro h0 (And.intro h1 (And.intro h2 (And.intro h3 (And.intro (decide_eq_true h4) (And.intro h5 (And.intro (Eq.refl ([⟨0, [2], []⟩, ⟨1, [5], [5]⟩, ⟨2, [2], []⟩, ⟨3, [6], [6]⟩, ⟨4, [5, 6], []⟩, ⟨5, [], []⟩] : List Foot)) (And.intro (Bool.eq_false_iff.mpr h6) (And.intro h7 (And.intro h8 True.intro))))))))))
                · skip
                  cases h
          · skip
            cases h
  | a1 b1629 k1630 l1631 z1632 l1633 =>
    rcases ite_eq h with ⟨h1, h⟩ | ⟨h1, h⟩
    · skip
      obtain ⟨r2, h2, h⟩ := Option.bind_eq_some_iff.mp h
      have h2 := F13v1_ok (m + 3) (b1629) (List.take k1630 l1633) r2 h2
      cases r2 with
      | a0 z1634 =>
        obtain ⟨r3, h3, h⟩ := Option.bind_eq_some_iff.mp h
        have h3 := F12v2_ok (m + 1) (b1629) (List.take k1630 l1633) ([[i64 67108864], [i64 65536]]) r3 h3
        cases r3 with
        | a0 k1635 l1636 =>
          obtain ⟨r4, h4, h⟩ := Option.bind_eq_some_iff.mp h
          have h4 := F12v3_ok (m + 6) (b1629) (List.take k1630 l1633) r4 h4
          cases r4 with
          | a0 k1644 l1645 =>
            rcases ite_eq h with ⟨h5, h⟩ | ⟨h5, h⟩
            · skip
              obtain ⟨r6, h6, h⟩ := Option.bind_eq_some_iff.mp h
              have h6 := F24_ok (m + 6) (List.take k1644 l1645) ([[vb b1629, V.list 2 (List.take k1630 l1633)]]) r6 h6
              cases r6 with
              | a0 b1646 =>
                rcases ite_eq h with ⟨h7, h⟩ | ⟨h7, h⟩
                · skip
                  cases h
                · skip
                  rcases ite_eq h with ⟨h8, h⟩ | ⟨h8, h⟩
                  · skip
                    rcases ite_eq h with ⟨h9, h⟩ | ⟨h9, h⟩
                    · skip
                      obtain ⟨r10, h10, h⟩ := Option.bind_eq_some_iff.mp h
                      have h10 := F14_ok (m + 0) r10 h10
                      cases r10 with
                      | a0 b1647 =>
                        cases h
                        exact call_pathL (gs := [.an (V.agg [vb b1629, V.hs 1 0 k1630]) [Ob.cells true false 2 [[V.list 1 l1631, i64 z1632]], Ob.cells true true 2 l1633], .a, .a, .t, .an (i64 z1634) [], .a, .t, .a, .an (V.hs 0 0 k1635) [Ob.cells true true 2 l1636], .a, .t, .an (V.hs 0 0 k1644) [Ob.cells true true 2 l1645], .a, .t, .t, .a, .an (vb b1646) [], .ft [⟨0, [2], []⟩, ⟨1, [1, 5], [5]⟩, ⟨2, [2], []⟩, ⟨3, [1, 6], [6]⟩, ⟨4, [5, 6], []⟩, ⟨5, [], []⟩], .f, .t, .t, .an (vb b1647) [], .t]) (notIn []) rfl rfl (by kernel_rfl) (And.intro h0 (And.intro (decide_eq_true h1) (And.intro h2 (And.intro (decide_eq_true h1) (And.intro h3 (And.intro (decide_eq_true h1) (And.intro h4 (And.intro (decide_eq_true h1) (And.intro (decide_eq_true h5) (And.intro h6 (And.intro (Eq.refl ([⟨0, [2], []⟩, ⟨1, [1, 5], [5]⟩, ⟨2, [2], []⟩, ⟨3, [1, 6], [6]⟩, ⟨4, [5, 6], []⟩, ⟨5, [], []⟩] : List Foot)) (And.intro (Bool.eq_false_iff.mpr h7) (And.intro h8 (And.intro h9 (And.intro h10 (And.intro h9 True.intro))))))))))))))))
                    · skip
                      cases h
                  · skip
                    rcases ite_eq h with ⟨h9, h⟩ | ⟨h9, h⟩
                    · skip
                      rcases ite_eq h with ⟨h10, h⟩ | ⟨h10, h⟩
                      · skip
                        rcases orE_eq h with ⟨e1648, h11, h⟩ | ⟨h11, h⟩
                        · skip
                          rcases ite_eq h with ⟨h12, h⟩ | ⟨h12, h⟩
                          · skip
                            obtain ⟨r13, h13, h⟩ := Option.bind_eq_some_iff.mp h
                            have h13 := F13v1_ok (m + 3) (e1648.c0) (e1648.2) r13 h13
                            cases r13 with
                            | a0 z1649 =>
                              rcases ite_eq h with ⟨h14, h⟩ | ⟨h14, h⟩
                              · skip
                                obtain ⟨r15, h15, h⟩ := Option.bind_eq_some_iff.mp h
                                have h15 := F25v1_ok (m + 0) (b1629) (List.take k1630 l1633) (0) (z1634) r15 h15
                                cases r15 with
                                | a0 b1877 =>
                                  rcases ite_eq h with ⟨h16, h⟩ | ⟨h16, h⟩
                                  · skip
                                    obtain ⟨r17, h17, h⟩ := Option.bind_eq_some_iff.mp h
                                    have h17 := F24_ok (m + 6) (List.take k1635 l1636) ([[vb b1877, V.nilS]]) r17 h17
                                    cases r17 with
                                    | a0 b1878 =>
                                      rcases ite_eq h with ⟨h18, h⟩ | ⟨h18, h⟩
                                      · skip
                                        obtain ⟨r19, h19, h⟩ := Option.bind_eq_some_iff.mp h
                                        have h19 := F14_ok (m + 0) r19 h19
                                        cases r19 with
                                        | a0 b1879 =>
                                          cases h
                                          exact call_pathL (gs := [.an (V.agg [vb b1629, V.hs 1 0 k1630]) [Ob.cells true false 2 [[V.list 1 l1631, i64 z1632]], Ob.cells true true 2 l1633], .a, .a, .t, .an (i64 z1634) [], .a, .t, .a, .an (V.hs 0 0 k1635) [Ob.cells true true 2 l1636], .a, .t, .an (V.hs 0 0 k1644) [Ob.cells true true 2 l1645], .a, .t, .t, .a, .an (vb b1646) [], .ft [⟨0, [2], []⟩, ⟨1, [1, 5], [5]⟩, ⟨2, [2], []⟩, ⟨3, [1, 6], [6]⟩, ⟨4, [5, 6], []⟩, ⟨5, [], []⟩], .f, .f, .t, .t, .t, .t, .t, .el (W25.cells e1648), .t, .t, .t, .t, .t, .t, .el (W25.cells e1648), .t, .an (i64 z1649) [], .t, .t, .t, .t, .t, .a, .t, .t, .t, .an (V.agg [vb b1877, V.nilS]) [], .t, .t, .t, .a, .an (vb b1878) [], .t, .t, .an (vb b1879) [], .t]) (notIn []) rfl rfl (by kernel_rfl) (And.intro h0 (And.intro (decide_eq_true h1) (And.intro h2 (And.intro (decide_eq_true h1) (And.intro h3 (And.intro (decide_eq_true h1) (And.intro h4 (And.intro (decide_eq_true h1) (And.intro (decide_eq_true h5) (And.intro h6 (And.intro (Eq.refl ([⟨0, [2], []⟩, ⟨1, [1, 5], [5]⟩, ⟨2, [2], []⟩, ⟨3, [1, 6], [6]⟩, ⟨4, [5, 6], []⟩, ⟨5, [], []⟩] : List Foot)) (And.intro (Bool.eq_false_iff.mpr h7) (And.intro (Bool.eq_false_iff.mpr h8) (And.intro h9 (And.intro h9 (And.intro (decide_eq_true h10) (And.intro h9 (And.intro h9 (And.intro (W25.dec_ok h11) (And.intro h9 (And.intro h9 (And.intro h12 (And.intro h12 (And.intro (decide_eq_true h10) (And.intro h12 (And.intro (W25.dec_ok h11) (And.intro h12 (And.intro h13 (And.intro h12 (And.intro h12 (And.intro h12 (And.intro h14 (And.intro h14 (And.intro h14 (And.intro h14 (And.intro (decide_eq_true h1) (And.intro h15 (And.intro h14 (And.intro h14 (And.intro (decide_eq_true h16) (And.intro h17 (And.intro h14 (And.intro h18 (And.intro h19 (And.intro h18 True.intro)))))))))))))))))))))))))))))))))))))))))))))
                                      · skip
                                        cases h
                                  · skip
                                    cases h
                                | a1 b1880 k1881 l1882 =>
                                  rcases ite_eq h with ⟨h16, h⟩ | ⟨h16, h⟩
                                  · skip
                                    rcases ite_eq h with ⟨h17, h⟩ | ⟨h17, h⟩
                                    · skip
                                      obtain ⟨r18, h18, h⟩ := Option.bind_eq_some_iff.mp h
                                      have h18 := F24_ok (m + 6) (List.take k1635 l1636) ([[vb b1880, V.list 2 (List.take k1881 l1882)]]) r18 h18
                                      cases r18 with
                                      | a0 b1883 =>
                                        rcases ite_eq h with ⟨h19, h⟩ | ⟨h19, h⟩
                                        · skip
                                          obtain ⟨r20, h20, h⟩ := Option.bind_eq_some_iff.mp h
                                          have h20 := F14_ok (m + 0) r20 h20
                                          cases r20 with
                                          | a0 b1884 =>
                                            cases h
                                            exact call_pathL (gs := [.an (V.agg [vb b1629, V.hs 1 0 k1630]) [Ob.cells true false 2 [[V.list 1 l1631, i64 z1632]], Ob.cells true true 2 l1633], .a, .a, .t, .an (i64 z1634) [], .a, .t, .a, .an (V.hs 0 0 k1635) [Ob.cells true true 2 l1636], .a, .t, .an (V.hs 0 0 k1644) [Ob.cells true true 2 l1645], .a, .t, .t, .a, .an (vb b1646) [], .ft [⟨0, [2], []⟩, ⟨1, [1, 5], [5]⟩, ⟨2, [2], []⟩, ⟨3, [1, 6], [6]⟩, ⟨4, [5, 6], []⟩, ⟨5, [], []⟩], .f, .f, .t, .t, .t, .t, .t, .el (W25.cells e1648), .t, .t, .t, .t, .t, .t, .el (W25.cells e1648), .t, .an (i64 z1649) [], .t, .t, .t, .t, .t, .a, .t, .t, .t, .an (V.agg [vb b1880, V.hs 0 0 k1881]) [Ob.cells true true 2 l1882], .t, .t, .t, .t, .a, .an (vb b1883) [], .t, .t, .an (vb b1884) [], .t]) (notIn []) rfl rfl (by kernel_rfl) (And.intro h0 (And.intro (decide_eq_true h1) (And.intro h2 (And.intro (decide_eq_true h1) (And.intro h3 (And.intro (decide_eq_true h1) (And.intro h4 (And.intro (decide_eq_true h1) (And.intro (decide_eq_true h5) (And.intro h6 (And.intro (Eq.refl ([⟨0, [2], []⟩, ⟨1, [1, 5], [5]⟩, ⟨2, [2], []⟩, ⟨3, [1, 6], [6]⟩, ⟨4, [5, 6], []⟩, ⟨5, [], []⟩] : List Foot)) (And.intro (Bool.eq_false_iff.mpr h7) (And.intro (Bool.eq_false_iff.mpr h8) (And.intro h9 (And.intro h9 (And.intro (decide_eq_true h10) (And.intro h9 (And.intro h9 (And.intro (W25.dec_ok h11) (And.intro h9 (And.intro h9 (And.intro h12 (And.intro h12 (And.intro (decide_eq_true h10) (And.intro h12 (And.intro (W25.dec_ok h11) (And.intro h12 (And.intro h13 (And.intro h12 (And.intro h12 (And.intro h12 (And.intro h14 (And.intro h14 (And.intro h14 (And.intro h14 (And.intro (decide_eq_true h1) (And.intro h15 (And.intro h14 (And.intro (decide_eq_true h16) (And.intro h14 (And.intro (decide_eq_true h17) (And.intro h18 (And.intro h14 (And.intro h19 (And.intro h20 (And.intro h19 True.intro))))))))))))))))))))))))))))))))))))))))))))))
                                        · skip
                                          cases h
                                    · skip
                                      cases h
                                  · skip
                                    cases h
                              · skip
                                cases h
                          · skip
                            cases h
                        · skip
                          obtain ⟨e1885, h12, h⟩ := Option.bind_eq_some_iff.mp h
                          rcases ite_eq h with ⟨h13, h⟩ | ⟨h13, h⟩
                          · skip
                            obtain ⟨r14, h14, h⟩ := Option.bind_eq_some_iff.mp h
                            have h14 := F13_ok (m + 6) (e1885.c0) r14 h14
                            cases r14 with
                            | a0 z1886 =>
                              rcases ite_eq h with ⟨h15, h⟩ | ⟨h15, h⟩
                              · skip
                                obtain ⟨r16, h16, h⟩ := Option.bind_eq_some_iff.mp h
                                have h16 := F25v1_ok (m + 0) (b1629) (List.take k1630 l1633) (0) (z1634) r16 h16
                                cases r16 with
                                | a0 b1887 =>
                                  rcases ite_eq h with ⟨h17, h⟩ | ⟨h17, h⟩
                                  · skip
                                    obtain ⟨r18, h18, h⟩ := Option.bind_eq_some_iff.mp h
                                    have h18 := F24_ok (m + 6) (List.take k1635 l1636) ([[vb b1887, V.nilS]]) r18 h18
                                    cases r18 with
                                    | a0 b1888 =>
                                      rcases ite_eq h with ⟨h19, h⟩ | ⟨h19, h⟩
                                      · skip
                                        obtain ⟨r20, h20, h⟩ := Option.bind_eq_some_iff.mp h
                                        have h20 := F14_ok (m + 0) r20 h20
                                        cases r20 with
                                        | a0 b1889 =>
                                          cases h
                                          exact call_pathL (gs := [.an (V.agg [vb b1629, V.hs 1 0 k1630]) [Ob.cells true false 2 [[V.list 1 l1631, i64 z1632]], Ob.cells true true 2 l1633], .a, .a, .t, .an (i64 z1634) [], .a, .t, .a, .an (V.hs 0 0 k1635) [Ob.cells true true 2 l1636], .a, .t, .an (V.hs 0 0 k1644) [Ob.cells true true 2 l1645], .a, .t, .t, .a, .an (vb b1646) [], .ft [⟨0, [2], []⟩, ⟨1, [1, 5], [5]⟩, ⟨2, [2], []⟩, ⟨3, [1, 6], [6]⟩, ⟨4, [5, 6], []⟩, ⟨5, [], []⟩], .f, .f, .t, .t, .t, .t, .t, .el (W25n.cells e1885), .t, .t, .t, .t, .t, .t, .el (W25n.cells e1885), .t, .an (i64 z1886) [], .t, .t, .t, .t, .t, .a, .t, .t, .t, .an (V.agg [vb b1887, V.nilS]) [], .t, .t, .t, .a, .an (vb b1888) [], .t, .t, .an (vb b1889) [], .t]) (notIn []) rfl rfl (by kernel_rfl) (And.intro h0 (And.intro (decide_eq_true h1) (And.intro h2 (And.intro (decide_eq_true h1) (And.intro h3 (And.intro (decide_eq_true h1) (And.intro h4 (And.intro (decide_eq_true h1) (And.intro (decide_eq_true h5) (And.intro h6 (And.intro (Eq.refl ([⟨0, [2], []⟩, ⟨1, [1, 5], [5]⟩, ⟨2, [2], []⟩, ⟨3, [1, 6], [6]⟩, ⟨4, [5, 6], []⟩, ⟨5, [], []⟩] : List Foot)) (And.intro (Bool.eq_false_iff.mpr h7) (And.intro (Bool.eq_false_iff.mpr h8) (And.intro h9 (And.intro h9 (And.intro (decide_eq_true h10) (And.intro h9 (And.intro h9 (And.intro (W25n.dec_ok h12) (And.intro h9 (And.intro h9 (And.intro h13 (And.intro h13 (And.intro (decide_eq_true h10) (And.intro h13 (And.intro (W25n.dec_ok h12) (And.intro h13 (And.intro h14 (And.intro h13 (And.intro h13 (And.intro h13 (And.intro h15 (And.intro h15 (And.intro h15 (And.intro h15 (And.intro (decide_eq_true h1) (And.intro h16 (And.intro h15 (And.intro h15 (And.intro (decide_eq_true h17) (And.intro h18 (And.intro h15 (And.intro h19 (And.intro h20 (And.intro h19 True.intro)))))))))))))))))))))))))))))))))))))))))))))
                                      · skip
                                        cases h
                                  · skip
                                    cases h
                                | a1 b1890 k1891 l1892 =>
                                  rcases ite_eq h with ⟨h17, h⟩ | ⟨h17, h⟩
                                  · skip
                                    rcases ite_eq h with ⟨h18, h⟩ | ⟨h18, h⟩
                                    · skip
                                      obtain ⟨r19, h19, h⟩ := Option.bind_eq_some_iff.mp h
                                      have h19 := F24_ok (m + 6) (List.take k1635 l1636) ([[vb b1890, V.list 2 (List.take k1891 l1892)]]) r19 h19
                                      cases r19 with
                                      | a0 b1893 =>
                                        rcases ite_eq h with ⟨h20, h⟩ | ⟨h20, h⟩
                                        · skip
                                          obtain ⟨r21, h21, h⟩ := Option.bind_eq_some_iff.mp h
                                          have h21 := F14_ok (m + 0) r21 h21
                                          cases r21 with
                                          | a0 b1894 =>
                                            cases h
                                            exact call_pathL (gs := [.an (V.agg [vb b1629, V.hs 1 0 k1630]) [Ob.cells true false 2 [[V.list 1 l1631, i64 z1632]], Ob.cells true true 2 l1633], .a, .a, .t, .an (i64 z1634) [], .a, .t, .a, .an (V.hs 0 0 k1635) [Ob.cells true true 2 l1636], .a, .t, .an (V.hs 0 0 k1644) [Ob.cells true true 2 l1645], .a, .t, .t, .a, .an (vb b1646) [], .ft [⟨0, [2], []⟩, ⟨1, [1, 5], [5]⟩, ⟨2, [2], []⟩, ⟨3, [1, 6], [6]⟩, ⟨4, [5, 6], []⟩, ⟨5, [], []⟩], .f, .f, .t, .t, .t, .t, .t, .el (W25n.cells e1885), .t, .t, .t, .t, .t, .t, .el (W25n.cells e1885), .t, .an (i64 z1886) [], .t, .t, .t, .t, .t, .a, .t, .t, .t, .an (V.agg [vb b1890, V.hs 0 0 k1891]) [Ob.cells true true 2 l1892], .t, .t, .t, .t, .a, .an (vb b1893) [], .t, .t, .an (vb b1894) [], .t]) (notIn []) rfl rfl (by kernel_rfl) (And.intro h0 (And.intro (decide_eq_true h1) (And.intro h2 (And.intro (decide_eq_true h1) (And.intro h3 (And.intro (decide_eq_true h1) (And.intro h4 (And.intro (decide_eq_true h1) (And.intro (decide_eq_true h5) (And.intro h6 (And.intro (Eq.refl ([⟨0, [2], []⟩, ⟨1, [1, 5], [5]⟩, ⟨2, [2], []⟩, ⟨3, [1, 6], [6]⟩, ⟨4, [5, 6], []⟩, ⟨5, [], []⟩] : List Foot)) (And.intro (Bool.eq_false_iff.mpr h7) (And.intro (Bool.eq_false_iff.mpr h8) (And.intro h9 (And.intro h9 (And.intro (decide_eq_true h10) (And.intro h9 (And.intro h9 (And.intro (W25n.dec_ok h12) (And.intro h9 (And.intro h9 (And.intro h13 (And.intro h13 (And.intro (decide_eq_true h10) (And.intro h13 (And.intro (W25n.dec_ok h12) (And.intro h13 (And.intro h14 (And.intro h13 (And.intro h13 (And.intro h13 (And.intro h15 (And.intro h15 (And.intro h15 (And.intro h15 (And.intro (decide_eq_true h1) (And.intro h16 (And.intro h15 (And.intro (decide_eq_true h17) (And.intro h15 (And.intro (decide_eq_true h18) (And.intro h19 (And.intro h15 (And.intro h20 (And.intro h21 (And.intro h20 True.intro))))))))))))))))))))))))))))))))))))))))))))))
                                        · skip
                                          cases h
                                    · skip
                                      cases h
                                  · skip
                                    cases h
                              · skip
                                cases h
                          · skip
                            cases h
                      · skip
                        cases h
                    · skip
                      cases h
            · skip
              cases h
        | a1 =>
          obtain ⟨r4, h4, h⟩ := Option.bind_eq_some_iff.mp h
          have h4 := F12v3_ok (m + 6) (b1629) (List.take k1630 l1633) r4 h4
          cases r4 with
          | a0 k1895 l1896 =>
            rcases ite_eq h with ⟨h5, h⟩ | ⟨h5, h⟩
            · skip
              obtain ⟨r6, h6, h⟩ := Option.bind_eq_some_iff.mp h
              have h6 := F24_ok (m + 6) (List.take k1895 l1896) ([[vb b1629, V.list 2 (List.take k1630 l1633)]]) r6 h6
              cases r6 with
              | a0 b1897 =>
                obtain ⟨r7, h7, h⟩ := Option.bind_eq_some_iff.mp h
                have h7 := F12v3_ok (m + 6) (b1629) (List.take k1630 l1633) r7 h7
                cases r7 with
                | a0 k1898 l1899 =>
                  rcases ite_eq h with ⟨h8, h⟩ | ⟨h8, h⟩
                  · skip
                    obtain ⟨r9, h9, h⟩ := Option.bind_eq_some_iff.mp h
                    have h9 := F24_ok (m + 6) (List.take k1898 l1899) ([[vb b1629, V.list 2 (List.take k1630 l1633)]]) r9 h9
                    cases r9 with
                    | a0 b1900 =>
                      rcases ite_eq h with ⟨h10, h⟩ | ⟨h10, h⟩
                      · skip
                        cases h
                      · skip
                        rcases ite_eq h with ⟨h11, h⟩ | ⟨h11, h⟩
                        · skip
                          obtain ⟨r12, h12, h⟩ := Option.bind_eq_some_iff.mp h
                          have h12 := F14_ok (m + 0) r12 h12
                          cases r12 with
                          | a0 b1901 =>
                            cases h
                            exact call_pathL (gs := [.an (V.agg [vb b1629, V.hs 1 0 k1630]) [Ob.cells true false 2 [[V.list 1 l1631, i64 z1632]], Ob.cells true true 2 l1633], .a, .a, .t, .an (i64 z1634) [], .a, .t, .a, .an (V.nilS) [], .a, .t, .an (V.hs 0 0 k1895) [Ob.cells true true 2 l1896], .a, .t, .t, .a, .an (vb b1897) [], .ft [⟨0, [2], []⟩, ⟨1, [1, 5], [1, 5]⟩, ⟨2, [2], []⟩, ⟨3, [1, 6], [6]⟩, ⟨4, [5, 6], []⟩, ⟨5, [], []⟩], .a, .t, .an (V.hs 0 0 k1898) [Ob.cells true true 2 l1899], .a, .t, .t, .a, .an (vb b1900) [], .ft [⟨0, [2], []⟩, ⟨1, [1, 5], [5]⟩, ⟨2, [2], []⟩, ⟨3, [1, 6], [6]⟩, ⟨4, [5, 6], []⟩, ⟨5, [], []⟩], .f, .t, .a, .an (vb b1901) [], .a]) (notIn []) rfl rfl (by kernel_rfl) (And.intro h0 (And.intro (decide_eq_true h1) (And.intro h2 (And.intro (decide_eq_true h1) (And.intro h3 (And.intro (decide_eq_true h1) (And.intro h4 (And.intro (decide_eq_true h1) (And.intro (decide_eq_true h5) (And.intro h6 (And.intro (Eq.refl ([⟨0, [2], []⟩, ⟨1, [1, 5], [1, 5]⟩, ⟨2, [2], []⟩, ⟨3, [1, 6], [6]⟩, ⟨4, [5, 6], []⟩, ⟨5, [], []⟩] : List Foot)) (And.intro (decide_eq_true h1) (And.intro h7 (And.intro (decide_eq_true h1) (And.intro (decide_eq_true h8) (And.intro h9 (And.intro (Eq.refl ([⟨0, [2], []⟩, ⟨1, [1, 5], [5]⟩, ⟨2, [2], []⟩, ⟨3, [1, 6], [6]⟩, ⟨4, [5, 6], []⟩, ⟨5, [], []⟩] : List Foot)) (And.intro (Bool.eq_false_iff.mpr h10) (And.intro h11 (And.intro h12 True.intro))))))))))))))))))))
                        · skip
                          cases h
                  · skip
                    cases h
            · skip
              cases h
    · skip
      cases h
end Go.Proofs.Ytojigbcgmneiiaa.H
