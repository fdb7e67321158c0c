/- What the functions compute, and that they do so over the machine of plain values (printed by this session's program wip/vm/Walk.lean). No condition beyond those stated. -/
import Derived.Test.YtojigbcgmneiiaaWk
import Derived.Test.YtojigbcgmneiiaaPDa
set_option linter.unusedVariables false
set_option linter.unusedSimpArgs false
namespace Go.Proofs.Ytojigbcgmneiiaa.H
open Go Go.VM
set_option maxRecDepth 100000
/-! ## 88 -/
inductive A88 where
  | a0 (z1135 : Int)
@[reducible] def A88.out : A88 → V × Store
  | .a0 z1135 => (i64 z1135, [])
def F88 (z1128 : Int) : Option A88 :=
  (F89 (z1128)).bind fun r => match r with
  | .a0 z1134 =>
   some (A88.a0 (w64 (64 - z1134)))
theorem F88_ok (m : Nat) (z1128 : Int) (r : A88) (h : F88 z1128 = some r) : call Try.prog X O0 18446744073709551616 (m + 2) 88 ([V.int IntKind.u64 z1128]) ([]) = some r.out := by
  unfold F88 at h
  obtain ⟨r0, h0, h⟩ := Option.bind_eq_some_iff.mp h
  have h0 := F89_ok (m + 0) (z1128) r0 h0
  cases r0 with
  | a0 z1134 =>
    cases h
    exact call_pathL (gs := [.an (i64 z1134) []]) (notIn []) rfl rfl (by kernel_rfl) (And.intro h0 True.intro)
/-! ## 87 -/
noncomputable abbrev B87 : Code := (Try.f87.body).getD .skip
inductive R87_2 where
  | e0 (z1479 : Int) (z1480 : Int) (z1483 : Int) (z1484 : Int) (z1486 : Int) (z1487 : Int)
  | e1 (z1492 : Int) (z1493 : Int) (z1496 : Int) (z1497 : Int) (z1499 : Int) (z1500 : Int)
  | e2 (z1509 : Int) (z1510 : Int) (z1513 : Int) (z1514 : Int) (z1516 : Int) (z1517 : Int)
@[reducible] def s87_2_0 (z1479 : Int) (z1480 : Int) (z1481 : Int) (z1482 : Int) (z1483 : Int) (z1484 : Int) (z1485 : Int) (z1486 : Int) (z1487 : Int) (z1488 : Int) (b1489 : Bool) (z1490 : Int) (b1491 : Bool) : S := { T := U :: U :: V.int IntKind.u64 z1479 :: un 5 (V.int IntKind.u64 z1480 :: V.int IntKind.u64 z1481 :: V.int IntKind.u64 z1482 :: U :: U :: U :: V.int IntKind.u64 z1483 :: V.int IntKind.u64 z1484 :: V.int IntKind.u64 z1485 :: V.int IntKind.u64 z1486 :: V.int IntKind.u64 z1487 :: un 83 (V.int IntKind.u64 z1488 :: vb b1489 :: vb b1489 :: E :: E :: E :: E :: E :: E :: E :: E :: vb true :: V.int IntKind.u64 z1488 :: V.int IntKind.u64 z1487 :: V.int IntKind.u64 z1490 :: V.int IntKind.u64 z1481 :: V.int IntKind.u64 z1485 :: V.int IntKind.u64 z1485 :: vb b1491 :: un 14 [])), σ := [] }
@[reducible] def s87_2_1 (z1492 : Int) (z1493 : Int) (z1494 : Int) (z1495 : Int) (z1496 : Int) (z1497 : Int) (z1498 : Int) (z1499 : Int) (z1500 : Int) (z1501 : Int) (b1502 : Bool) (z1503 : Int) (z1504 : Int) (z1505 : Int) (z1506 : Int) (b1507 : Bool) (b1508 : Bool) : S := { T := U :: U :: V.int IntKind.u64 z1492 :: un 5 (V.int IntKind.u64 z1493 :: V.int IntKind.u64 z1494 :: V.int IntKind.u64 z1495 :: U :: U :: U :: V.int IntKind.u64 z1496 :: V.int IntKind.u64 z1497 :: V.int IntKind.u64 z1498 :: V.int IntKind.u64 z1499 :: V.int IntKind.u64 z1500 :: un 83 (V.int IntKind.u64 z1501 :: vb b1502 :: vb b1502 :: V.int IntKind.u64 z1501 :: V.int IntKind.u64 z1495 :: V.int IntKind.u64 z1503 :: V.int IntKind.u64 z1504 :: V.int IntKind.u64 z1505 :: V.int IntKind.u64 z1496 :: V.int IntKind.u64 z1506 :: vb b1507 :: vb b1507 :: V.int IntKind.u64 z1501 :: V.int IntKind.u64 z1500 :: V.int IntKind.u64 z1504 :: V.int IntKind.u64 z1494 :: V.int IntKind.u64 z1498 :: V.int IntKind.u64 z1498 :: vb b1508 :: un 14 [])), σ := [] }
@[reducible] def s87_2_2 (z1509 : Int) (z1510 : Int) (z1511 : Int) (z1512 : Int) (z1513 : Int) (z1514 : Int) (z1515 : Int) (z1516 : Int) (z1517 : Int) (b1518 : Bool) (z1519 : Int) (z1520 : Int) (z1521 : Int) (b1522 : Bool) : S := { T := U :: U :: V.int IntKind.u64 z1509 :: un 5 (V.int IntKind.u64 z1510 :: V.int IntKind.u64 z1511 :: V.int IntKind.u64 z1512 :: U :: U :: U :: V.int IntKind.u64 z1513 :: V.int IntKind.u64 z1514 :: V.int IntKind.u64 z1515 :: V.int IntKind.u64 z1516 :: V.int IntKind.u64 z1517 :: un 83 (V.int IntKind.u64 z1517 :: vb b1518 :: vb b1518 :: V.int IntKind.u64 z1517 :: V.int IntKind.u64 z1512 :: V.int IntKind.u64 z1519 :: V.int IntKind.u64 z1515 :: V.int IntKind.u64 z1520 :: V.int IntKind.u64 z1513 :: V.int IntKind.u64 z1521 :: vb b1522 :: vb b1522 :: un 21 [])), σ := [] }
def R87_2.St : R87_2 → VX × S → Prop
  | .e0 z1479 z1480 z1483 z1484 z1486 z1487, p => ∃ z1481 : Int, ∃ z1482 : Int, ∃ z1485 : Int, ∃ z1488 : Int, ∃ b1489 : Bool, ∃ z1490 : Int, ∃ b1491 : Bool, p = (VX.exit 2, s87_2_0 z1479 z1480 z1481 z1482 z1483 z1484 z1485 z1486 z1487 z1488 b1489 z1490 b1491)
  | .e1 z1492 z1493 z1496 z1497 z1499 z1500, p => ∃ z1494 : Int, ∃ z1495 : Int, ∃ z1498 : Int, ∃ z1501 : Int, ∃ b1502 : Bool, ∃ z1503 : Int, ∃ z1504 : Int, ∃ z1505 : Int, ∃ z1506 : Int, ∃ b1507 : Bool, ∃ b1508 : Bool, p = (VX.exit 2, s87_2_1 z1492 z1493 z1494 z1495 z1496 z1497 z1498 z1499 z1500 z1501 b1502 z1503 z1504 z1505 z1506 b1507 b1508)
  | .e2 z1509 z1510 z1513 z1514 z1516 z1517, p => ∃ z1511 : Int, ∃ z1512 : Int, ∃ z1515 : Int, ∃ b1518 : Bool, ∃ z1519 : Int, ∃ z1520 : Int, ∃ z1521 : Int, ∃ b1522 : Bool, p = (VX.exit 2, s87_2_2 z1509 z1510 z1511 z1512 z1513 z1514 z1515 z1516 z1517 b1518 z1519 z1520 z1521 b1522)
def L87_2 : Nat → Int → Int → Int → Int → Int → Int → Int → Int → Int → Option R87_2
  | 0, _, _, _, _, _, _, _, _, _ => none
  | n + 1, z1203, z1204, z1205, z1206, z1207, z1208, z1209, z1210, z1211 =>
    if z1211 ≥ 4294967296 then
     if IntKind.wrap IntKind.u64 (z1209 + z1205) ≥ 4294967296 then
      some (R87_2.e0 (z1203) (z1204) (z1207) (z1208) (z1210) (IntKind.wrap IntKind.u64 (z1211 - 1)))
     else
      L87_2 n (z1203) (z1204) (z1205) (z1206) (z1207) (z1208) (IntKind.wrap IntKind.u64 (z1209 + z1205)) (z1210) (IntKind.wrap IntKind.u64 (z1211 - 1))
    else
     if IntKind.wrap IntKind.u64 (z1211 * z1206) > IntKind.wrap IntKind.u64 (IntKind.wrap IntKind.u64 (4294967296 * z1209) + z1207) then
      if IntKind.wrap IntKind.u64 (z1209 + z1205) ≥ 4294967296 then
       some (R87_2.e1 (z1203) (z1204) (z1207) (z1208) (z1210) (IntKind.wrap IntKind.u64 (z1211 - 1)))
      else
       L87_2 n (z1203) (z1204) (z1205) (z1206) (z1207) (z1208) (IntKind.wrap IntKind.u64 (z1209 + z1205)) (z1210) (IntKind.wrap IntKind.u64 (z1211 - 1))
     else
      some (R87_2.e2 (z1203) (z1204) (z1207) (z1208) (z1210) (z1211))
theorem L87_2_ok (m : Nat) : ∀ (n : Nat) (z1203 : Int) (z1204 : Int) (z1205 : Int) (z1206 : Int) (z1207 : Int) (z1208 : Int) (z1209 : Int) (z1210 : Int) (z1211 : Int) (r : R87_2), L87_2 n z1203 z1204 z1205 z1206 z1207 z1208 z1209 z1210 z1211 = some r → ∃ st, loopFrom Try.prog X (genO X (call Try.prog X O0 18446744073709551616 (m + 2))) 87 (0) 18446744073709551616 B87 2 n ({ T := U :: U :: V.int IntKind.u64 z1203 :: un 5 (V.int IntKind.u64 z1204 :: V.int IntKind.u64 z1205 :: V.int IntKind.u64 z1206 :: U :: U :: U :: V.int IntKind.u64 z1207 :: V.int IntKind.u64 z1208 :: V.int IntKind.u64 z1209 :: V.int IntKind.u64 z1210 :: V.int IntKind.u64 z1211 :: un 116 []), σ := [] }) = some st ∧ r.St st
  | 0, _, _, _, _, _, _, _, _, _, r, h => by cases h
  | n + 1, z1203, z1204, z1205, z1206, z1207, z1208, z1209, z1210, z1211, r, h => by
    rw [L87_2] at h
    rcases ite_eq h with ⟨h0, h⟩ | ⟨h0, h⟩
    · skip
      rcases ite_eq h with ⟨h1, h⟩ | ⟨h1, h⟩
      · skip
        cases h
        exact ⟨_, round_out (gs := [.t, .t, .t, .t, .t, .t, .t, .t, .t, .a, .t]) (notIn []) (by kernel_rfl) rfl (And.intro (decide_eq_true h0) (And.intro (decide_eq_true h0) (And.intro (decide_eq_true h0) (And.intro (decide_eq_true h0) (And.intro (decide_eq_true h0) (And.intro (decide_eq_true h0) (And.intro (decide_eq_true h0) (And.intro (decide_eq_true h0) (And.intro (decide_eq_true h0) (And.intro (decide_eq_true h1) True.intro)))))))))) n, z1205, z1206, IntKind.wrap IntKind.u64 (z1209 + z1205), z1211, decide (z1211 ≥ 4294967296), z1209, decide (IntKind.wrap IntKind.u64 (z1209 + z1205) ≥ 4294967296), rfl⟩
      · skip
        obtain ⟨st, hs, hr⟩ := L87_2_ok m n (z1203) (z1204) (z1205) (z1206) (z1207) (z1208) (IntKind.wrap IntKind.u64 (z1209 + z1205)) (z1210) (IntKind.wrap IntKind.u64 (z1211 - 1)) r h
        exact ⟨st, (round_on (gs := [.t, .t, .t, .t, .t, .t, .t, .t, .t, .a, .f]) (notIn []) (by kernel_rfl) (And.intro (decide_eq_true h0) (And.intro (decide_eq_true h0) (And.intro (decide_eq_true h0) (And.intro (decide_eq_true h0) (And.intro (decide_eq_true h0) (And.intro (decide_eq_true h0) (And.intro (decide_eq_true h0) (And.intro (decide_eq_true h0) (And.intro (decide_eq_true h0) (And.intro (decide_eq_false h1) True.intro)))))))))) n).trans hs, hr⟩
    · skip
      rcases ite_eq h with ⟨h1, h⟩ | ⟨h1, h⟩
      · skip
        rcases ite_eq h with ⟨h2, h⟩ | ⟨h2, h⟩
        · skip
          cases h
          exact ⟨_, round_out (gs := [.f, .f, .f, .f, .f, .f, .f, .f, .f, .t, .t]) (notIn []) (by kernel_rfl) rfl (And.intro (decide_eq_false h0) (And.intro (decide_eq_false h0) (And.intro (decide_eq_false h0) (And.intro (decide_eq_false h0) (And.intro (decide_eq_false h0) (And.intro (decide_eq_false h0) (And.intro (decide_eq_false h0) (And.intro (decide_eq_false h0) (And.intro (decide_eq_false h0) (And.intro (decide_eq_true h1) (And.intro (decide_eq_true h2) True.intro))))))))))) n, z1205, z1206, IntKind.wrap IntKind.u64 (z1209 + z1205), z1211, decide (z1211 ≥ 4294967296), IntKind.wrap IntKind.u64 (z1211 * z1206), z1209, IntKind.wrap IntKind.u64 (4294967296 * z1209), IntKind.wrap IntKind.u64 (IntKind.wrap IntKind.u64 (4294967296 * z1209) + z1207), decide (IntKind.wrap IntKind.u64 (z1211 * z1206) > IntKind.wrap IntKind.u64 (IntKind.wrap IntKind.u64 (4294967296 * z1209) + z1207)), decide (IntKind.wrap IntKind.u64 (z1209 + z1205) ≥ 4294967296), rfl⟩
        · skip
          obtain ⟨st, hs, hr⟩ := L87_2_ok m n (z1203) (z1204) (z1205) (z1206) (z1207) (z1208) (IntKind.wrap IntKind.u64 (z1209 + z1205)) (z1210) (IntKind.wrap IntKind.u64 (z1211 - 1)) r h
          exact ⟨st, (round_on (gs := [.f, .f, .f, .f, .f, .f, .f, .f, .f, .t, .f]) (notIn []) (by kernel_rfl) (And.intro (decide_eq_false h0) (And.intro (decide_eq_false h0) (And.intro (decide_eq_false h0) (And.intro (decide_eq_false h0) (And.intro (decide_eq_false h0) (And.intro (decide_eq_false h0) (And.intro (decide_eq_false h0) (And.intro (decide_eq_false h0) (And.intro (decide_eq_false h0) (And.intro (decide_eq_true h1) (And.intro (decide_eq_false h2) True.intro))))))))))) n).trans hs, hr⟩
      · skip
        cases h
        exact ⟨_, round_out (gs := [.f, .f, .f, .f, .f, .f, .f, .f, .f, .f]) (notIn []) (by kernel_rfl) rfl (And.intro (decide_eq_false h0) (And.intro (decide_eq_false h0) (And.intro (decide_eq_false h0) (And.intro (decide_eq_false h0) (And.intro (decide_eq_false h0) (And.intro (decide_eq_false h0) (And.intro (decide_eq_false h0) (And.intro (decide_eq_false h0) (And.intro (decide_eq_false h0) (And.intro (decide_eq_false h1) True.intro)))))))))) n, z1205, z1206, z1209, decide (z1211 ≥ 4294967296), IntKind.wrap IntKind.u64 (z1211 * z1206), IntKind.wrap IntKind.u64 (4294967296 * z1209), IntKind.wrap IntKind.u64 (IntKind.wrap IntKind.u64 (4294967296 * z1209) + z1207), decide (IntKind.wrap IntKind.u64 (z1211 * z1206) > IntKind.wrap IntKind.u64 (IntKind.wrap IntKind.u64 (4294967296 * z1209) + z1207)), rfl⟩
inductive R87_0 where
  | e0 (z1422 : Int) (z1423 : Int) (z1424 : Int) (z1425 : Int) (z1426 : Int) (z1427 : Int) (z1428 : Int) (z1429 : Int)
  | e1 (z1435 : Int) (z1436 : Int) (z1437 : Int) (z1438 : Int) (z1439 : Int) (z1440 : Int) (z1441 : Int) (z1442 : Int)
  | e2 (z1452 : Int) (z1453 : Int) (z1454 : Int) (z1455 : Int) (z1456 : Int) (z1457 : Int) (z1458 : Int) (z1459 : Int)
@[reducible] def s87_0_0 (z1422 : Int) (z1423 : Int) (z1424 : Int) (z1425 : Int) (z1426 : Int) (z1427 : Int) (z1428 : Int) (z1429 : Int) (z1430 : Int) (z1431 : Int) (b1432 : Bool) (z1433 : Int) (b1434 : Bool) : S := { T := U :: U :: V.int IntKind.u64 z1422 :: un 5 (V.int IntKind.u64 z1423 :: V.int IntKind.u64 z1424 :: V.int IntKind.u64 z1425 :: V.int IntKind.u64 z1426 :: U :: V.int IntKind.u64 z1427 :: V.int IntKind.u64 z1428 :: V.int IntKind.u64 z1429 :: V.int IntKind.u64 z1430 :: un 50 (V.int IntKind.u64 z1431 :: vb b1432 :: vb b1432 :: E :: E :: E :: E :: E :: E :: E :: E :: vb true :: V.int IntKind.u64 z1431 :: V.int IntKind.u64 z1429 :: V.int IntKind.u64 z1433 :: V.int IntKind.u64 z1424 :: V.int IntKind.u64 z1430 :: V.int IntKind.u64 z1430 :: vb b1434 :: un 49 [])), σ := [] }
@[reducible] def s87_0_1 (z1435 : Int) (z1436 : Int) (z1437 : Int) (z1438 : Int) (z1439 : Int) (z1440 : Int) (z1441 : Int) (z1442 : Int) (z1443 : Int) (z1444 : Int) (b1445 : Bool) (z1446 : Int) (z1447 : Int) (z1448 : Int) (z1449 : Int) (b1450 : Bool) (b1451 : Bool) : S := { T := U :: U :: V.int IntKind.u64 z1435 :: un 5 (V.int IntKind.u64 z1436 :: V.int IntKind.u64 z1437 :: V.int IntKind.u64 z1438 :: V.int IntKind.u64 z1439 :: U :: V.int IntKind.u64 z1440 :: V.int IntKind.u64 z1441 :: V.int IntKind.u64 z1442 :: V.int IntKind.u64 z1443 :: un 50 (V.int IntKind.u64 z1444 :: vb b1445 :: vb b1445 :: V.int IntKind.u64 z1444 :: V.int IntKind.u64 z1438 :: V.int IntKind.u64 z1446 :: V.int IntKind.u64 z1447 :: V.int IntKind.u64 z1448 :: V.int IntKind.u64 z1440 :: V.int IntKind.u64 z1449 :: vb b1450 :: vb b1450 :: V.int IntKind.u64 z1444 :: V.int IntKind.u64 z1442 :: V.int IntKind.u64 z1447 :: V.int IntKind.u64 z1437 :: V.int IntKind.u64 z1443 :: V.int IntKind.u64 z1443 :: vb b1451 :: un 49 [])), σ := [] }
@[reducible] def s87_0_2 (z1452 : Int) (z1453 : Int) (z1454 : Int) (z1455 : Int) (z1456 : Int) (z1457 : Int) (z1458 : Int) (z1459 : Int) (z1460 : Int) (b1461 : Bool) (z1462 : Int) (z1463 : Int) (z1464 : Int) (b1465 : Bool) : S := { T := U :: U :: V.int IntKind.u64 z1452 :: un 5 (V.int IntKind.u64 z1453 :: V.int IntKind.u64 z1454 :: V.int IntKind.u64 z1455 :: V.int IntKind.u64 z1456 :: U :: V.int IntKind.u64 z1457 :: V.int IntKind.u64 z1458 :: V.int IntKind.u64 z1459 :: V.int IntKind.u64 z1460 :: un 50 (V.int IntKind.u64 z1459 :: vb b1461 :: vb b1461 :: V.int IntKind.u64 z1459 :: V.int IntKind.u64 z1455 :: V.int IntKind.u64 z1462 :: V.int IntKind.u64 z1460 :: V.int IntKind.u64 z1463 :: V.int IntKind.u64 z1457 :: V.int IntKind.u64 z1464 :: vb b1465 :: vb b1465 :: un 56 [])), σ := [] }
def R87_0.St : R87_0 → VX × S → Prop
  | .e0 z1422 z1423 z1424 z1425 z1426 z1427 z1428 z1429, p => ∃ z1430 : Int, ∃ z1431 : Int, ∃ b1432 : Bool, ∃ z1433 : Int, ∃ b1434 : Bool, p = (VX.exit 0, s87_0_0 z1422 z1423 z1424 z1425 z1426 z1427 z1428 z1429 z1430 z1431 b1432 z1433 b1434)
  | .e1 z1435 z1436 z1437 z1438 z1439 z1440 z1441 z1442, p => ∃ z1443 : Int, ∃ z1444 : Int, ∃ b1445 : Bool, ∃ z1446 : Int, ∃ z1447 : Int, ∃ z1448 : Int, ∃ z1449 : Int, ∃ b1450 : Bool, ∃ b1451 : Bool, p = (VX.exit 0, s87_0_1 z1435 z1436 z1437 z1438 z1439 z1440 z1441 z1442 z1443 z1444 b1445 z1446 z1447 z1448 z1449 b1450 b1451)
  | .e2 z1452 z1453 z1454 z1455 z1456 z1457 z1458 z1459, p => ∃ z1460 : Int, ∃ b1461 : Bool, ∃ z1462 : Int, ∃ z1463 : Int, ∃ z1464 : Int, ∃ b1465 : Bool, p = (VX.exit 0, s87_0_2 z1452 z1453 z1454 z1455 z1456 z1457 z1458 z1459 z1460 b1461 z1462 z1463 z1464 b1465)
def L87_0 : Nat → Int → Int → Int → Int → Int → Int → Int → Int → Int → Option R87_0
  | 0, _, _, _, _, _, _, _, _, _ => none
  | n + 1, z1137, z1138, z1139, z1140, z1141, z1142, z1143, z1144, z1145 =>
    if z1144 ≥ 4294967296 then
     if IntKind.wrap IntKind.u64 (z1145 + z1139) ≥ 4294967296 then
      some (R87_0.e0 (z1137) (z1138) (z1139) (z1140) (z1141) (z1142) (z1143) (IntKind.wrap IntKind.u64 (z1144 - 1)))
     else
      L87_0 n (z1137) (z1138) (z1139) (z1140) (z1141) (z1142) (z1143) (IntKind.wrap IntKind.u64 (z1144 - 1)) (IntKind.wrap IntKind.u64 (z1145 + z1139))
    else
     if IntKind.wrap IntKind.u64 (z1144 * z1140) > IntKind.wrap IntKind.u64 (IntKind.wrap IntKind.u64 (4294967296 * z1145) + z1142) then
      if IntKind.wrap IntKind.u64 (z1145 + z1139) ≥ 4294967296 then
       some (R87_0.e1 (z1137) (z1138) (z1139) (z1140) (z1141) (z1142) (z1143) (IntKind.wrap IntKind.u64 (z1144 - 1)))
      else
       L87_0 n (z1137) (z1138) (z1139) (z1140) (z1141) (z1142) (z1143) (IntKind.wrap IntKind.u64 (z1144 - 1)) (IntKind.wrap IntKind.u64 (z1145 + z1139))
     else
      some (R87_0.e2 (z1137) (z1138) (z1139) (z1140) (z1141) (z1142) (z1143) (z1144))
theorem L87_0_ok (m : Nat) : ∀ (n : Nat) (z1137 : Int) (z1138 : Int) (z1139 : Int) (z1140 : Int) (z1141 : Int) (z1142 : Int) (z1143 : Int) (z1144 : Int) (z1145 : Int) (r : R87_0), L87_0 n z1137 z1138 z1139 z1140 z1141 z1142 z1143 z1144 z1145 = some r → ∃ st, loopFrom Try.prog X (genO X (call Try.prog X O0 18446744073709551616 (m + 2))) 87 (0) 18446744073709551616 B87 0 n ({ T := U :: U :: V.int IntKind.u64 z1137 :: un 5 (V.int IntKind.u64 z1138 :: V.int IntKind.u64 z1139 :: V.int IntKind.u64 z1140 :: V.int IntKind.u64 z1141 :: U :: V.int IntKind.u64 z1142 :: V.int IntKind.u64 z1143 :: V.int IntKind.u64 z1144 :: V.int IntKind.u64 z1145 :: un 118 []), σ := [] }) = some st ∧ r.St st
  | 0, _, _, _, _, _, _, _, _, _, r, h => by cases h
  | n + 1, z1137, z1138, z1139, z1140, z1141, z1142, z1143, z1144, z1145, r, h => by
    rw [L87_0] at h
    rcases ite_eq h with ⟨h0, h⟩ | ⟨h0, h⟩
    · skip
      rcases ite_eq h with ⟨h1, h⟩ | ⟨h1, h⟩
      · skip
        cases h
        exact ⟨_, round_out (gs := [.t, .t, .t, .t, .t, .t, .t, .t, .t, .a, .t]) (notIn []) (by kernel_rfl) rfl (And.intro (decide_eq_true h0) (And.intro (decide_eq_true h0) (And.intro (decide_eq_true h0) (And.intro (decide_eq_true h0) (And.intro (decide_eq_true h0) (And.intro (decide_eq_true h0) (And.intro (decide_eq_true h0) (And.intro (decide_eq_true h0) (And.intro (decide_eq_true h0) (And.intro (decide_eq_true h1) True.intro)))))))))) n, IntKind.wrap IntKind.u64 (z1145 + z1139), z1144, decide (z1144 ≥ 4294967296), z1145, decide (IntKind.wrap IntKind.u64 (z1145 + z1139) ≥ 4294967296), rfl⟩
      · skip
        obtain ⟨st, hs, hr⟩ := L87_0_ok m n (z1137) (z1138) (z1139) (z1140) (z1141) (z1142) (z1143) (IntKind.wrap IntKind.u64 (z1144 - 1)) (IntKind.wrap IntKind.u64 (z1145 + z1139)) r h
        exact ⟨st, (round_on (gs := [.t, .t, .t, .t, .t, .t, .t, .t, .t, .a, .f]) (notIn []) (by kernel_rfl) (And.intro (decide_eq_true h0) (And.intro (decide_eq_true h0) (And.intro (decide_eq_true h0) (And.intro (decide_eq_true h0) (And.intro (decide_eq_true h0) (And.intro (decide_eq_true h0) (And.intro (decide_eq_true h0) (And.intro (decide_eq_true h0) (And.intro (decide_eq_true h0) (And.intro (decide_eq_false h1) True.intro)))))))))) n).trans hs, hr⟩
    · skip
      rcases ite_eq h with ⟨h1, h⟩ | ⟨h1, h⟩
      · skip
        rcases ite_eq h with ⟨h2, h⟩ | ⟨h2, h⟩
        · skip
          cases h
          exact ⟨_, round_out (gs := [.f, .f, .f, .f, .f, .f, .f, .f, .f, .t, .t]) (notIn []) (by kernel_rfl) rfl (And.intro (decide_eq_false h0) (And.intro (decide_eq_false h0) (And.intro (decide_eq_false h0) (And.intro (decide_eq_false h0) (And.intro (decide_eq_false h0) (And.intro (decide_eq_false h0) (And.intro (decide_eq_false h0) (And.intro (decide_eq_false h0) (And.intro (decide_eq_false h0) (And.intro (decide_eq_true h1) (And.intro (decide_eq_true h2) True.intro))))))))))) n, IntKind.wrap IntKind.u64 (z1145 + z1139), z1144, decide (z1144 ≥ 4294967296), IntKind.wrap IntKind.u64 (z1144 * z1140), z1145, IntKind.wrap IntKind.u64 (4294967296 * z1145), IntKind.wrap IntKind.u64 (IntKind.wrap IntKind.u64 (4294967296 * z1145) + z1142), decide (IntKind.wrap IntKind.u64 (z1144 * z1140) > IntKind.wrap IntKind.u64 (IntKind.wrap IntKind.u64 (4294967296 * z1145) + z1142)), decide (IntKind.wrap IntKind.u64 (z1145 + z1139) ≥ 4294967296), rfl⟩
        · skip
          obtain ⟨st, hs, hr⟩ := L87_0_ok m n (z1137) (z1138) (z1139) (z1140) (z1141) (z1142) (z1143) (IntKind.wrap IntKind.u64 (z1144 - 1)) (IntKind.wrap IntKind.u64 (z1145 + z1139)) r h
          exact ⟨st, (round_on (gs := [.f, .f, .f, .f, .f, .f, .f, .f, .f, .t, .f]) (notIn []) (by kernel_rfl) (And.intro (decide_eq_false h0) (And.intro (decide_eq_false h0) (And.intro (decide_eq_false h0) (And.intro (decide_eq_false h0) (And.intro (decide_eq_false h0) (And.intro (decide_eq_false h0) (And.intro (decide_eq_false h0) (And.intro (decide_eq_false h0) (And.intro (decide_eq_false h0) (And.intro (decide_eq_true h1) (And.intro (decide_eq_false h2) True.intro))))))))))) n).trans hs, hr⟩
      · skip
        cases h
        exact ⟨_, round_out (gs := [.f, .f, .f, .f, .f, .f, .f, .f, .f, .f]) (notIn []) (by kernel_rfl) rfl (And.intro (decide_eq_false h0) (And.intro (decide_eq_false h0) (And.intro (decide_eq_false h0) (And.intro (decide_eq_false h0) (And.intro (decide_eq_false h0) (And.intro (decide_eq_false h0) (And.intro (decide_eq_false h0) (And.intro (decide_eq_false h0) (And.intro (decide_eq_false h0) (And.intro (decide_eq_false h1) True.intro)))))))))) n, z1145, decide (z1144 ≥ 4294967296), IntKind.wrap IntKind.u64 (z1144 * z1140), IntKind.wrap IntKind.u64 (4294967296 * z1145), IntKind.wrap IntKind.u64 (IntKind.wrap IntKind.u64 (4294967296 * z1145) + z1142), decide (IntKind.wrap IntKind.u64 (z1144 * z1140) > IntKind.wrap IntKind.u64 (IntKind.wrap IntKind.u64 (4294967296 * z1145) + z1142)), rfl⟩
inductive A87 where
  | a0 (z1419 : Int) (z1420 : Int)
@[reducible] def A87.out : A87 → V × Store
  | .a0 z1419 z1420 => (V.tup [V.int IntKind.u64 z1419, V.int IntKind.u64 z1420], [])
def F87 (z1122 : Int) (z1123 : Int) (z1124 : Int) : Option A87 :=
  if (z1124 == 0) = true then
   none -- none
  else
   if z1124 ≤ z1122 then
    none -- none
   else
    if (z1122 == 0) = true then
     if z1124 = 0 then
      none -- none
     else
      some (A87.a0 (IntKind.wrap IntKind.u64 (Int.tdiv z1123 z1124)) (Int.tmod z1123 z1124))
    else
     (F88 (z1124)).bind fun r => match r with
     | .a0 z1421 =>
      if IntKind.wrap IntKind.u64 z1421 < 0 then
       none -- none
      else
       if IntKind.wrap IntKind.u64 (64 - IntKind.wrap IntKind.u64 z1421) < 0 then
        none -- none
       else
        if Int.fdiv (IntKind.wrap IntKind.u64 (z1124 * 2 ^ min (Int.toNat (IntKind.wrap IntKind.u64 z1421)) 64)) 4294967296 = 0 then
         none -- none
        else
         (L87_0 18446744073709551616 (IntKind.wrap IntKind.u64 (z1124 * 2 ^ min (Int.toNat (IntKind.wrap IntKind.u64 z1421)) 64)) (IntKind.wrap IntKind.u64 z1421) (Int.fdiv (IntKind.wrap IntKind.u64 (z1124 * 2 ^ min (Int.toNat (IntKind.wrap IntKind.u64 z1421)) 64)) 4294967296) (IntKind.wrap IntKind.u64 (↑(BitVec.toNat (BitVec.ofInt (IntKind.bits IntKind.u64) (IntKind.wrap IntKind.u64 (z1124 * 2 ^ min (Int.toNat (IntKind.wrap IntKind.u64 z1421)) 64)) &&& BitVec.ofInt (IntKind.bits IntKind.u64) 4294967295)) : Int)) (IntKind.wrap IntKind.u64 (↑(BitVec.toNat (BitVec.ofInt (IntKind.bits IntKind.u64) (IntKind.wrap IntKind.u64 (z1122 * 2 ^ min (Int.toNat (IntKind.wrap IntKind.u64 z1421)) (IntKind.bits IntKind.u64))) ||| BitVec.ofInt (IntKind.bits IntKind.u64) (Int.fdiv z1123 (2 ^ min (Int.toNat (IntKind.wrap IntKind.u64 (64 - IntKind.wrap IntKind.u64 z1421))) (IntKind.bits IntKind.u64))))) : Int)) (Int.fdiv (IntKind.wrap IntKind.u64 (z1123 * 2 ^ min (Int.toNat (IntKind.wrap IntKind.u64 z1421)) 64)) 4294967296) (IntKind.wrap IntKind.u64 (↑(BitVec.toNat (BitVec.ofInt (IntKind.bits IntKind.u64) (IntKind.wrap IntKind.u64 (z1123 * 2 ^ min (Int.toNat (IntKind.wrap IntKind.u64 z1421)) 64)) &&& BitVec.ofInt (IntKind.bits IntKind.u64) 4294967295)) : Int)) (IntKind.wrap IntKind.u64 (Int.tdiv (IntKind.wrap IntKind.u64 (↑(BitVec.toNat (BitVec.ofInt (IntKind.bits IntKind.u64) (IntKind.wrap IntKind.u64 (z1122 * 2 ^ min (Int.toNat (IntKind.wrap IntKind.u64 z1421)) (IntKind.bits IntKind.u64))) ||| BitVec.ofInt (IntKind.bits IntKind.u64) (Int.fdiv z1123 (2 ^ min (Int.toNat (IntKind.wrap IntKind.u64 (64 - IntKind.wrap IntKind.u64 z1421))) (IntKind.bits IntKind.u64))))) : Int)) (Int.fdiv (IntKind.wrap IntKind.u64 (z1124 * 2 ^ min (Int.toNat (IntKind.wrap IntKind.u64 z1421)) 64)) 4294967296))) (IntKind.wrap IntKind.u64 (IntKind.wrap IntKind.u64 (↑(BitVec.toNat (BitVec.ofInt (IntKind.bits IntKind.u64) (IntKind.wrap IntKind.u64 (z1122 * 2 ^ min (Int.toNat (IntKind.wrap IntKind.u64 z1421)) (IntKind.bits IntKind.u64))) ||| BitVec.ofInt (IntKind.bits IntKind.u64) (Int.fdiv z1123 (2 ^ min (Int.toNat (IntKind.wrap IntKind.u64 (64 - IntKind.wrap IntKind.u64 z1421))) (IntKind.bits IntKind.u64))))) : Int) - IntKind.wrap IntKind.u64 (IntKind.wrap IntKind.u64 (Int.tdiv (IntKind.wrap IntKind.u64 (↑(BitVec.toNat (BitVec.ofInt (IntKind.bits IntKind.u64) (IntKind.wrap IntKind.u64 (z1122 * 2 ^ min (Int.toNat (IntKind.wrap IntKind.u64 z1421)) (IntKind.bits IntKind.u64))) ||| BitVec.ofInt (IntKind.bits IntKind.u64) (Int.fdiv z1123 (2 ^ min (Int.toNat (IntKind.wrap IntKind.u64 (64 - IntKind.wrap IntKind.u64 z1421))) (IntKind.bits IntKind.u64))))) : Int)) (Int.fdiv (IntKind.wrap IntKind.u64 (z1124 * 2 ^ min (Int.toNat (IntKind.wrap IntKind.u64 z1421)) 64)) 4294967296)) * Int.fdiv (IntKind.wrap IntKind.u64 (z1124 * 2 ^ min (Int.toNat (IntKind.wrap IntKind.u64 z1421)) 64)) 4294967296)))).bind fun r => match r with
         | .e0 z1466 z1467 z1468 z1469 z1470 z1471 z1472 z1473 =>
          if z1468 = 0 then
           none -- none
          else
           (L87_2 18446744073709551616 (z1466) (z1467) (z1468) (z1469) (z1472) (z1473) (IntKind.wrap IntKind.u64 (IntKind.wrap IntKind.u64 (IntKind.wrap IntKind.u64 (IntKind.wrap IntKind.u64 (z1470 * 4294967296) + z1471) - IntKind.wrap IntKind.u64 (z1473 * z1466)) - IntKind.wrap IntKind.u64 (IntKind.wrap IntKind.u64 (Int.tdiv (IntKind.wrap IntKind.u64 (IntKind.wrap IntKind.u64 (IntKind.wrap IntKind.u64 (z1470 * 4294967296) + z1471) - IntKind.wrap IntKind.u64 (z1473 * z1466))) z1468) * z1468))) (IntKind.wrap IntKind.u64 (IntKind.wrap IntKind.u64 (IntKind.wrap IntKind.u64 (z1470 * 4294967296) + z1471) - IntKind.wrap IntKind.u64 (z1473 * z1466))) (IntKind.wrap IntKind.u64 (Int.tdiv (IntKind.wrap IntKind.u64 (IntKind.wrap IntKind.u64 (IntKind.wrap IntKind.u64 (z1470 * 4294967296) + z1471) - IntKind.wrap IntKind.u64 (z1473 * z1466))) z1468))).bind fun r => match r with
           | .e0 z1523 z1524 z1527 z1528 z1530 z1531 =>
            if z1524 < 0 then
             none -- none
            else
             some (A87.a0 (IntKind.wrap IntKind.u64 (IntKind.wrap IntKind.u64 (z1528 * 4294967296) + z1531)) (Int.fdiv (IntKind.wrap IntKind.u64 (IntKind.wrap IntKind.u64 (IntKind.wrap IntKind.u64 (z1530 * 4294967296) + z1527) - IntKind.wrap IntKind.u64 (z1531 * z1523))) (2 ^ min (Int.toNat z1524) 64)))
           | .e1 z1536 z1537 z1540 z1541 z1543 z1544 =>
            if z1537 < 0 then
             none -- none
            else
             some (A87.a0 (IntKind.wrap IntKind.u64 (IntKind.wrap IntKind.u64 (z1541 * 4294967296) + z1544)) (Int.fdiv (IntKind.wrap IntKind.u64 (IntKind.wrap IntKind.u64 (IntKind.wrap IntKind.u64 (z1543 * 4294967296) + z1540) - IntKind.wrap IntKind.u64 (z1544 * z1536))) (2 ^ min (Int.toNat z1537) 64)))
           | .e2 z1553 z1554 z1557 z1558 z1560 z1561 =>
            if z1554 < 0 then
             none -- none
            else
             some (A87.a0 (IntKind.wrap IntKind.u64 (IntKind.wrap IntKind.u64 (z1558 * 4294967296) + z1561)) (Int.fdiv (IntKind.wrap IntKind.u64 (IntKind.wrap IntKind.u64 (IntKind.wrap IntKind.u64 (z1560 * 4294967296) + z1557) - IntKind.wrap IntKind.u64 (z1561 * z1553))) (2 ^ min (Int.toNat z1554) 64)))
         | .e1 z1567 z1568 z1569 z1570 z1571 z1572 z1573 z1574 =>
          if z1569 = 0 then
           none -- none
          else
           (L87_2 18446744073709551616 (z1567) (z1568) (z1569) (z1570) (z1573) (z1574) (IntKind.wrap IntKind.u64 (IntKind.wrap IntKind.u64 (IntKind.wrap IntKind.u64 (IntKind.wrap IntKind.u64 (z1571 * 4294967296) + z1572) - IntKind.wrap IntKind.u64 (z1574 * z1567)) - IntKind.wrap IntKind.u64 (IntKind.wrap IntKind.u64 (Int.tdiv (IntKind.wrap IntKind.u64 (IntKind.wrap IntKind.u64 (IntKind.wrap IntKind.u64 (z1571 * 4294967296) + z1572) - IntKind.wrap IntKind.u64 (z1574 * z1567))) z1569) * z1569))) (IntKind.wrap IntKind.u64 (IntKind.wrap IntKind.u64 (IntKind.wrap IntKind.u64 (z1571 * 4294967296) + z1572) - IntKind.wrap IntKind.u64 (z1574 * z1567))) (IntKind.wrap IntKind.u64 (Int.tdiv (IntKind.wrap IntKind.u64 (IntKind.wrap IntKind.u64 (IntKind.wrap IntKind.u64 (z1571 * 4294967296) + z1572) - IntKind.wrap IntKind.u64 (z1574 * z1567))) z1569))).bind fun r => match r with
           | .e0 z1584 z1585 z1588 z1589 z1591 z1592 =>
            if z1585 < 0 then
             none -- none
            else
             some (A87.a0 (IntKind.wrap IntKind.u64 (IntKind.wrap IntKind.u64 (z1589 * 4294967296) + z1592)) (Int.fdiv (IntKind.wrap IntKind.u64 (IntKind.wrap IntKind.u64 (IntKind.wrap IntKind.u64 (z1591 * 4294967296) + z1588) - IntKind.wrap IntKind.u64 (z1592 * z1584))) (2 ^ min (Int.toNat z1585) 64)))
           | .e1 z1597 z1598 z1601 z1602 z1604 z1605 =>
            if z1598 < 0 then
             none -- none
            else
             some (A87.a0 (IntKind.wrap IntKind.u64 (IntKind.wrap IntKind.u64 (z1602 * 4294967296) + z1605)) (Int.fdiv (IntKind.wrap IntKind.u64 (IntKind.wrap IntKind.u64 (IntKind.wrap IntKind.u64 (z1604 * 4294967296) + z1601) - IntKind.wrap IntKind.u64 (z1605 * z1597))) (2 ^ min (Int.toNat z1598) 64)))
           | .e2 z1614 z1615 z1618 z1619 z1621 z1622 =>
            if z1615 < 0 then
             none -- none
            else
             some (A87.a0 (IntKind.wrap IntKind.u64 (IntKind.wrap IntKind.u64 (z1619 * 4294967296) + z1622)) (Int.fdiv (IntKind.wrap IntKind.u64 (IntKind.wrap IntKind.u64 (IntKind.wrap IntKind.u64 (z1621 * 4294967296) + z1618) - IntKind.wrap IntKind.u64 (z1622 * z1614))) (2 ^ min (Int.toNat z1615) 64)))
         | .e2 z1628 z1629 z1630 z1631 z1632 z1633 z1634 z1635 =>
          if z1630 = 0 then
           none -- none
          else
           (L87_2 18446744073709551616 (z1628) (z1629) (z1630) (z1631) (z1634) (z1635) (IntKind.wrap IntKind.u64 (IntKind.wrap IntKind.u64 (IntKind.wrap IntKind.u64 (IntKind.wrap IntKind.u64 (z1632 * 4294967296) + z1633) - IntKind.wrap IntKind.u64 (z1635 * z1628)) - IntKind.wrap IntKind.u64 (IntKind.wrap IntKind.u64 (Int.tdiv (IntKind.wrap IntKind.u64 (IntKind.wrap IntKind.u64 (IntKind.wrap IntKind.u64 (z1632 * 4294967296) + z1633) - IntKind.wrap IntKind.u64 (z1635 * z1628))) z1630) * z1630))) (IntKind.wrap IntKind.u64 (IntKind.wrap IntKind.u64 (IntKind.wrap IntKind.u64 (z1632 * 4294967296) + z1633) - IntKind.wrap IntKind.u64 (z1635 * z1628))) (IntKind.wrap IntKind.u64 (Int.tdiv (IntKind.wrap IntKind.u64 (IntKind.wrap IntKind.u64 (IntKind.wrap IntKind.u64 (z1632 * 4294967296) + z1633) - IntKind.wrap IntKind.u64 (z1635 * z1628))) z1630))).bind fun r => match r with
           | .e0 z1642 z1643 z1646 z1647 z1649 z1650 =>
            if z1643 < 0 then
             none -- none
            else
             some (A87.a0 (IntKind.wrap IntKind.u64 (IntKind.wrap IntKind.u64 (z1647 * 4294967296) + z1650)) (Int.fdiv (IntKind.wrap IntKind.u64 (IntKind.wrap IntKind.u64 (IntKind.wrap IntKind.u64 (z1649 * 4294967296) + z1646) - IntKind.wrap IntKind.u64 (z1650 * z1642))) (2 ^ min (Int.toNat z1643) 64)))
           | .e1 z1655 z1656 z1659 z1660 z1662 z1663 =>
            if z1656 < 0 then
             none -- none
            else
             some (A87.a0 (IntKind.wrap IntKind.u64 (IntKind.wrap IntKind.u64 (z1660 * 4294967296) + z1663)) (Int.fdiv (IntKind.wrap IntKind.u64 (IntKind.wrap IntKind.u64 (IntKind.wrap IntKind.u64 (z1662 * 4294967296) + z1659) - IntKind.wrap IntKind.u64 (z1663 * z1655))) (2 ^ min (Int.toNat z1656) 64)))
           | .e2 z1672 z1673 z1676 z1677 z1679 z1680 =>
            if z1673 < 0 then
             none -- none
            else
             some (A87.a0 (IntKind.wrap IntKind.u64 (IntKind.wrap IntKind.u64 (z1677 * 4294967296) + z1680)) (Int.fdiv (IntKind.wrap IntKind.u64 (IntKind.wrap IntKind.u64 (IntKind.wrap IntKind.u64 (z1679 * 4294967296) + z1676) - IntKind.wrap IntKind.u64 (z1680 * z1672))) (2 ^ min (Int.toNat z1673) 64)))
theorem F87_ok (m : Nat) (z1122 : Int) (z1123 : Int) (z1124 : Int) (r : A87) (h : F87 z1122 z1123 z1124 = some r) : call Try.prog X O0 18446744073709551616 (m + 3) 87 ([V.int IntKind.u64 z1122, V.int IntKind.u64 z1123, V.int IntKind.u64 z1124]) ([]) = some r.out := by
  unfold F87 at h
  rcases ite_eq h with ⟨h0, h⟩ | ⟨h0, h⟩
  · skip
    cases h
  · skip
    rcases ite_eq h with ⟨h1, h⟩ | ⟨h1, h⟩
    · skip
      cases h
    · skip
      rcases ite_eq h with ⟨h2, h⟩ | ⟨h2, h⟩
      · skip
        rcases ite_eq h with ⟨h3, h⟩ | ⟨h3, h⟩
        · skip
          cases h
        · skip
          cases h
          exact call_pathL (gs := [.f, .f, .t, .f, .f, .ft [⟨0, [], []⟩, ⟨1, [], []⟩, ⟨2, [], []⟩, ⟨3, [], []⟩, ⟨4, [], []⟩, ⟨5, [], []⟩, ⟨6, [], []⟩, ⟨7, [], []⟩]]) (notIn []) rfl rfl (by kernel_rfl) (And.intro (Bool.eq_false_iff.mpr h0) (And.intro (decide_eq_false h1) (And.intro h2 (And.intro (decide_eq_false h3) (And.intro (decide_eq_false h3) (And.intro (Eq.refl ([⟨0, [], []⟩, ⟨1, [], []⟩, ⟨2, [], []⟩, ⟨3, [], []⟩, ⟨4, [], []⟩, ⟨5, [], []⟩, ⟨6, [], []⟩, ⟨7, [], []⟩] : List Foot)) True.intro))))))
      · skip
        obtain ⟨r3, h3, h⟩ := Option.bind_eq_some_iff.mp h
        have h3 := F88_ok (m + 0) (z1124) r3 h3
        cases r3 with
        | a0 z1421 =>
          rcases ite_eq h with ⟨h4, h⟩ | ⟨h4, h⟩
          · skip
            cases h
          · skip
            rcases ite_eq h with ⟨h5, h⟩ | ⟨h5, h⟩
            · skip
              cases h
            · skip
              rcases ite_eq h with ⟨h6, h⟩ | ⟨h6, h⟩
              · skip
                cases h
              · skip
                obtain ⟨r7, h7, h⟩ := Option.bind_eq_some_iff.mp h
                obtain ⟨st7, h7, hr7⟩ := L87_0_ok m 18446744073709551616 (IntKind.wrap IntKind.u64 (z1124 * 2 ^ min (Int.toNat (IntKind.wrap IntKind.u64 z1421)) 64)) (IntKind.wrap IntKind.u64 z1421) (Int.fdiv (IntKind.wrap IntKind.u64 (z1124 * 2 ^ min (Int.toNat (IntKind.wrap IntKind.u64 z1421)) 64)) 4294967296) (IntKind.wrap IntKind.u64 (↑(BitVec.toNat (BitVec.ofInt (IntKind.bits IntKind.u64) (IntKind.wrap IntKind.u64 (z1124 * 2 ^ min (Int.toNat (IntKind.wrap IntKind.u64 z1421)) 64)) &&& BitVec.ofInt (IntKind.bits IntKind.u64) 4294967295)) : Int)) (IntKind.wrap IntKind.u64 (↑(BitVec.toNat (BitVec.ofInt (IntKind.bits IntKind.u64) (IntKind.wrap IntKind.u64 (z1122 * 2 ^ min (Int.toNat (IntKind.wrap IntKind.u64 z1421)) (IntKind.bits IntKind.u64))) ||| BitVec.ofInt (IntKind.bits IntKind.u64) (Int.fdiv z1123 (2 ^ min (Int.toNat (IntKind.wrap IntKind.u64 (64 - IntKind.wrap IntKind.u64 z1421))) (IntKind.bits IntKind.u64))))) : Int)) (Int.fdiv (IntKind.wrap IntKind.u64 (z1123 * 2 ^ min (Int.toNat (IntKind.wrap IntKind.u64 z1421)) 64)) 4294967296) (IntKind.wrap IntKind.u64 (↑(BitVec.toNat (BitVec.ofInt (IntKind.bits IntKind.u64) (IntKind.wrap IntKind.u64 (z1123 * 2 ^ min (Int.toNat (IntKind.wrap IntKind.u64 z1421)) 64)) &&& BitVec.ofInt (IntKind.bits IntKind.u64) 4294967295)) : Int)) (IntKind.wrap IntKind.u64 (Int.tdiv (IntKind.wrap IntKind.u64 (↑(BitVec.toNat (BitVec.ofInt (IntKind.bits IntKind.u64) (IntKind.wrap IntKind.u64 (z1122 * 2 ^ min (Int.toNat (IntKind.wrap IntKind.u64 z1421)) (IntKind.bits IntKind.u64))) ||| BitVec.ofInt (IntKind.bits IntKind.u64) (Int.fdiv z1123 (2 ^ min (Int.toNat (IntKind.wrap IntKind.u64 (64 - IntKind.wrap IntKind.u64 z1421))) (IntKind.bits IntKind.u64))))) : Int)) (Int.fdiv (IntKind.wrap IntKind.u64 (z1124 * 2 ^ min (Int.toNat (IntKind.wrap IntKind.u64 z1421)) 64)) 4294967296))) (IntKind.wrap IntKind.u64 (IntKind.wrap IntKind.u64 (↑(BitVec.toNat (BitVec.ofInt (IntKind.bits IntKind.u64) (IntKind.wrap IntKind.u64 (z1122 * 2 ^ min (Int.toNat (IntKind.wrap IntKind.u64 z1421)) (IntKind.bits IntKind.u64))) ||| BitVec.ofInt (IntKind.bits IntKind.u64) (Int.fdiv z1123 (2 ^ min (Int.toNat (IntKind.wrap IntKind.u64 (64 - IntKind.wrap IntKind.u64 z1421))) (IntKind.bits IntKind.u64))))) : Int) - IntKind.wrap IntKind.u64 (IntKind.wrap IntKind.u64 (Int.tdiv (IntKind.wrap IntKind.u64 (↑(BitVec.toNat (BitVec.ofInt (IntKind.bits IntKind.u64) (IntKind.wrap IntKind.u64 (z1122 * 2 ^ min (Int.toNat (IntKind.wrap IntKind.u64 z1421)) (IntKind.bits IntKind.u64))) ||| BitVec.ofInt (IntKind.bits IntKind.u64) (Int.fdiv z1123 (2 ^ min (Int.toNat (IntKind.wrap IntKind.u64 (64 - IntKind.wrap IntKind.u64 z1421))) (IntKind.bits IntKind.u64))))) : Int)) (Int.fdiv (IntKind.wrap IntKind.u64 (z1124 * 2 ^ min (Int.toNat (IntKind.wrap IntKind.u64 z1421)) 64)) 4294967296)) * Int.fdiv (IntKind.wrap IntKind.u64 (z1124 * 2 ^ min (Int.toNat (IntKind.wrap IntKind.u64 z1421)) 64)) 4294967296))) r7 h7
                have h7 : loopRun Try.prog X (genO X (call Try.prog X O0 18446744073709551616 (m + 2))) 87 (0) 18446744073709551616 B87 0 ({ T := V.int IntKind.u64 z1122 :: V.int IntKind.u64 z1123 :: V.int IntKind.u64 (IntKind.wrap IntKind.u64 (z1124 * 2 ^ min (Int.toNat (IntKind.wrap IntKind.u64 z1421)) 64)) :: U :: U :: U :: V.int IntKind.u64 0 :: V.int IntKind.u64 0 :: V.int IntKind.u64 (IntKind.wrap IntKind.u64 z1421) :: V.int IntKind.u64 (Int.fdiv (IntKind.wrap IntKind.u64 (z1124 * 2 ^ min (Int.toNat (IntKind.wrap IntKind.u64 z1421)) 64)) 4294967296) :: V.int IntKind.u64 (IntKind.wrap IntKind.u64 (↑(BitVec.toNat (BitVec.ofInt (IntKind.bits IntKind.u64) (IntKind.wrap IntKind.u64 (z1124 * 2 ^ min (Int.toNat (IntKind.wrap IntKind.u64 z1421)) 64)) &&& BitVec.ofInt (IntKind.bits IntKind.u64) 4294967295)) : Int)) :: V.int IntKind.u64 (IntKind.wrap IntKind.u64 (↑(BitVec.toNat (BitVec.ofInt (IntKind.bits IntKind.u64) (IntKind.wrap IntKind.u64 (z1122 * 2 ^ min (Int.toNat (IntKind.wrap IntKind.u64 z1421)) (IntKind.bits IntKind.u64))) ||| BitVec.ofInt (IntKind.bits IntKind.u64) (Int.fdiv z1123 (2 ^ min (Int.toNat (IntKind.wrap IntKind.u64 (64 - IntKind.wrap IntKind.u64 z1421))) (IntKind.bits IntKind.u64))))) : Int)) :: V.int IntKind.u64 (IntKind.wrap IntKind.u64 (z1123 * 2 ^ min (Int.toNat (IntKind.wrap IntKind.u64 z1421)) 64)) :: V.int IntKind.u64 (Int.fdiv (IntKind.wrap IntKind.u64 (z1123 * 2 ^ min (Int.toNat (IntKind.wrap IntKind.u64 z1421)) 64)) 4294967296) :: V.int IntKind.u64 (IntKind.wrap IntKind.u64 (↑(BitVec.toNat (BitVec.ofInt (IntKind.bits IntKind.u64) (IntKind.wrap IntKind.u64 (z1123 * 2 ^ min (Int.toNat (IntKind.wrap IntKind.u64 z1421)) 64)) &&& BitVec.ofInt (IntKind.bits IntKind.u64) 4294967295)) : Int)) :: V.int IntKind.u64 (IntKind.wrap IntKind.u64 (Int.tdiv (IntKind.wrap IntKind.u64 (↑(BitVec.toNat (BitVec.ofInt (IntKind.bits IntKind.u64) (IntKind.wrap IntKind.u64 (z1122 * 2 ^ min (Int.toNat (IntKind.wrap IntKind.u64 z1421)) (IntKind.bits IntKind.u64))) ||| BitVec.ofInt (IntKind.bits IntKind.u64) (Int.fdiv z1123 (2 ^ min (Int.toNat (IntKind.wrap IntKind.u64 (64 - IntKind.wrap IntKind.u64 z1421))) (IntKind.bits IntKind.u64))))) : Int)) (Int.fdiv (IntKind.wrap IntKind.u64 (z1124 * 2 ^ min (Int.toNat (IntKind.wrap IntKind.u64 z1421)) 64)) 4294967296))) :: V.int IntKind.u64 (IntKind.wrap IntKind.u64 (IntKind.wrap IntKind.u64 (↑(BitVec.toNat (BitVec.ofInt (IntKind.bits IntKind.u64) (IntKind.wrap IntKind.u64 (z1122 * 2 ^ min (Int.toNat (IntKind.wrap IntKind.u64 z1421)) (IntKind.bits IntKind.u64))) ||| BitVec.ofInt (IntKind.bits IntKind.u64) (Int.fdiv z1123 (2 ^ min (Int.toNat (IntKind.wrap IntKind.u64 (64 - IntKind.wrap IntKind.u64 z1421))) (IntKind.bits IntKind.u64))))) : Int) - IntKind.wrap IntKind.u64 (IntKind.wrap IntKind.u64 (Int.tdiv (IntKind.wrap IntKind.u64 (↑(BitVec.toNat (BitVec.ofInt (IntKind.bits IntKind.u64) (IntKind.wrap IntKind.u64 (z1122 * 2 ^ min (Int.toNat (IntKind.wrap IntKind.u64 z1421)) (IntKind.bits IntKind.u64))) ||| BitVec.ofInt (IntKind.bits IntKind.u64) (Int.fdiv z1123 (2 ^ min (Int.toNat (IntKind.wrap IntKind.u64 (64 - IntKind.wrap IntKind.u64 z1421))) (IntKind.bits IntKind.u64))))) : Int)) (Int.fdiv (IntKind.wrap IntKind.u64 (z1124 * 2 ^ min (Int.toNat (IntKind.wrap IntKind.u64 z1421)) 64)) 4294967296)) * Int.fdiv (IntKind.wrap IntKind.u64 (z1124 * 2 ^ min (Int.toNat (IntKind.wrap IntKind.u64 z1421)) 64)) 4294967296))) :: U :: U :: V.int IntKind.u64 z1124 :: vb (z1124 == 0) :: U :: V.int IntKind.u64 z1124 :: V.int IntKind.u64 z1122 :: vb (decide (z1124 ≤ z1122)) :: U :: V.int IntKind.u64 z1122 :: vb (z1122 == 0) :: un 6 (V.int IntKind.u64 z1124 :: i64 z1421 :: V.int IntKind.u64 (IntKind.wrap IntKind.u64 z1421) :: V.int IntKind.u64 z1124 :: V.int IntKind.u64 (IntKind.wrap IntKind.u64 z1421) :: V.int IntKind.u64 (IntKind.wrap IntKind.u64 (z1124 * 2 ^ min (Int.toNat (IntKind.wrap IntKind.u64 z1421)) 64)) :: V.int IntKind.u64 (IntKind.wrap IntKind.u64 (z1124 * 2 ^ min (Int.toNat (IntKind.wrap IntKind.u64 z1421)) 64)) :: V.int IntKind.u64 (Int.fdiv (IntKind.wrap IntKind.u64 (z1124 * 2 ^ min (Int.toNat (IntKind.wrap IntKind.u64 z1421)) 64)) 4294967296) :: V.int IntKind.u64 (IntKind.wrap IntKind.u64 (z1124 * 2 ^ min (Int.toNat (IntKind.wrap IntKind.u64 z1421)) 64)) :: V.int IntKind.u64 (IntKind.wrap IntKind.u64 (↑(BitVec.toNat (BitVec.ofInt (IntKind.bits IntKind.u64) (IntKind.wrap IntKind.u64 (z1124 * 2 ^ min (Int.toNat (IntKind.wrap IntKind.u64 z1421)) 64)) &&& BitVec.ofInt (IntKind.bits IntKind.u64) 4294967295)) : Int)) :: V.int IntKind.u64 z1122 :: V.int IntKind.u64 (IntKind.wrap IntKind.u64 z1421) :: V.int IntKind.u64 (IntKind.wrap IntKind.u64 (z1122 * 2 ^ min (Int.toNat (IntKind.wrap IntKind.u64 z1421)) 64)) :: V.int IntKind.u64 z1123 :: V.int IntKind.u64 (IntKind.wrap IntKind.u64 z1421) :: V.int IntKind.u64 (IntKind.wrap IntKind.u64 (64 - IntKind.wrap IntKind.u64 z1421)) :: V.int IntKind.u64 (Int.fdiv z1123 (2 ^ min (Int.toNat (IntKind.wrap IntKind.u64 (64 - IntKind.wrap IntKind.u64 z1421))) 64)) :: V.int IntKind.u64 (IntKind.wrap IntKind.u64 (↑(BitVec.toNat (BitVec.ofInt (IntKind.bits IntKind.u64) (IntKind.wrap IntKind.u64 (z1122 * 2 ^ min (Int.toNat (IntKind.wrap IntKind.u64 z1421)) (IntKind.bits IntKind.u64))) ||| BitVec.ofInt (IntKind.bits IntKind.u64) (Int.fdiv z1123 (2 ^ min (Int.toNat (IntKind.wrap IntKind.u64 (64 - IntKind.wrap IntKind.u64 z1421))) (IntKind.bits IntKind.u64))))) : Int)) :: V.int IntKind.u64 z1123 :: V.int IntKind.u64 (IntKind.wrap IntKind.u64 z1421) :: V.int IntKind.u64 (IntKind.wrap IntKind.u64 (z1123 * 2 ^ min (Int.toNat (IntKind.wrap IntKind.u64 z1421)) 64)) :: V.int IntKind.u64 (IntKind.wrap IntKind.u64 (z1123 * 2 ^ min (Int.toNat (IntKind.wrap IntKind.u64 z1421)) 64)) :: V.int IntKind.u64 (Int.fdiv (IntKind.wrap IntKind.u64 (z1123 * 2 ^ min (Int.toNat (IntKind.wrap IntKind.u64 z1421)) 64)) 4294967296) :: V.int IntKind.u64 (IntKind.wrap IntKind.u64 (z1123 * 2 ^ min (Int.toNat (IntKind.wrap IntKind.u64 z1421)) 64)) :: V.int IntKind.u64 (IntKind.wrap IntKind.u64 (↑(BitVec.toNat (BitVec.ofInt (IntKind.bits IntKind.u64) (IntKind.wrap IntKind.u64 (z1123 * 2 ^ min (Int.toNat (IntKind.wrap IntKind.u64 z1421)) 64)) &&& BitVec.ofInt (IntKind.bits IntKind.u64) 4294967295)) : Int)) :: V.int IntKind.u64 (IntKind.wrap IntKind.u64 (↑(BitVec.toNat (BitVec.ofInt (IntKind.bits IntKind.u64) (IntKind.wrap IntKind.u64 (z1122 * 2 ^ min (Int.toNat (IntKind.wrap IntKind.u64 z1421)) (IntKind.bits IntKind.u64))) ||| BitVec.ofInt (IntKind.bits IntKind.u64) (Int.fdiv z1123 (2 ^ min (Int.toNat (IntKind.wrap IntKind.u64 (64 - IntKind.wrap IntKind.u64 z1421))) (IntKind.bits IntKind.u64))))) : Int)) :: V.int IntKind.u64 (Int.fdiv (IntKind.wrap IntKind.u64 (z1124 * 2 ^ min (Int.toNat (IntKind.wrap IntKind.u64 z1421)) 64)) 4294967296) :: V.int IntKind.u64 (IntKind.wrap IntKind.u64 (Int.tdiv (IntKind.wrap IntKind.u64 (↑(BitVec.toNat (BitVec.ofInt (IntKind.bits IntKind.u64) (IntKind.wrap IntKind.u64 (z1122 * 2 ^ min (Int.toNat (IntKind.wrap IntKind.u64 z1421)) (IntKind.bits IntKind.u64))) ||| BitVec.ofInt (IntKind.bits IntKind.u64) (Int.fdiv z1123 (2 ^ min (Int.toNat (IntKind.wrap IntKind.u64 (64 - IntKind.wrap IntKind.u64 z1421))) (IntKind.bits IntKind.u64))))) : Int)) (Int.fdiv (IntKind.wrap IntKind.u64 (z1124 * 2 ^ min (Int.toNat (IntKind.wrap IntKind.u64 z1421)) 64)) 4294967296))) :: V.int IntKind.u64 (IntKind.wrap IntKind.u64 (↑(BitVec.toNat (BitVec.ofInt (IntKind.bits IntKind.u64) (IntKind.wrap IntKind.u64 (z1122 * 2 ^ min (Int.toNat (IntKind.wrap IntKind.u64 z1421)) (IntKind.bits IntKind.u64))) ||| BitVec.ofInt (IntKind.bits IntKind.u64) (Int.fdiv z1123 (2 ^ min (Int.toNat (IntKind.wrap IntKind.u64 (64 - IntKind.wrap IntKind.u64 z1421))) (IntKind.bits IntKind.u64))))) : Int)) :: V.int IntKind.u64 (IntKind.wrap IntKind.u64 (Int.tdiv (IntKind.wrap IntKind.u64 (↑(BitVec.toNat (BitVec.ofInt (IntKind.bits IntKind.u64) (IntKind.wrap IntKind.u64 (z1122 * 2 ^ min (Int.toNat (IntKind.wrap IntKind.u64 z1421)) (IntKind.bits IntKind.u64))) ||| BitVec.ofInt (IntKind.bits IntKind.u64) (Int.fdiv z1123 (2 ^ min (Int.toNat (IntKind.wrap IntKind.u64 (64 - IntKind.wrap IntKind.u64 z1421))) (IntKind.bits IntKind.u64))))) : Int)) (Int.fdiv (IntKind.wrap IntKind.u64 (z1124 * 2 ^ min (Int.toNat (IntKind.wrap IntKind.u64 z1421)) 64)) 4294967296))) :: V.int IntKind.u64 (Int.fdiv (IntKind.wrap IntKind.u64 (z1124 * 2 ^ min (Int.toNat (IntKind.wrap IntKind.u64 z1421)) 64)) 4294967296) :: V.int IntKind.u64 (IntKind.wrap IntKind.u64 (IntKind.wrap IntKind.u64 (Int.tdiv (IntKind.wrap IntKind.u64 (↑(BitVec.toNat (BitVec.ofInt (IntKind.bits IntKind.u64) (IntKind.wrap IntKind.u64 (z1122 * 2 ^ min (Int.toNat (IntKind.wrap IntKind.u64 z1421)) (IntKind.bits IntKind.u64))) ||| BitVec.ofInt (IntKind.bits IntKind.u64) (Int.fdiv z1123 (2 ^ min (Int.toNat (IntKind.wrap IntKind.u64 (64 - IntKind.wrap IntKind.u64 z1421))) (IntKind.bits IntKind.u64))))) : Int)) (Int.fdiv (IntKind.wrap IntKind.u64 (z1124 * 2 ^ min (Int.toNat (IntKind.wrap IntKind.u64 z1421)) 64)) 4294967296)) * Int.fdiv (IntKind.wrap IntKind.u64 (z1124 * 2 ^ min (Int.toNat (IntKind.wrap IntKind.u64 z1421)) 64)) 4294967296)) :: V.int IntKind.u64 (IntKind.wrap IntKind.u64 (IntKind.wrap IntKind.u64 (↑(BitVec.toNat (BitVec.ofInt (IntKind.bits IntKind.u64) (IntKind.wrap IntKind.u64 (z1122 * 2 ^ min (Int.toNat (IntKind.wrap IntKind.u64 z1421)) (IntKind.bits IntKind.u64))) ||| BitVec.ofInt (IntKind.bits IntKind.u64) (Int.fdiv z1123 (2 ^ min (Int.toNat (IntKind.wrap IntKind.u64 (64 - IntKind.wrap IntKind.u64 z1421))) (IntKind.bits IntKind.u64))))) : Int) - IntKind.wrap IntKind.u64 (IntKind.wrap IntKind.u64 (Int.tdiv (IntKind.wrap IntKind.u64 (↑(BitVec.toNat (BitVec.ofInt (IntKind.bits IntKind.u64) (IntKind.wrap IntKind.u64 (z1122 * 2 ^ min (Int.toNat (IntKind.wrap IntKind.u64 z1421)) (IntKind.bits IntKind.u64))) ||| BitVec.ofInt (IntKind.bits IntKind.u64) (Int.fdiv z1123 (2 ^ min (Int.toNat (IntKind.wrap IntKind.u64 (64 - IntKind.wrap IntKind.u64 z1421))) (IntKind.bits IntKind.u64))))) : Int)) (Int.fdiv (IntKind.wrap IntKind.u64 (z1124 * 2 ^ min (Int.toNat (IntKind.wrap IntKind.u64 z1421)) 64)) 4294967296)) * Int.fdiv (IntKind.wrap IntKind.u64 (z1124 * 2 ^ min (Int.toNat (IntKind.wrap IntKind.u64 z1421)) 64)) 4294967296))) :: un 68 []), σ := [] }) = some st7 := by
                  rw [loopRun_from, show pre X 87 (0) 0 ({ T := V.int IntKind.u64 z1122 :: V.int IntKind.u64 z1123 :: V.int IntKind.u64 (IntKind.wrap IntKind.u64 (z1124 * 2 ^ min (Int.toNat (IntKind.wrap IntKind.u64 z1421)) 64)) :: U :: U :: U :: V.int IntKind.u64 0 :: V.int IntKind.u64 0 :: V.int IntKind.u64 (IntKind.wrap IntKind.u64 z1421) :: V.int IntKind.u64 (Int.fdiv (IntKind.wrap IntKind.u64 (z1124 * 2 ^ min (Int.toNat (IntKind.wrap IntKind.u64 z1421)) 64)) 4294967296) :: V.int IntKind.u64 (IntKind.wrap IntKind.u64 (↑(BitVec.toNat (BitVec.ofInt (IntKind.bits IntKind.u64) (IntKind.wrap IntKind.u64 (z1124 * 2 ^ min (Int.toNat (IntKind.wrap IntKind.u64 z1421)) 64)) &&& BitVec.ofInt (IntKind.bits IntKind.u64) 4294967295)) : Int)) :: V.int IntKind.u64 (IntKind.wrap IntKind.u64 (↑(BitVec.toNat (BitVec.ofInt (IntKind.bits IntKind.u64) (IntKind.wrap IntKind.u64 (z1122 * 2 ^ min (Int.toNat (IntKind.wrap IntKind.u64 z1421)) (IntKind.bits IntKind.u64))) ||| BitVec.ofInt (IntKind.bits IntKind.u64) (Int.fdiv z1123 (2 ^ min (Int.toNat (IntKind.wrap IntKind.u64 (64 - IntKind.wrap IntKind.u64 z1421))) (IntKind.bits IntKind.u64))))) : Int)) :: V.int IntKind.u64 (IntKind.wrap IntKind.u64 (z1123 * 2 ^ min (Int.toNat (IntKind.wrap IntKind.u64 z1421)) 64)) :: V.int IntKind.u64 (Int.fdiv (IntKind.wrap IntKind.u64 (z1123 * 2 ^ min (Int.toNat (IntKind.wrap IntKind.u64 z1421)) 64)) 4294967296) :: V.int IntKind.u64 (IntKind.wrap IntKind.u64 (↑(BitVec.toNat (BitVec.ofInt (IntKind.bits IntKind.u64) (IntKind.wrap IntKind.u64 (z1123 * 2 ^ min (Int.toNat (IntKind.wrap IntKind.u64 z1421)) 64)) &&& BitVec.ofInt (IntKind.bits IntKind.u64) 4294967295)) : Int)) :: V.int IntKind.u64 (IntKind.wrap IntKind.u64 (Int.tdiv (IntKind.wrap IntKind.u64 (↑(BitVec.toNat (BitVec.ofInt (IntKind.bits IntKind.u64) (IntKind.wrap IntKind.u64 (z1122 * 2 ^ min (Int.toNat (IntKind.wrap IntKind.u64 z1421)) (IntKind.bits IntKind.u64))) ||| BitVec.ofInt (IntKind.bits IntKind.u64) (Int.fdiv z1123 (2 ^ min (Int.toNat (IntKind.wrap IntKind.u64 (64 - IntKind.wrap IntKind.u64 z1421))) (IntKind.bits IntKind.u64))))) : Int)) (Int.fdiv (IntKind.wrap IntKind.u64 (z1124 * 2 ^ min (Int.toNat (IntKind.wrap IntKind.u64 z1421)) 64)) 4294967296))) :: V.int IntKind.u64 (IntKind.wrap IntKind.u64 (IntKind.wrap IntKind.u64 (↑(BitVec.toNat (BitVec.ofInt (IntKind.bits IntKind.u64) (IntKind.wrap IntKind.u64 (z1122 * 2 ^ min (Int.toNat (IntKind.wrap IntKind.u64 z1421)) (IntKind.bits IntKind.u64))) ||| BitVec.ofInt (IntKind.bits IntKind.u64) (Int.fdiv z1123 (2 ^ min (Int.toNat (IntKind.wrap IntKind.u64 (64 - IntKind.wrap IntKind.u64 z1421))) (IntKind.bits IntKind.u64))))) : Int) - IntKind.wrap IntKind.u64 (IntKind.wrap IntKind.u64 (Int.tdiv (IntKind.wrap IntKind.u64 (↑(BitVec.toNat (BitVec.ofInt (IntKind.bits IntKind.u64) (IntKind.wrap IntKind.u64 (z1122 * 2 ^ min (Int.toNat (IntKind.wrap IntKind.u64 z1421)) (IntKind.bits IntKind.u64))) ||| BitVec.ofInt (IntKind.bits IntKind.u64) (Int.fdiv z1123 (2 ^ min (Int.toNat (IntKind.wrap IntKind.u64 (64 - IntKind.wrap IntKind.u64 z1421))) (IntKind.bits IntKind.u64))))) : Int)) (Int.fdiv (IntKind.wrap IntKind.u64 (z1124 * 2 ^ min (Int.toNat (IntKind.wrap IntKind.u64 z1421)) 64)) 4294967296)) * Int.fdiv (IntKind.wrap IntKind.u64 (z1124 * 2 ^ min (Int.toNat (IntKind.wrap IntKind.u64 z1421)) 64)) 4294967296))) :: U :: U :: V.int IntKind.u64 z1124 :: vb (z1124 == 0) :: U :: V.int IntKind.u64 z1124 :: V.int IntKind.u64 z1122 :: vb (decide (z1124 ≤ z1122)) :: U :: V.int IntKind.u64 z1122 :: vb (z1122 == 0) :: un 6 (V.int IntKind.u64 z1124 :: i64 z1421 :: V.int IntKind.u64 (IntKind.wrap IntKind.u64 z1421) :: V.int IntKind.u64 z1124 :: V.int IntKind.u64 (IntKind.wrap IntKind.u64 z1421) :: V.int IntKind.u64 (IntKind.wrap IntKind.u64 (z1124 * 2 ^ min (Int.toNat (IntKind.wrap IntKind.u64 z1421)) 64)) :: V.int IntKind.u64 (IntKind.wrap IntKind.u64 (z1124 * 2 ^ min (Int.toNat (IntKind.wrap IntKind.u64 z1421)) 64)) :: V.int IntKind.u64 (Int.fdiv (IntKind.wrap IntKind.u64 (z1124 * 2 ^ min (Int.toNat (IntKind.wrap IntKind.u64 z1421)) 64)) 4294967296) :: V.int IntKind.u64 (IntKind.wrap IntKind.u64 (z1124 * 2 ^ min (Int.toNat (IntKind.wrap IntKind.u64 z1421)) 64)) :: V.int IntKind.u64 (IntKind.wrap IntKind.u64 (↑(BitVec.toNat (BitVec.ofInt (IntKind.bits IntKind.u64) (IntKind.wrap IntKind.u64 (z1124 * 2 ^ min (Int.toNat (IntKind.wrap IntKind.u64 z1421)) 64)) &&& BitVec.ofInt (IntKind.bits IntKind.u64) 4294967295)) : Int)) :: V.int IntKind.u64 z1122 :: V.int IntKind.u64 (IntKind.wrap IntKind.u64 z1421) :: V.int IntKind.u64 (IntKind.wrap IntKind.u64 (z1122 * 2 ^ min (Int.toNat (IntKind.wrap IntKind.u64 z1421)) 64)) :: V.int IntKind.u64 z1123 :: V.int IntKind.u64 (IntKind.wrap IntKind.u64 z1421) :: V.int IntKind.u64 (IntKind.wrap IntKind.u64 (64 - IntKind.wrap IntKind.u64 z1421)) :: V.int IntKind.u64 (Int.fdiv z1123 (2 ^ min (Int.toNat (IntKind.wrap IntKind.u64 (64 - IntKind.wrap IntKind.u64 z1421))) 64)) :: V.int IntKind.u64 (IntKind.wrap IntKind.u64 (↑(BitVec.toNat (BitVec.ofInt (IntKind.bits IntKind.u64) (IntKind.wrap IntKind.u64 (z1122 * 2 ^ min (Int.toNat (IntKind.wrap IntKind.u64 z1421)) (IntKind.bits IntKind.u64))) ||| BitVec.ofInt (IntKind.bits IntKind.u64) (Int.fdiv z1123 (2 ^ min (Int.toNat (IntKind.wrap IntKind.u64 (64 - IntKind.wrap IntKind.u64 z1421))) (IntKind.bits IntKind.u64))))) : Int)) :: V.int IntKind.u64 z1123 :: V.int IntKind.u64 (IntKind.wrap IntKind.u64 z1421) :: V.int IntKind.u64 (IntKind.wrap IntKind.u64 (z1123 * 2 ^ min (Int.toNat (IntKind.wrap IntKind.u64 z1421)) 64)) :: V.int IntKind.u64 (IntKind.wrap IntKind.u64 (z1123 * 2 ^ min (Int.toNat (IntKind.wrap IntKind.u64 z1421)) 64)) :: V.int IntKind.u64 (Int.fdiv (IntKind.wrap IntKind.u64 (z1123 * 2 ^ min (Int.toNat (IntKind.wrap IntKind.u64 z1421)) 64)) 4294967296) :: V.int IntKind.u64 (IntKind.wrap IntKind.u64 (z1123 * 2 ^ min (Int.toNat (IntKind.wrap IntKind.u64 z1421)) 64)) :: V.int IntKind.u64 (IntKind.wrap IntKind.u64 (↑(BitVec.toNat (BitVec.ofInt (IntKind.bits IntKind.u64) (IntKind.wrap IntKind.u64 (z1123 * 2 ^ min (Int.toNat (IntKind.wrap IntKind.u64 z1421)) 64)) &&& BitVec.ofInt (IntKind.bits IntKind.u64) 4294967295)) : Int)) :: V.int IntKind.u64 (IntKind.wrap IntKind.u64 (↑(BitVec.toNat (BitVec.ofInt (IntKind.bits IntKind.u64) (IntKind.wrap IntKind.u64 (z1122 * 2 ^ min (Int.toNat (IntKind.wrap IntKind.u64 z1421)) (IntKind.bits IntKind.u64))) ||| BitVec.ofInt (IntKind.bits IntKind.u64) (Int.fdiv z1123 (2 ^ min (Int.toNat (IntKind.wrap IntKind.u64 (64 - IntKind.wrap IntKind.u64 z1421))) (IntKind.bits IntKind.u64))))) : Int)) :: V.int IntKind.u64 (Int.fdiv (IntKind.wrap IntKind.u64 (z1124 * 2 ^ min (Int.toNat (IntKind.wrap IntKind.u64 z1421)) 64)) 4294967296) :: V.int IntKind.u64 (IntKind.wrap IntKind.u64 (Int.tdiv (IntKind.wrap IntKind.u64 (↑(BitVec.toNat (BitVec.ofInt (IntKind.bits IntKind.u64) (IntKind.wrap IntKind.u64 (z1122 * 2 ^ min (Int.toNat (IntKind.wrap IntKind.u64 z1421)) (IntKind.bits IntKind.u64))) ||| BitVec.ofInt (IntKind.bits IntKind.u64) (Int.fdiv z1123 (2 ^ min (Int.toNat (IntKind.wrap IntKind.u64 (64 - IntKind.wrap IntKind.u64 z1421))) (IntKind.bits IntKind.u64))))) : Int)) (Int.fdiv (IntKind.wrap IntKind.u64 (z1124 * 2 ^ min (Int.toNat (IntKind.wrap IntKind.u64 z1421)) 64)) 4294967296))) :: V.int IntKind.u64 (IntKind.wrap IntKind.u64 (↑(BitVec.toNat (BitVec.ofInt (IntKind.bits IntKind.u64) (IntKind.wrap IntKind.u64 (z1122 * 2 ^ min (Int.toNat (IntKind.wrap IntKind.u64 z1421)) (IntKind.bits IntKind.u64))) ||| BitVec.ofInt (IntKind.bits IntKind.u64) (Int.fdiv z1123 (2 ^ min (Int.toNat (IntKind.wrap IntKind.u64 (64 - IntKind.wrap IntKind.u64 z1421))) (IntKind.bits IntKind.u64))))) : Int)) :: V.int IntKind.u64 (IntKind.wrap IntKind.u64 (Int.tdiv (IntKind.wrap IntKind.u64 (↑(BitVec.toNat (BitVec.ofInt (IntKind.bits IntKind.u64) (IntKind.wrap IntKind.u64 (z1122 * 2 ^ min (Int.toNat (IntKind.wrap IntKind.u64 z1421)) (IntKind.bits IntKind.u64))) ||| BitVec.ofInt (IntKind.bits IntKind.u64) (Int.fdiv z1123 (2 ^ min (Int.toNat (IntKind.wrap IntKind.u64 (64 - IntKind.wrap IntKind.u64 z1421))) (IntKind.bits IntKind.u64))))) : Int)) (Int.fdiv (IntKind.wrap IntKind.u64 (z1124 * 2 ^ min (Int.toNat (IntKind.wrap IntKind.u64 z1421)) 64)) 4294967296))) :: V.int IntKind.u64 (Int.fdiv (IntKind.wrap IntKind.u64 (z1124 * 2 ^ min (Int.toNat (IntKind.wrap IntKind.u64 z1421)) 64)) 4294967296) :: V.int IntKind.u64 (IntKind.wrap IntKind.u64 (IntKind.wrap IntKind.u64 (Int.tdiv (IntKind.wrap IntKind.u64 (↑(BitVec.toNat (BitVec.ofInt (IntKind.bits IntKind.u64) (IntKind.wrap IntKind.u64 (z1122 * 2 ^ min (Int.toNat (IntKind.wrap IntKind.u64 z1421)) (IntKind.bits IntKind.u64))) ||| BitVec.ofInt (IntKind.bits IntKind.u64) (Int.fdiv z1123 (2 ^ min (Int.toNat (IntKind.wrap IntKind.u64 (64 - IntKind.wrap IntKind.u64 z1421))) (IntKind.bits IntKind.u64))))) : Int)) (Int.fdiv (IntKind.wrap IntKind.u64 (z1124 * 2 ^ min (Int.toNat (IntKind.wrap IntKind.u64 z1421)) 64)) 4294967296)) * Int.fdiv (IntKind.wrap IntKind.u64 (z1124 * 2 ^ min (Int.toNat (IntKind.wrap IntKind.u64 z1421)) 64)) 4294967296)) :: V.int IntKind.u64 (IntKind.wrap IntKind.u64 (IntKind.wrap IntKind.u64 (↑(BitVec.toNat (BitVec.ofInt (IntKind.bits IntKind.u64) (IntKind.wrap IntKind.u64 (z1122 * 2 ^ min (Int.toNat (IntKind.wrap IntKind.u64 z1421)) (IntKind.bits IntKind.u64))) ||| BitVec.ofInt (IntKind.bits IntKind.u64) (Int.fdiv z1123 (2 ^ min (Int.toNat (IntKind.wrap IntKind.u64 (64 - IntKind.wrap IntKind.u64 z1421))) (IntKind.bits IntKind.u64))))) : Int) - IntKind.wrap IntKind.u64 (IntKind.wrap IntKind.u64 (Int.tdiv (IntKind.wrap IntKind.u64 (↑(BitVec.toNat (BitVec.ofInt (IntKind.bits IntKind.u64) (IntKind.wrap IntKind.u64 (z1122 * 2 ^ min (Int.toNat (IntKind.wrap IntKind.u64 z1421)) (IntKind.bits IntKind.u64))) ||| BitVec.ofInt (IntKind.bits IntKind.u64) (Int.fdiv z1123 (2 ^ min (Int.toNat (IntKind.wrap IntKind.u64 (64 - IntKind.wrap IntKind.u64 z1421))) (IntKind.bits IntKind.u64))))) : Int)) (Int.fdiv (IntKind.wrap IntKind.u64 (z1124 * 2 ^ min (Int.toNat (IntKind.wrap IntKind.u64 z1421)) 64)) 4294967296)) * Int.fdiv (IntKind.wrap IntKind.u64 (z1124 * 2 ^ min (Int.toNat (IntKind.wrap IntKind.u64 z1421)) 64)) 4294967296))) :: un 68 []), σ := [] }) = { T := U :: U :: V.int IntKind.u64 (IntKind.wrap IntKind.u64 (z1124 * 2 ^ min (Int.toNat (IntKind.wrap IntKind.u64 z1421)) 64)) :: un 5 (V.int IntKind.u64 (IntKind.wrap IntKind.u64 z1421) :: V.int IntKind.u64 (Int.fdiv (IntKind.wrap IntKind.u64 (z1124 * 2 ^ min (Int.toNat (IntKind.wrap IntKind.u64 z1421)) 64)) 4294967296) :: V.int IntKind.u64 (IntKind.wrap IntKind.u64 (↑(BitVec.toNat (BitVec.ofInt (IntKind.bits IntKind.u64) (IntKind.wrap IntKind.u64 (z1124 * 2 ^ min (Int.toNat (IntKind.wrap IntKind.u64 z1421)) 64)) &&& BitVec.ofInt (IntKind.bits IntKind.u64) 4294967295)) : Int)) :: V.int IntKind.u64 (IntKind.wrap IntKind.u64 (↑(BitVec.toNat (BitVec.ofInt (IntKind.bits IntKind.u64) (IntKind.wrap IntKind.u64 (z1122 * 2 ^ min (Int.toNat (IntKind.wrap IntKind.u64 z1421)) (IntKind.bits IntKind.u64))) ||| BitVec.ofInt (IntKind.bits IntKind.u64) (Int.fdiv z1123 (2 ^ min (Int.toNat (IntKind.wrap IntKind.u64 (64 - IntKind.wrap IntKind.u64 z1421))) (IntKind.bits IntKind.u64))))) : Int)) :: U :: V.int IntKind.u64 (Int.fdiv (IntKind.wrap IntKind.u64 (z1123 * 2 ^ min (Int.toNat (IntKind.wrap IntKind.u64 z1421)) 64)) 4294967296) :: V.int IntKind.u64 (IntKind.wrap IntKind.u64 (↑(BitVec.toNat (BitVec.ofInt (IntKind.bits IntKind.u64) (IntKind.wrap IntKind.u64 (z1123 * 2 ^ min (Int.toNat (IntKind.wrap IntKind.u64 z1421)) 64)) &&& BitVec.ofInt (IntKind.bits IntKind.u64) 4294967295)) : Int)) :: V.int IntKind.u64 (IntKind.wrap IntKind.u64 (Int.tdiv (IntKind.wrap IntKind.u64 (↑(BitVec.toNat (BitVec.ofInt (IntKind.bits IntKind.u64) (IntKind.wrap IntKind.u64 (z1122 * 2 ^ min (Int.toNat (IntKind.wrap IntKind.u64 z1421)) (IntKind.bits IntKind.u64))) ||| BitVec.ofInt (IntKind.bits IntKind.u64) (Int.fdiv z1123 (2 ^ min (Int.toNat (IntKind.wrap IntKind.u64 (64 - IntKind.wrap IntKind.u64 z1421))) (IntKind.bits IntKind.u64))))) : Int)) (Int.fdiv (IntKind.wrap IntKind.u64 (z1124 * 2 ^ min (Int.toNat (IntKind.wrap IntKind.u64 z1421)) 64)) 4294967296))) :: V.int IntKind.u64 (IntKind.wrap IntKind.u64 (IntKind.wrap IntKind.u64 (↑(BitVec.toNat (BitVec.ofInt (IntKind.bits IntKind.u64) (IntKind.wrap IntKind.u64 (z1122 * 2 ^ min (Int.toNat (IntKind.wrap IntKind.u64 z1421)) (IntKind.bits IntKind.u64))) ||| BitVec.ofInt (IntKind.bits IntKind.u64) (Int.fdiv z1123 (2 ^ min (Int.toNat (IntKind.wrap IntKind.u64 (64 - IntKind.wrap IntKind.u64 z1421))) (IntKind.bits IntKind.u64))))) : Int) - IntKind.wrap IntKind.u64 (IntKind.wrap IntKind.u64 (Int.tdiv (IntKind.wrap IntKind.u64 (↑(BitVec.toNat (BitVec.ofInt (IntKind.bits IntKind.u64) (IntKind.wrap IntKind.u64 (z1122 * 2 ^ min (Int.toNat (IntKind.wrap IntKind.u64 z1421)) (IntKind.bits IntKind.u64))) ||| BitVec.ofInt (IntKind.bits IntKind.u64) (Int.fdiv z1123 (2 ^ min (Int.toNat (IntKind.wrap IntKind.u64 (64 - IntKind.wrap IntKind.u64 z1421))) (IntKind.bits IntKind.u64))))) : Int)) (Int.fdiv (IntKind.wrap IntKind.u64 (z1124 * 2 ^ min (Int.toNat (IntKind.wrap IntKind.u64 z1421)) 64)) 4294967296)) * Int.fdiv (IntKind.wrap IntKind.u64 (z1124 * 2 ^ min (Int.toNat (IntKind.wrap IntKind.u64 z1421)) 64)) 4294967296))) :: un 118 []), σ := [] } by kernel_rfl]
                  exact h7
                cases r7 with
                | e0 z1466 z1467 z1468 z1469 z1470 z1471 z1472 z1473 =>
                  obtain ⟨z1474, z1475, b1476, z1477, b1478, rfl⟩ := hr7
                  rcases ite_eq h with ⟨h8, h⟩ | ⟨h8, h⟩
                  · skip
                    cases h
                  · skip
                    obtain ⟨r9, h9, h⟩ := Option.bind_eq_some_iff.mp h
                    obtain ⟨st9, h9, hr9⟩ := L87_2_ok m 18446744073709551616 (z1466) (z1467) (z1468) (z1469) (z1472) (z1473) (IntKind.wrap IntKind.u64 (IntKind.wrap IntKind.u64 (IntKind.wrap IntKind.u64 (IntKind.wrap IntKind.u64 (z1470 * 4294967296) + z1471) - IntKind.wrap IntKind.u64 (z1473 * z1466)) - IntKind.wrap IntKind.u64 (IntKind.wrap IntKind.u64 (Int.tdiv (IntKind.wrap IntKind.u64 (IntKind.wrap IntKind.u64 (IntKind.wrap IntKind.u64 (z1470 * 4294967296) + z1471) - IntKind.wrap IntKind.u64 (z1473 * z1466))) z1468) * z1468))) (IntKind.wrap IntKind.u64 (IntKind.wrap IntKind.u64 (IntKind.wrap IntKind.u64 (z1470 * 4294967296) + z1471) - IntKind.wrap IntKind.u64 (z1473 * z1466))) (IntKind.wrap IntKind.u64 (Int.tdiv (IntKind.wrap IntKind.u64 (IntKind.wrap IntKind.u64 (IntKind.wrap IntKind.u64 (z1470 * 4294967296) + z1471) - IntKind.wrap IntKind.u64 (z1473 * z1466))) z1468)) r9 h9
                    have h9 : loopRun Try.prog X (genO X (call Try.prog X O0 18446744073709551616 (m + 2))) 87 (0) 18446744073709551616 B87 2 ({ T := U :: U :: V.int IntKind.u64 z1466 :: un 5 (V.int IntKind.u64 z1467 :: V.int IntKind.u64 z1468 :: V.int IntKind.u64 z1469 :: V.int IntKind.u64 z1470 :: U :: V.int IntKind.u64 z1471 :: V.int IntKind.u64 z1472 :: V.int IntKind.u64 z1473 :: V.int IntKind.u64 (IntKind.wrap IntKind.u64 (IntKind.wrap IntKind.u64 (IntKind.wrap IntKind.u64 (IntKind.wrap IntKind.u64 (z1470 * 4294967296) + z1471) - IntKind.wrap IntKind.u64 (z1473 * z1466)) - IntKind.wrap IntKind.u64 (IntKind.wrap IntKind.u64 (Int.tdiv (IntKind.wrap IntKind.u64 (IntKind.wrap IntKind.u64 (IntKind.wrap IntKind.u64 (z1470 * 4294967296) + z1471) - IntKind.wrap IntKind.u64 (z1473 * z1466))) z1468) * z1468))) :: V.int IntKind.u64 (IntKind.wrap IntKind.u64 (IntKind.wrap IntKind.u64 (IntKind.wrap IntKind.u64 (z1470 * 4294967296) + z1471) - IntKind.wrap IntKind.u64 (z1473 * z1466))) :: V.int IntKind.u64 (IntKind.wrap IntKind.u64 (Int.tdiv (IntKind.wrap IntKind.u64 (IntKind.wrap IntKind.u64 (IntKind.wrap IntKind.u64 (z1470 * 4294967296) + z1471) - IntKind.wrap IntKind.u64 (z1473 * z1466))) z1468)) :: un 48 (V.int IntKind.u64 z1475 :: vb b1476 :: vb b1476 :: E :: E :: E :: E :: E :: E :: E :: E :: vb true :: V.int IntKind.u64 z1475 :: V.int IntKind.u64 z1473 :: V.int IntKind.u64 z1477 :: V.int IntKind.u64 z1468 :: V.int IntKind.u64 z1474 :: V.int IntKind.u64 z1474 :: vb b1478 :: V.int IntKind.u64 z1470 :: V.int IntKind.u64 (IntKind.wrap IntKind.u64 (z1470 * 4294967296)) :: V.int IntKind.u64 z1471 :: V.int IntKind.u64 (IntKind.wrap IntKind.u64 (IntKind.wrap IntKind.u64 (z1470 * 4294967296) + z1471)) :: V.int IntKind.u64 z1473 :: V.int IntKind.u64 z1466 :: V.int IntKind.u64 (IntKind.wrap IntKind.u64 (z1473 * z1466)) :: V.int IntKind.u64 (IntKind.wrap IntKind.u64 (IntKind.wrap IntKind.u64 (IntKind.wrap IntKind.u64 (z1470 * 4294967296) + z1471) - IntKind.wrap IntKind.u64 (z1473 * z1466))) :: V.int IntKind.u64 (IntKind.wrap IntKind.u64 (IntKind.wrap IntKind.u64 (IntKind.wrap IntKind.u64 (z1470 * 4294967296) + z1471) - IntKind.wrap IntKind.u64 (z1473 * z1466))) :: V.int IntKind.u64 z1468 :: V.int IntKind.u64 (IntKind.wrap IntKind.u64 (Int.tdiv (IntKind.wrap IntKind.u64 (IntKind.wrap IntKind.u64 (IntKind.wrap IntKind.u64 (z1470 * 4294967296) + z1471) - IntKind.wrap IntKind.u64 (z1473 * z1466))) z1468)) :: V.int IntKind.u64 (IntKind.wrap IntKind.u64 (IntKind.wrap IntKind.u64 (IntKind.wrap IntKind.u64 (z1470 * 4294967296) + z1471) - IntKind.wrap IntKind.u64 (z1473 * z1466))) :: V.int IntKind.u64 (IntKind.wrap IntKind.u64 (Int.tdiv (IntKind.wrap IntKind.u64 (IntKind.wrap IntKind.u64 (IntKind.wrap IntKind.u64 (z1470 * 4294967296) + z1471) - IntKind.wrap IntKind.u64 (z1473 * z1466))) z1468)) :: V.int IntKind.u64 z1468 :: V.int IntKind.u64 (IntKind.wrap IntKind.u64 (IntKind.wrap IntKind.u64 (Int.tdiv (IntKind.wrap IntKind.u64 (IntKind.wrap IntKind.u64 (IntKind.wrap IntKind.u64 (z1470 * 4294967296) + z1471) - IntKind.wrap IntKind.u64 (z1473 * z1466))) z1468) * z1468)) :: V.int IntKind.u64 (IntKind.wrap IntKind.u64 (IntKind.wrap IntKind.u64 (IntKind.wrap IntKind.u64 (IntKind.wrap IntKind.u64 (z1470 * 4294967296) + z1471) - IntKind.wrap IntKind.u64 (z1473 * z1466)) - IntKind.wrap IntKind.u64 (IntKind.wrap IntKind.u64 (Int.tdiv (IntKind.wrap IntKind.u64 (IntKind.wrap IntKind.u64 (IntKind.wrap IntKind.u64 (z1470 * 4294967296) + z1471) - IntKind.wrap IntKind.u64 (z1473 * z1466))) z1468) * z1468))) :: un 33 [])), σ := [] }) = some st9 := by
                      rw [loopRun_from, show pre X 87 (0) 2 ({ T := U :: U :: V.int IntKind.u64 z1466 :: un 5 (V.int IntKind.u64 z1467 :: V.int IntKind.u64 z1468 :: V.int IntKind.u64 z1469 :: V.int IntKind.u64 z1470 :: U :: V.int IntKind.u64 z1471 :: V.int IntKind.u64 z1472 :: V.int IntKind.u64 z1473 :: V.int IntKind.u64 (IntKind.wrap IntKind.u64 (IntKind.wrap IntKind.u64 (IntKind.wrap IntKind.u64 (IntKind.wrap IntKind.u64 (z1470 * 4294967296) + z1471) - IntKind.wrap IntKind.u64 (z1473 * z1466)) - IntKind.wrap IntKind.u64 (IntKind.wrap IntKind.u64 (Int.tdiv (IntKind.wrap IntKind.u64 (IntKind.wrap IntKind.u64 (IntKind.wrap IntKind.u64 (z1470 * 4294967296) + z1471) - IntKind.wrap IntKind.u64 (z1473 * z1466))) z1468) * z1468))) :: V.int IntKind.u64 (IntKind.wrap IntKind.u64 (IntKind.wrap IntKind.u64 (IntKind.wrap IntKind.u64 (z1470 * 4294967296) + z1471) - IntKind.wrap IntKind.u64 (z1473 * z1466))) :: V.int IntKind.u64 (IntKind.wrap IntKind.u64 (Int.tdiv (IntKind.wrap IntKind.u64 (IntKind.wrap IntKind.u64 (IntKind.wrap IntKind.u64 (z1470 * 4294967296) + z1471) - IntKind.wrap IntKind.u64 (z1473 * z1466))) z1468)) :: un 48 (V.int IntKind.u64 z1475 :: vb b1476 :: vb b1476 :: E :: E :: E :: E :: E :: E :: E :: E :: vb true :: V.int IntKind.u64 z1475 :: V.int IntKind.u64 z1473 :: V.int IntKind.u64 z1477 :: V.int IntKind.u64 z1468 :: V.int IntKind.u64 z1474 :: V.int IntKind.u64 z1474 :: vb b1478 :: V.int IntKind.u64 z1470 :: V.int IntKind.u64 (IntKind.wrap IntKind.u64 (z1470 * 4294967296)) :: V.int IntKind.u64 z1471 :: V.int IntKind.u64 (IntKind.wrap IntKind.u64 (IntKind.wrap IntKind.u64 (z1470 * 4294967296) + z1471)) :: V.int IntKind.u64 z1473 :: V.int IntKind.u64 z1466 :: V.int IntKind.u64 (IntKind.wrap IntKind.u64 (z1473 * z1466)) :: V.int IntKind.u64 (IntKind.wrap IntKind.u64 (IntKind.wrap IntKind.u64 (IntKind.wrap IntKind.u64 (z1470 * 4294967296) + z1471) - IntKind.wrap IntKind.u64 (z1473 * z1466))) :: V.int IntKind.u64 (IntKind.wrap IntKind.u64 (IntKind.wrap IntKind.u64 (IntKind.wrap IntKind.u64 (z1470 * 4294967296) + z1471) - IntKind.wrap IntKind.u64 (z1473 * z1466))) :: V.int IntKind.u64 z1468 :: V.int IntKind.u64 (IntKind.wrap IntKind.u64 (Int.tdiv (IntKind.wrap IntKind.u64 (IntKind.wrap IntKind.u64 (IntKind.wrap IntKind.u64 (z1470 * 4294967296) + z1471) - IntKind.wrap IntKind.u64 (z1473 * z1466))) z1468)) :: V.int IntKind.u64 (IntKind.wrap IntKind.u64 (IntKind.wrap IntKind.u64 (IntKind.wrap IntKind.u64 (z1470 * 4294967296) + z1471) - IntKind.wrap IntKind.u64 (z1473 * z1466))) :: V.int IntKind.u64 (IntKind.wrap IntKind.u64 (Int.tdiv (IntKind.wrap IntKind.u64 (IntKind.wrap IntKind.u64 (IntKind.wrap IntKind.u64 (z1470 * 4294967296) + z1471) - IntKind.wrap IntKind.u64 (z1473 * z1466))) z1468)) :: V.int IntKind.u64 z1468 :: V.int IntKind.u64 (IntKind.wrap IntKind.u64 (IntKind.wrap IntKind.u64 (Int.tdiv (IntKind.wrap IntKind.u64 (IntKind.wrap IntKind.u64 (IntKind.wrap IntKind.u64 (z1470 * 4294967296) + z1471) - IntKind.wrap IntKind.u64 (z1473 * z1466))) z1468) * z1468)) :: V.int IntKind.u64 (IntKind.wrap IntKind.u64 (IntKind.wrap IntKind.u64 (IntKind.wrap IntKind.u64 (IntKind.wrap IntKind.u64 (z1470 * 4294967296) + z1471) - IntKind.wrap IntKind.u64 (z1473 * z1466)) - IntKind.wrap IntKind.u64 (IntKind.wrap IntKind.u64 (Int.tdiv (IntKind.wrap IntKind.u64 (IntKind.wrap IntKind.u64 (IntKind.wrap IntKind.u64 (z1470 * 4294967296) + z1471) - IntKind.wrap IntKind.u64 (z1473 * z1466))) z1468) * z1468))) :: un 33 [])), σ := [] }) = { T := U :: U :: V.int IntKind.u64 z1466 :: un 5 (V.int IntKind.u64 z1467 :: V.int IntKind.u64 z1468 :: V.int IntKind.u64 z1469 :: U :: U :: U :: V.int IntKind.u64 z1472 :: V.int IntKind.u64 z1473 :: V.int IntKind.u64 (IntKind.wrap IntKind.u64 (IntKind.wrap IntKind.u64 (IntKind.wrap IntKind.u64 (IntKind.wrap IntKind.u64 (z1470 * 4294967296) + z1471) - IntKind.wrap IntKind.u64 (z1473 * z1466)) - IntKind.wrap IntKind.u64 (IntKind.wrap IntKind.u64 (Int.tdiv (IntKind.wrap IntKind.u64 (IntKind.wrap IntKind.u64 (IntKind.wrap IntKind.u64 (z1470 * 4294967296) + z1471) - IntKind.wrap IntKind.u64 (z1473 * z1466))) z1468) * z1468))) :: V.int IntKind.u64 (IntKind.wrap IntKind.u64 (IntKind.wrap IntKind.u64 (IntKind.wrap IntKind.u64 (z1470 * 4294967296) + z1471) - IntKind.wrap IntKind.u64 (z1473 * z1466))) :: V.int IntKind.u64 (IntKind.wrap IntKind.u64 (Int.tdiv (IntKind.wrap IntKind.u64 (IntKind.wrap IntKind.u64 (IntKind.wrap IntKind.u64 (z1470 * 4294967296) + z1471) - IntKind.wrap IntKind.u64 (z1473 * z1466))) z1468)) :: un 116 []), σ := [] } by kernel_rfl]
                      exact h9
                    cases r9 with
                    | e0 z1523 z1524 z1527 z1528 z1530 z1531 =>
                      obtain ⟨z1525, z1526, z1529, z1532, b1533, z1534, b1535, rfl⟩ := hr9
                      rcases ite_eq h with ⟨h10, h⟩ | ⟨h10, h⟩
                      · skip
                        cases h
                      · skip
                        cases h
                        exact call_pathL (gs := [.f, .f, .f, .an (i64 z1421) [], .f, .a, .f, .f, .f, .a, .f, .lp (VX.exit 0) (s87_0_0 z1466 z1467 z1468 z1469 z1470 z1471 z1472 z1473 z1474 z1475 b1476 z1477 b1478), .f, .lp (VX.exit 2) (s87_2_0 z1523 z1524 z1525 z1526 z1527 z1528 z1529 z1530 z1531 z1532 b1533 z1534 b1535), .f]) (notIn []) rfl rfl (by kernel_rfl) (And.intro (Bool.eq_false_iff.mpr h0) (And.intro (decide_eq_false h1) (And.intro (Bool.eq_false_iff.mpr h2) (And.intro h3 (And.intro (decide_eq_false h4) (And.intro (decide_eq_false h4) (And.intro (decide_eq_false h5) (And.intro (decide_eq_false h4) (And.intro (decide_eq_false h6) (And.intro h7 (And.intro (decide_eq_false h8) (And.intro h9 (And.intro (decide_eq_false h10) True.intro)))))))))))))
                    | e1 z1536 z1537 z1540 z1541 z1543 z1544 =>
                      obtain ⟨z1538, z1539, z1542, z1545, b1546, z1547, z1548, z1549, z1550, b1551, b1552, rfl⟩ := hr9
                      rcases ite_eq h with ⟨h10, h⟩ | ⟨h10, h⟩
                      · skip
                        cases h
                      · skip
                        cases h
                        exact call_pathL (gs := [.f, .f, .f, .an (i64 z1421) [], .f, .a, .f, .f, .f, .a, .f, .lp (VX.exit 0) (s87_0_0 z1466 z1467 z1468 z1469 z1470 z1471 z1472 z1473 z1474 z1475 b1476 z1477 b1478), .f, .lp (VX.exit 2) (s87_2_1 z1536 z1537 z1538 z1539 z1540 z1541 z1542 z1543 z1544 z1545 b1546 z1547 z1548 z1549 z1550 b1551 b1552), .f]) (notIn []) rfl rfl (by kernel_rfl) (And.intro (Bool.eq_false_iff.mpr h0) (And.intro (decide_eq_false h1) (And.intro (Bool.eq_false_iff.mpr h2) (And.intro h3 (And.intro (decide_eq_false h4) (And.intro (decide_eq_false h4) (And.intro (decide_eq_false h5) (And.intro (decide_eq_false h4) (And.intro (decide_eq_false h6) (And.intro h7 (And.intro (decide_eq_false h8) (And.intro h9 (And.intro (decide_eq_false h10) True.intro)))))))))))))
                    | e2 z1553 z1554 z1557 z1558 z1560 z1561 =>
                      obtain ⟨z1555, z1556, z1559, b1562, z1563, z1564, z1565, b1566, rfl⟩ := hr9
                      rcases ite_eq h with ⟨h10, h⟩ | ⟨h10, h⟩
                      · skip
                        cases h
                      · skip
                        cases h
                        exact call_pathL (gs := [.f, .f, .f, .an (i64 z1421) [], .f, .a, .f, .f, .f, .a, .f, .lp (VX.exit 0) (s87_0_0 z1466 z1467 z1468 z1469 z1470 z1471 z1472 z1473 z1474 z1475 b1476 z1477 b1478), .f, .lp (VX.exit 2) (s87_2_2 z1553 z1554 z1555 z1556 z1557 z1558 z1559 z1560 z1561 b1562 z1563 z1564 z1565 b1566), .f]) (notIn []) rfl rfl (by kernel_rfl) (And.intro (Bool.eq_false_iff.mpr h0) (And.intro (decide_eq_false h1) (And.intro (Bool.eq_false_iff.mpr h2) (And.intro h3 (And.intro (decide_eq_false h4) (And.intro (decide_eq_false h4) (And.intro (decide_eq_false h5) (And.intro (decide_eq_false h4) (And.intro (decide_eq_false h6) (And.intro h7 (And.intro (decide_eq_false h8) (And.intro h9 (And.intro (decide_eq_false h10) True.intro)))))))))))))
                | e1 z1567 z1568 z1569 z1570 z1571 z1572 z1573 z1574 =>
                  obtain ⟨z1575, z1576, b1577, z1578, z1579, z1580, z1581, b1582, b1583, rfl⟩ := hr7
                  rcases ite_eq h with ⟨h8, h⟩ | ⟨h8, h⟩
                  · skip
                    cases h
                  · skip
                    obtain ⟨r9, h9, h⟩ := Option.bind_eq_some_iff.mp h
                    obtain ⟨st9, h9, hr9⟩ := L87_2_ok m 18446744073709551616 (z1567) (z1568) (z1569) (z1570) (z1573) (z1574) (IntKind.wrap IntKind.u64 (IntKind.wrap IntKind.u64 (IntKind.wrap IntKind.u64 (IntKind.wrap IntKind.u64 (z1571 * 4294967296) + z1572) - IntKind.wrap IntKind.u64 (z1574 * z1567)) - IntKind.wrap IntKind.u64 (IntKind.wrap IntKind.u64 (Int.tdiv (IntKind.wrap IntKind.u64 (IntKind.wrap IntKind.u64 (IntKind.wrap IntKind.u64 (z1571 * 4294967296) + z1572) - IntKind.wrap IntKind.u64 (z1574 * z1567))) z1569) * z1569))) (IntKind.wrap IntKind.u64 (IntKind.wrap IntKind.u64 (IntKind.wrap IntKind.u64 (z1571 * 4294967296) + z1572) - IntKind.wrap IntKind.u64 (z1574 * z1567))) (IntKind.wrap IntKind.u64 (Int.tdiv (IntKind.wrap IntKind.u64 (IntKind.wrap IntKind.u64 (IntKind.wrap IntKind.u64 (z1571 * 4294967296) + z1572) - IntKind.wrap IntKind.u64 (z1574 * z1567))) z1569)) r9 h9
                    have h9 : loopRun Try.prog X (genO X (call Try.prog X O0 18446744073709551616 (m + 2))) 87 (0) 18446744073709551616 B87 2 ({ T := U :: U :: V.int IntKind.u64 z1567 :: un 5 (V.int IntKind.u64 z1568 :: V.int IntKind.u64 z1569 :: V.int IntKind.u64 z1570 :: V.int IntKind.u64 z1571 :: U :: V.int IntKind.u64 z1572 :: V.int IntKind.u64 z1573 :: V.int IntKind.u64 z1574 :: V.int IntKind.u64 (IntKind.wrap IntKind.u64 (IntKind.wrap IntKind.u64 (IntKind.wrap IntKind.u64 (IntKind.wrap IntKind.u64 (z1571 * 4294967296) + z1572) - IntKind.wrap IntKind.u64 (z1574 * z1567)) - IntKind.wrap IntKind.u64 (IntKind.wrap IntKind.u64 (Int.tdiv (IntKind.wrap IntKind.u64 (IntKind.wrap IntKind.u64 (IntKind.wrap IntKind.u64 (z1571 * 4294967296) + z1572) - IntKind.wrap IntKind.u64 (z1574 * z1567))) z1569) * z1569))) :: V.int IntKind.u64 (IntKind.wrap IntKind.u64 (IntKind.wrap IntKind.u64 (IntKind.wrap IntKind.u64 (z1571 * 4294967296) + z1572) - IntKind.wrap IntKind.u64 (z1574 * z1567))) :: V.int IntKind.u64 (IntKind.wrap IntKind.u64 (Int.tdiv (IntKind.wrap IntKind.u64 (IntKind.wrap IntKind.u64 (IntKind.wrap IntKind.u64 (z1571 * 4294967296) + z1572) - IntKind.wrap IntKind.u64 (z1574 * z1567))) z1569)) :: un 48 (V.int IntKind.u64 z1576 :: vb b1577 :: vb b1577 :: V.int IntKind.u64 z1576 :: V.int IntKind.u64 z1570 :: V.int IntKind.u64 z1578 :: V.int IntKind.u64 z1579 :: V.int IntKind.u64 z1580 :: V.int IntKind.u64 z1572 :: V.int IntKind.u64 z1581 :: vb b1582 :: vb b1582 :: V.int IntKind.u64 z1576 :: V.int IntKind.u64 z1574 :: V.int IntKind.u64 z1579 :: V.int IntKind.u64 z1569 :: V.int IntKind.u64 z1575 :: V.int IntKind.u64 z1575 :: vb b1583 :: V.int IntKind.u64 z1571 :: V.int IntKind.u64 (IntKind.wrap IntKind.u64 (z1571 * 4294967296)) :: V.int IntKind.u64 z1572 :: V.int IntKind.u64 (IntKind.wrap IntKind.u64 (IntKind.wrap IntKind.u64 (z1571 * 4294967296) + z1572)) :: V.int IntKind.u64 z1574 :: V.int IntKind.u64 z1567 :: V.int IntKind.u64 (IntKind.wrap IntKind.u64 (z1574 * z1567)) :: V.int IntKind.u64 (IntKind.wrap IntKind.u64 (IntKind.wrap IntKind.u64 (IntKind.wrap IntKind.u64 (z1571 * 4294967296) + z1572) - IntKind.wrap IntKind.u64 (z1574 * z1567))) :: V.int IntKind.u64 (IntKind.wrap IntKind.u64 (IntKind.wrap IntKind.u64 (IntKind.wrap IntKind.u64 (z1571 * 4294967296) + z1572) - IntKind.wrap IntKind.u64 (z1574 * z1567))) :: V.int IntKind.u64 z1569 :: V.int IntKind.u64 (IntKind.wrap IntKind.u64 (Int.tdiv (IntKind.wrap IntKind.u64 (IntKind.wrap IntKind.u64 (IntKind.wrap IntKind.u64 (z1571 * 4294967296) + z1572) - IntKind.wrap IntKind.u64 (z1574 * z1567))) z1569)) :: V.int IntKind.u64 (IntKind.wrap IntKind.u64 (IntKind.wrap IntKind.u64 (IntKind.wrap IntKind.u64 (z1571 * 4294967296) + z1572) - IntKind.wrap IntKind.u64 (z1574 * z1567))) :: V.int IntKind.u64 (IntKind.wrap IntKind.u64 (Int.tdiv (IntKind.wrap IntKind.u64 (IntKind.wrap IntKind.u64 (IntKind.wrap IntKind.u64 (z1571 * 4294967296) + z1572) - IntKind.wrap IntKind.u64 (z1574 * z1567))) z1569)) :: V.int IntKind.u64 z1569 :: V.int IntKind.u64 (IntKind.wrap IntKind.u64 (IntKind.wrap IntKind.u64 (Int.tdiv (IntKind.wrap IntKind.u64 (IntKind.wrap IntKind.u64 (IntKind.wrap IntKind.u64 (z1571 * 4294967296) + z1572) - IntKind.wrap IntKind.u64 (z1574 * z1567))) z1569) * z1569)) :: V.int IntKind.u64 (IntKind.wrap IntKind.u64 (IntKind.wrap IntKind.u64 (IntKind.wrap IntKind.u64 (IntKind.wrap IntKind.u64 (z1571 * 4294967296) + z1572) - IntKind.wrap IntKind.u64 (z1574 * z1567)) - IntKind.wrap IntKind.u64 (IntKind.wrap IntKind.u64 (Int.tdiv (IntKind.wrap IntKind.u64 (IntKind.wrap IntKind.u64 (IntKind.wrap IntKind.u64 (z1571 * 4294967296) + z1572) - IntKind.wrap IntKind.u64 (z1574 * z1567))) z1569) * z1569))) :: un 33 [])), σ := [] }) = some st9 := by
                      rw [loopRun_from, show pre X 87 (0) 2 ({ T := U :: U :: V.int IntKind.u64 z1567 :: un 5 (V.int IntKind.u64 z1568 :: V.int IntKind.u64 z1569 :: V.int IntKind.u64 z1570 :: V.int IntKind.u64 z1571 :: U :: V.int IntKind.u64 z1572 :: V.int IntKind.u64 z1573 :: V.int IntKind.u64 z1574 :: V.int IntKind.u64 (IntKind.wrap IntKind.u64 (IntKind.wrap IntKind.u64 (IntKind.wrap IntKind.u64 (IntKind.wrap IntKind.u64 (z1571 * 4294967296) + z1572) - IntKind.wrap IntKind.u64 (z1574 * z1567)) - IntKind.wrap IntKind.u64 (IntKind.wrap IntKind.u64 (Int.tdiv (IntKind.wrap IntKind.u64 (IntKind.wrap IntKind.u64 (IntKind.wrap IntKind.u64 (z1571 * 4294967296) + z1572) - IntKind.wrap IntKind.u64 (z1574 * z1567))) z1569) * z1569))) :: V.int IntKind.u64 (IntKind.wrap IntKind.u64 (IntKind.wrap IntKind.u64 (IntKind.wrap IntKind.u64 (z1571 * 4294967296) + z1572) - IntKind.wrap IntKind.u64 (z1574 * z1567))) :: V.int IntKind.u64 (IntKind.wrap IntKind.u64 (Int.tdiv (IntKind.wrap IntKind.u64 (IntKind.wrap IntKind.u64 (IntKind.wrap IntKind.u64 (z1571 * 4294967296) + z1572) - IntKind.wrap IntKind.u64 (z1574 * z1567))) z1569)) :: un 48 (V.int IntKind.u64 z1576 :: vb b1577 :: vb b1577 :: V.int IntKind.u64 z1576 :: V.int IntKind.u64 z1570 :: V.int IntKind.u64 z1578 :: V.int IntKind.u64 z1579 :: V.int IntKind.u64 z1580 :: V.int IntKind.u64 z1572 :: V.int IntKind.u64 z1581 :: vb b1582 :: vb b1582 :: V.int IntKind.u64 z1576 :: V.int IntKind.u64 z1574 :: V.int IntKind.u64 z1579 :: V.int IntKind.u64 z1569 :: V.int IntKind.u64 z1575 :: V.int IntKind.u64 z1575 :: vb b1583 :: V.int IntKind.u64 z1571 :: V.int IntKind.u64 (IntKind.wrap IntKind.u64 (z1571 * 4294967296)) :: V.int IntKind.u64 z1572 :: V.int IntKind.u64 (IntKind.wrap IntKind.u64 (IntKind.wrap IntKind.u64 (z1571 * 4294967296) + z1572)) :: V.int IntKind.u64 z1574 :: V.int IntKind.u64 z1567 :: V.int IntKind.u64 (IntKind.wrap IntKind.u64 (z1574 * z1567)) :: V.int IntKind.u64 (IntKind.wrap IntKind.u64 (IntKind.wrap IntKind.u64 (IntKind.wrap IntKind.u64 (z1571 * 4294967296) + z1572) - IntKind.wrap IntKind.u64 (z1574 * z1567))) :: V.int IntKind.u64 (IntKind.wrap IntKind.u64 (IntKind.wrap IntKind.u64 (IntKind.wrap IntKind.u64 (z1571 * 4294967296) + z1572) - IntKind.wrap IntKind.u64 (z1574 * z1567))) :: V.int IntKind.u64 z1569 :: V.int IntKind.u64 (IntKind.wrap IntKind.u64 (Int.tdiv (IntKind.wrap IntKind.u64 (IntKind.wrap IntKind.u64 (IntKind.wrap IntKind.u64 (z1571 * 4294967296) + z1572) - IntKind.wrap IntKind.u64 (z1574 * z1567))) z1569)) :: V.int IntKind.u64 (IntKind.wrap IntKind.u64 (IntKind.wrap IntKind.u64 (IntKind.wrap IntKind.u64 (z1571 * 4294967296) + z1572) - IntKind.wrap IntKind.u64 (z1574 * z1567))) :: V.int IntKind.u64 (IntKind.wrap IntKind.u64 (Int.tdiv (IntKind.wrap IntKind.u64 (IntKind.wrap IntKind.u64 (IntKind.wrap IntKind.u64 (z1571 * 4294967296) + z1572) - IntKind.wrap IntKind.u64 (z1574 * z1567))) z1569)) :: V.int IntKind.u64 z1569 :: V.int IntKind.u64 (IntKind.wrap IntKind.u64 (IntKind.wrap IntKind.u64 (Int.tdiv (IntKind.wrap IntKind.u64 (IntKind.wrap IntKind.u64 (IntKind.wrap IntKind.u64 (z1571 * 4294967296) + z1572) - IntKind.wrap IntKind.u64 (z1574 * z1567))) z1569) * z1569)) :: V.int IntKind.u64 (IntKind.wrap IntKind.u64 (IntKind.wrap IntKind.u64 (IntKind.wrap IntKind.u64 (IntKind.wrap IntKind.u64 (z1571 * 4294967296) + z1572) - IntKind.wrap IntKind.u64 (z1574 * z1567)) - IntKind.wrap IntKind.u64 (IntKind.wrap IntKind.u64 (Int.tdiv (IntKind.wrap IntKind.u64 (IntKind.wrap IntKind.u64 (IntKind.wrap IntKind.u64 (z1571 * 4294967296) + z1572) - IntKind.wrap IntKind.u64 (z1574 * z1567))) z1569) * z1569))) :: un 33 [])), σ := [] }) = { T := U :: U :: V.int IntKind.u64 z1567 :: un 5 (V.int IntKind.u64 z1568 :: V.int IntKind.u64 z1569 :: V.int IntKind.u64 z1570 :: U :: U :: U :: V.int IntKind.u64 z1573 :: V.int IntKind.u64 z1574 :: V.int IntKind.u64 (IntKind.wrap IntKind.u64 (IntKind.wrap IntKind.u64 (IntKind.wrap IntKind.u64 (IntKind.wrap IntKind.u64 (z1571 * 4294967296) + z1572) - IntKind.wrap IntKind.u64 (z1574 * z1567)) - IntKind.wrap IntKind.u64 (IntKind.wrap IntKind.u64 (Int.tdiv (IntKind.wrap IntKind.u64 (IntKind.wrap IntKind.u64 (IntKind.wrap IntKind.u64 (z1571 * 4294967296) + z1572) - IntKind.wrap IntKind.u64 (z1574 * z1567))) z1569) * z1569))) :: V.int IntKind.u64 (IntKind.wrap IntKind.u64 (IntKind.wrap IntKind.u64 (IntKind.wrap IntKind.u64 (z1571 * 4294967296) + z1572) - IntKind.wrap IntKind.u64 (z1574 * z1567))) :: V.int IntKind.u64 (IntKind.wrap IntKind.u64 (Int.tdiv (IntKind.wrap IntKind.u64 (IntKind.wrap IntKind.u64 (IntKind.wrap IntKind.u64 (z1571 * 4294967296) + z1572) - IntKind.wrap IntKind.u64 (z1574 * z1567))) z1569)) :: un 116 []), σ := [] } by kernel_rfl]
                      exact h9
                    cases r9 with
                    | e0 z1584 z1585 z1588 z1589 z1591 z1592 =>
                      obtain ⟨z1586, z1587, z1590, z1593, b1594, z1595, b1596, rfl⟩ := hr9
                      rcases ite_eq h with ⟨h10, h⟩ | ⟨h10, h⟩
                      · skip
                        cases h
                      · skip
                        cases h
                        exact call_pathL (gs := [.f, .f, .f, .an (i64 z1421) [], .f, .a, .f, .f, .f, .a, .f, .lp (VX.exit 0) (s87_0_1 z1567 z1568 z1569 z1570 z1571 z1572 z1573 z1574 z1575 z1576 b1577 z1578 z1579 z1580 z1581 b1582 b1583), .f, .lp (VX.exit 2) (s87_2_0 z1584 z1585 z1586 z1587 z1588 z1589 z1590 z1591 z1592 z1593 b1594 z1595 b1596), .f]) (notIn []) rfl rfl (by kernel_rfl) (And.intro (Bool.eq_false_iff.mpr h0) (And.intro (decide_eq_false h1) (And.intro (Bool.eq_false_iff.mpr h2) (And.intro h3 (And.intro (decide_eq_false h4) (And.intro (decide_eq_false h4) (And.intro (decide_eq_false h5) (And.intro (decide_eq_false h4) (And.intro (decide_eq_false h6) (And.intro h7 (And.intro (decide_eq_false h8) (And.intro h9 (And.intro (decide_eq_false h10) True.intro)))))))))))))
                    | e1 z1597 z1598 z1601 z1602 z1604 z1605 =>
                      obtain ⟨z1599, z1600, z1603, z1606, b1607, z1608, z1609, z1610, z1611, b1612, b1613, rfl⟩ := hr9
                      rcases ite_eq h with ⟨h10, h⟩ | ⟨h10, h⟩
                      · skip
                        cases h
                      · skip
                        cases h
                        exact call_pathL (gs := [.f, .f, .f, .an (i64 z1421) [], .f, .a, .f, .f, .f, .a, .f, .lp (VX.exit 0) (s87_0_1 z1567 z1568 z1569 z1570 z1571 z1572 z1573 z1574 z1575 z1576 b1577 z1578 z1579 z1580 z1581 b1582 b1583), .f, .lp (VX.exit 2) (s87_2_1 z1597 z1598 z1599 z1600 z1601 z1602 z1603 z1604 z1605 z1606 b1607 z1608 z1609 z1610 z1611 b1612 b1613), .f]) (notIn []) rfl rfl (by kernel_rfl) (And.intro (Bool.eq_false_iff.mpr h0) (And.intro (decide_eq_false h1) (And.intro (Bool.eq_false_iff.mpr h2) (And.intro h3 (And.intro (decide_eq_false h4) (And.intro (decide_eq_false h4) (And.intro (decide_eq_false h5) (And.intro (decide_eq_false h4) (And.intro (decide_eq_false h6) (And.intro h7 (And.intro (decide_eq_false h8) (And.intro h9 (And.intro (decide_eq_false h10) True.intro)))))))))))))
                    | e2 z1614 z1615 z1618 z1619 z1621 z1622 =>
                      obtain ⟨z1616, z1617, z1620, b1623, z1624, z1625, z1626, b1627, rfl⟩ := hr9
                      rcases ite_eq h with ⟨h10, h⟩ | ⟨h10, h⟩
                      · skip
                        cases h
                      · skip
                        cases h
                        exact call_pathL (gs := [.f, .f, .f, .an (i64 z1421) [], .f, .a, .f, .f, .f, .a, .f, .lp (VX.exit 0) (s87_0_1 z1567 z1568 z1569 z1570 z1571 z1572 z1573 z1574 z1575 z1576 b1577 z1578 z1579 z1580 z1581 b1582 b1583), .f, .lp (VX.exit 2) (s87_2_2 z1614 z1615 z1616 z1617 z1618 z1619 z1620 z1621 z1622 b1623 z1624 z1625 z1626 b1627), .f]) (notIn []) rfl rfl (by kernel_rfl) (And.intro (Bool.eq_false_iff.mpr h0) (And.intro (decide_eq_false h1) (And.intro (Bool.eq_false_iff.mpr h2) (And.intro h3 (And.intro (decide_eq_false h4) (And.intro (decide_eq_false h4) (And.intro (decide_eq_false h5) (And.intro (decide_eq_false h4) (And.intro (decide_eq_false h6) (And.intro h7 (And.intro (decide_eq_false h8) (And.intro h9 (And.intro (decide_eq_false h10) True.intro)))))))))))))
                | e2 z1628 z1629 z1630 z1631 z1632 z1633 z1634 z1635 =>
                  obtain ⟨z1636, b1637, z1638, z1639, z1640, b1641, rfl⟩ := hr7
                  rcases ite_eq h with ⟨h8, h⟩ | ⟨h8, h⟩
                  · skip
                    cases h
                  · skip
                    obtain ⟨r9, h9, h⟩ := Option.bind_eq_some_iff.mp h
                    obtain ⟨st9, h9, hr9⟩ := L87_2_ok m 18446744073709551616 (z1628) (z1629) (z1630) (z1631) (z1634) (z1635) (IntKind.wrap IntKind.u64 (IntKind.wrap IntKind.u64 (IntKind.wrap IntKind.u64 (IntKind.wrap IntKind.u64 (z1632 * 4294967296) + z1633) - IntKind.wrap IntKind.u64 (z1635 * z1628)) - IntKind.wrap IntKind.u64 (IntKind.wrap IntKind.u64 (Int.tdiv (IntKind.wrap IntKind.u64 (IntKind.wrap IntKind.u64 (IntKind.wrap IntKind.u64 (z1632 * 4294967296) + z1633) - IntKind.wrap IntKind.u64 (z1635 * z1628))) z1630) * z1630))) (IntKind.wrap IntKind.u64 (IntKind.wrap IntKind.u64 (IntKind.wrap IntKind.u64 (z1632 * 4294967296) + z1633) - IntKind.wrap IntKind.u64 (z1635 * z1628))) (IntKind.wrap IntKind.u64 (Int.tdiv (IntKind.wrap IntKind.u64 (IntKind.wrap IntKind.u64 (IntKind.wrap IntKind.u64 (z1632 * 4294967296) + z1633) - IntKind.wrap IntKind.u64 (z1635 * z1628))) z1630)) r9 h9
                    have h9 : loopRun Try.prog X (genO X (call Try.prog X O0 18446744073709551616 (m + 2))) 87 (0) 18446744073709551616 B87 2 ({ T := U :: U :: V.int IntKind.u64 z1628 :: un 5 (V.int IntKind.u64 z1629 :: V.int IntKind.u64 z1630 :: V.int IntKind.u64 z1631 :: V.int IntKind.u64 z1632 :: U :: V.int IntKind.u64 z1633 :: V.int IntKind.u64 z1634 :: V.int IntKind.u64 z1635 :: V.int IntKind.u64 (IntKind.wrap IntKind.u64 (IntKind.wrap IntKind.u64 (IntKind.wrap IntKind.u64 (IntKind.wrap IntKind.u64 (z1632 * 4294967296) + z1633) - IntKind.wrap IntKind.u64 (z1635 * z1628)) - IntKind.wrap IntKind.u64 (IntKind.wrap IntKind.u64 (Int.tdiv (IntKind.wrap IntKind.u64 (IntKind.wrap IntKind.u64 (IntKind.wrap IntKind.u64 (z1632 * 4294967296) + z1633) - IntKind.wrap IntKind.u64 (z1635 * z1628))) z1630) * z1630))) :: V.int IntKind.u64 (IntKind.wrap IntKind.u64 (IntKind.wrap IntKind.u64 (IntKind.wrap IntKind.u64 (z1632 * 4294967296) + z1633) - IntKind.wrap IntKind.u64 (z1635 * z1628))) :: V.int IntKind.u64 (IntKind.wrap IntKind.u64 (Int.tdiv (IntKind.wrap IntKind.u64 (IntKind.wrap IntKind.u64 (IntKind.wrap IntKind.u64 (z1632 * 4294967296) + z1633) - IntKind.wrap IntKind.u64 (z1635 * z1628))) z1630)) :: un 48 (V.int IntKind.u64 z1635 :: vb b1637 :: vb b1637 :: V.int IntKind.u64 z1635 :: V.int IntKind.u64 z1631 :: V.int IntKind.u64 z1638 :: V.int IntKind.u64 z1636 :: V.int IntKind.u64 z1639 :: V.int IntKind.u64 z1633 :: V.int IntKind.u64 z1640 :: vb b1641 :: vb b1641 :: un 7 (V.int IntKind.u64 z1632 :: V.int IntKind.u64 (IntKind.wrap IntKind.u64 (z1632 * 4294967296)) :: V.int IntKind.u64 z1633 :: V.int IntKind.u64 (IntKind.wrap IntKind.u64 (IntKind.wrap IntKind.u64 (z1632 * 4294967296) + z1633)) :: V.int IntKind.u64 z1635 :: V.int IntKind.u64 z1628 :: V.int IntKind.u64 (IntKind.wrap IntKind.u64 (z1635 * z1628)) :: V.int IntKind.u64 (IntKind.wrap IntKind.u64 (IntKind.wrap IntKind.u64 (IntKind.wrap IntKind.u64 (z1632 * 4294967296) + z1633) - IntKind.wrap IntKind.u64 (z1635 * z1628))) :: V.int IntKind.u64 (IntKind.wrap IntKind.u64 (IntKind.wrap IntKind.u64 (IntKind.wrap IntKind.u64 (z1632 * 4294967296) + z1633) - IntKind.wrap IntKind.u64 (z1635 * z1628))) :: V.int IntKind.u64 z1630 :: V.int IntKind.u64 (IntKind.wrap IntKind.u64 (Int.tdiv (IntKind.wrap IntKind.u64 (IntKind.wrap IntKind.u64 (IntKind.wrap IntKind.u64 (z1632 * 4294967296) + z1633) - IntKind.wrap IntKind.u64 (z1635 * z1628))) z1630)) :: V.int IntKind.u64 (IntKind.wrap IntKind.u64 (IntKind.wrap IntKind.u64 (IntKind.wrap IntKind.u64 (z1632 * 4294967296) + z1633) - IntKind.wrap IntKind.u64 (z1635 * z1628))) :: V.int IntKind.u64 (IntKind.wrap IntKind.u64 (Int.tdiv (IntKind.wrap IntKind.u64 (IntKind.wrap IntKind.u64 (IntKind.wrap IntKind.u64 (z1632 * 4294967296) + z1633) - IntKind.wrap IntKind.u64 (z1635 * z1628))) z1630)) :: V.int IntKind.u64 z1630 :: V.int IntKind.u64 (IntKind.wrap IntKind.u64 (IntKind.wrap IntKind.u64 (Int.tdiv (IntKind.wrap IntKind.u64 (IntKind.wrap IntKind.u64 (IntKind.wrap IntKind.u64 (z1632 * 4294967296) + z1633) - IntKind.wrap IntKind.u64 (z1635 * z1628))) z1630) * z1630)) :: V.int IntKind.u64 (IntKind.wrap IntKind.u64 (IntKind.wrap IntKind.u64 (IntKind.wrap IntKind.u64 (IntKind.wrap IntKind.u64 (z1632 * 4294967296) + z1633) - IntKind.wrap IntKind.u64 (z1635 * z1628)) - IntKind.wrap IntKind.u64 (IntKind.wrap IntKind.u64 (Int.tdiv (IntKind.wrap IntKind.u64 (IntKind.wrap IntKind.u64 (IntKind.wrap IntKind.u64 (z1632 * 4294967296) + z1633) - IntKind.wrap IntKind.u64 (z1635 * z1628))) z1630) * z1630))) :: un 33 []))), σ := [] }) = some st9 := by
                      rw [loopRun_from, show pre X 87 (0) 2 ({ T := U :: U :: V.int IntKind.u64 z1628 :: un 5 (V.int IntKind.u64 z1629 :: V.int IntKind.u64 z1630 :: V.int IntKind.u64 z1631 :: V.int IntKind.u64 z1632 :: U :: V.int IntKind.u64 z1633 :: V.int IntKind.u64 z1634 :: V.int IntKind.u64 z1635 :: V.int IntKind.u64 (IntKind.wrap IntKind.u64 (IntKind.wrap IntKind.u64 (IntKind.wrap IntKind.u64 (IntKind.wrap IntKind.u64 (z1632 * 4294967296) + z1633) - IntKind.wrap IntKind.u64 (z1635 * z1628)) - IntKind.wrap IntKind.u64 (IntKind.wrap IntKind.u64 (Int.tdiv (IntKind.wrap IntKind.u64 (IntKind.wrap IntKind.u64 (IntKind.wrap IntKind.u64 (z1632 * 4294967296) + z1633) - IntKind.wrap IntKind.u64 (z1635 * z1628))) z1630) * z1630))) :: V.int IntKind.u64 (IntKind.wrap IntKind.u64 (IntKind.wrap IntKind.u64 (IntKind.wrap IntKind.u64 (z1632 * 4294967296) + z1633) - IntKind.wrap IntKind.u64 (z1635 * z1628))) :: V.int IntKind.u64 (IntKind.wrap IntKind.u64 (Int.tdiv (IntKind.wrap IntKind.u64 (IntKind.wrap IntKind.u64 (IntKind.wrap IntKind.u64 (z1632 * 4294967296) + z1633) - IntKind.wrap IntKind.u64 (z1635 * z1628))) z1630)) :: un 48 (V.int IntKind.u64 z1635 :: vb b1637 :: vb b1637 :: V.int IntKind.u64 z1635 :: V.int IntKind.u64 z1631 :: V.int IntKind.u64 z1638 :: V.int IntKind.u64 z1636 :: V.int IntKind.u64 z1639 :: V.int IntKind.u64 z1633 :: V.int IntKind.u64 z1640 :: vb b1641 :: vb b1641 :: un 7 (V.int IntKind.u64 z1632 :: V.int IntKind.u64 (IntKind.wrap IntKind.u64 (z1632 * 4294967296)) :: V.int IntKind.u64 z1633 :: V.int IntKind.u64 (IntKind.wrap IntKind.u64 (IntKind.wrap IntKind.u64 (z1632 * 4294967296) + z1633)) :: V.int IntKind.u64 z1635 :: V.int IntKind.u64 z1628 :: V.int IntKind.u64 (IntKind.wrap IntKind.u64 (z1635 * z1628)) :: V.int IntKind.u64 (IntKind.wrap IntKind.u64 (IntKind.wrap IntKind.u64 (IntKind.wrap IntKind.u64 (z1632 * 4294967296) + z1633) - IntKind.wrap IntKind.u64 (z1635 * z1628))) :: V.int IntKind.u64 (IntKind.wrap IntKind.u64 (IntKind.wrap IntKind.u64 (IntKind.wrap IntKind.u64 (z1632 * 4294967296) + z1633) - IntKind.wrap IntKind.u64 (z1635 * z1628))) :: V.int IntKind.u64 z1630 :: V.int IntKind.u64 (IntKind.wrap IntKind.u64 (Int.tdiv (IntKind.wrap IntKind.u64 (IntKind.wrap IntKind.u64 (IntKind.wrap IntKind.u64 (z1632 * 4294967296) + z1633) - IntKind.wrap IntKind.u64 (z1635 * z1628))) z1630)) :: V.int IntKind.u64 (IntKind.wrap IntKind.u64 (IntKind.wrap IntKind.u64 (IntKind.wrap IntKind.u64 (z1632 * 4294967296) + z1633) - IntKind.wrap IntKind.u64 (z1635 * z1628))) :: V.int IntKind.u64 (IntKind.wrap IntKind.u64 (Int.tdiv (IntKind.wrap IntKind.u64 (IntKind.wrap IntKind.u64 (IntKind.wrap IntKind.u64 (z1632 * 4294967296) + z1633) - IntKind.wrap IntKind.u64 (z1635 * z1628))) z1630)) :: V.int IntKind.u64 z1630 :: V.int IntKind.u64 (IntKind.wrap IntKind.u64 (IntKind.wrap IntKind.u64 (Int.tdiv (IntKind.wrap IntKind.u64 (IntKind.wrap IntKind.u64 (IntKind.wrap IntKind.u64 (z1632 * 4294967296) + z1633) - IntKind.wrap IntKind.u64 (z1635 * z1628))) z1630) * z1630)) :: V.int IntKind.u64 (IntKind.wrap IntKind.u64 (IntKind.wrap IntKind.u64 (IntKind.wrap IntKind.u64 (IntKind.wrap IntKind.u64 (z1632 * 4294967296) + z1633) - IntKind.wrap IntKind.u64 (z1635 * z1628)) - IntKind.wrap IntKind.u64 (IntKind.wrap IntKind.u64 (Int.tdiv (IntKind.wrap IntKind.u64 (IntKind.wrap IntKind.u64 (IntKind.wrap IntKind.u64 (z1632 * 4294967296) + z1633) - IntKind.wrap IntKind.u64 (z1635 * z1628))) z1630) * z1630))) :: un 33 []))), σ := [] }) = { T := U :: U :: V.int IntKind.u64 z1628 :: un 5 (V.int IntKind.u64 z1629 :: V.int IntKind.u64 z1630 :: V.int IntKind.u64 z1631 :: U :: U :: U :: V.int IntKind.u64 z1634 :: V.int IntKind.u64 z1635 :: V.int IntKind.u64 (IntKind.wrap IntKind.u64 (IntKind.wrap IntKind.u64 (IntKind.wrap IntKind.u64 (IntKind.wrap IntKind.u64 (z1632 * 4294967296) + z1633) - IntKind.wrap IntKind.u64 (z1635 * z1628)) - IntKind.wrap IntKind.u64 (IntKind.wrap IntKind.u64 (Int.tdiv (IntKind.wrap IntKind.u64 (IntKind.wrap IntKind.u64 (IntKind.wrap IntKind.u64 (z1632 * 4294967296) + z1633) - IntKind.wrap IntKind.u64 (z1635 * z1628))) z1630) * z1630))) :: V.int IntKind.u64 (IntKind.wrap IntKind.u64 (IntKind.wrap IntKind.u64 (IntKind.wrap IntKind.u64 (z1632 * 4294967296) + z1633) - IntKind.wrap IntKind.u64 (z1635 * z1628))) :: V.int IntKind.u64 (IntKind.wrap IntKind.u64 (Int.tdiv (IntKind.wrap IntKind.u64 (IntKind.wrap IntKind.u64 (IntKind.wrap IntKind.u64 (z1632 * 4294967296) + z1633) - IntKind.wrap IntKind.u64 (z1635 * z1628))) z1630)) :: un 116 []), σ := [] } by kernel_rfl]
                      exact h9
                    cases r9 with
                    | e0 z1642 z1643 z1646 z1647 z1649 z1650 =>
                      obtain ⟨z1644, z1645, z1648, z1651, b1652, z1653, b1654, rfl⟩ := hr9
                      rcases ite_eq h with ⟨h10, h⟩ | ⟨h10, h⟩
                      · skip
                        cases h
                      · skip
                        cases h
                        exact call_pathL (gs := [.f, .f, .f, .an (i64 z1421) [], .f, .a, .f, .f, .f, .a, .f, .lp (VX.exit 0) (s87_0_2 z1628 z1629 z1630 z1631 z1632 z1633 z1634 z1635 z1636 b1637 z1638 z1639 z1640 b1641), .f, .lp (VX.exit 2) (s87_2_0 z1642 z1643 z1644 z1645 z1646 z1647 z1648 z1649 z1650 z1651 b1652 z1653 b1654), .f]) (notIn []) rfl rfl (by kernel_rfl) (And.intro (Bool.eq_false_iff.mpr h0) (And.intro (decide_eq_false h1) (And.intro (Bool.eq_false_iff.mpr h2) (And.intro h3 (And.intro (decide_eq_false h4) (And.intro (decide_eq_false h4) (And.intro (decide_eq_false h5) (And.intro (decide_eq_false h4) (And.intro (decide_eq_false h6) (And.intro h7 (And.intro (decide_eq_false h8) (And.intro h9 (And.intro (decide_eq_false h10) True.intro)))))))))))))
                    | e1 z1655 z1656 z1659 z1660 z1662 z1663 =>
                      obtain ⟨z1657, z1658, z1661, z1664, b1665, z1666, z1667, z1668, z1669, b1670, b1671, rfl⟩ := hr9
                      rcases ite_eq h with ⟨h10, h⟩ | ⟨h10, h⟩
                      · skip
                        cases h
                      · skip
                        cases h
                        exact call_pathL (gs := [.f, .f, .f, .an (i64 z1421) [], .f, .a, .f, .f, .f, .a, .f, .lp (VX.exit 0) (s87_0_2 z1628 z1629 z1630 z1631 z1632 z1633 z1634 z1635 z1636 b1637 z1638 z1639 z1640 b1641), .f, .lp (VX.exit 2) (s87_2_1 z1655 z1656 z1657 z1658 z1659 z1660 z1661 z1662 z1663 z1664 b1665 z1666 z1667 z1668 z1669 b1670 b1671), .f]) (notIn []) rfl rfl (by kernel_rfl) (And.intro (Bool.eq_false_iff.mpr h0) (And.intro (decide_eq_false h1) (And.intro (Bool.eq_false_iff.mpr h2) (And.intro h3 (And.intro (decide_eq_false h4) (And.intro (decide_eq_false h4) (And.intro (decide_eq_false h5) (And.intro (decide_eq_false h4) (And.intro (decide_eq_false h6) (And.intro h7 (And.intro (decide_eq_false h8) (And.intro h9 (And.intro (decide_eq_false h10) True.intro)))))))))))))
                    | e2 z1672 z1673 z1676 z1677 z1679 z1680 =>
                      obtain ⟨z1674, z1675, z1678, b1681, z1682, z1683, z1684, b1685, rfl⟩ := hr9
                      rcases ite_eq h with ⟨h10, h⟩ | ⟨h10, h⟩
                      · skip
                        cases h
                      · skip
                        cases h
                        exact call_pathL (gs := [.f, .f, .f, .an (i64 z1421) [], .f, .a, .f, .f, .f, .a, .f, .lp (VX.exit 0) (s87_0_2 z1628 z1629 z1630 z1631 z1632 z1633 z1634 z1635 z1636 b1637 z1638 z1639 z1640 b1641), .f, .lp (VX.exit 2) (s87_2_2 z1672 z1673 z1674 z1675 z1676 z1677 z1678 z1679 z1680 b1681 z1682 z1683 z1684 b1685), .f]) (notIn []) rfl rfl (by kernel_rfl) (And.intro (Bool.eq_false_iff.mpr h0) (And.intro (decide_eq_false h1) (And.intro (Bool.eq_false_iff.mpr h2) (And.intro h3 (And.intro (decide_eq_false h4) (And.intro (decide_eq_false h4) (And.intro (decide_eq_false h5) (And.intro (decide_eq_false h4) (And.intro (decide_eq_false h6) (And.intro h7 (And.intro (decide_eq_false h8) (And.intro h9 (And.intro (decide_eq_false h10) True.intro)))))))))))))
/-! ## 84 -/
inductive A84 where
  | a0 (z1121 : Int)
@[reducible] def A84.out : A84 → V × Store
  | .a0 z1121 => (i64 z1121, [])
def F84 (z1116 : Int) (z1117 : Int) (z1118 : Int) (b1119 : Bool) : Option A84 :=
  if z1116 ≥ z1118 then
   if (b1119) = true then
    some (A84.a0 (-1099511627776))
   else
    some (A84.a0 (1099511627776))
  else
   (F87 (z1116) (z1117) (z1118)).bind fun r => match r with
   | .a0 z1686 z1687 =>
    if (b1119) = true then
     if z1687 > 0 then
      if z1686 < 4611686018427387904 then
       bnd (F45 (w64 (0 - w64 (if 4611686018427387904 < IntKind.wrap IntKind.u64 (z1686 + 1) then 4611686018427387904 else IntKind.wrap IntKind.u64 (z1686 + 1))))) fun z1688 =>
       some (A84.a0 (z1688))
      else
       bnd (F45 (w64 (0 - w64 (if 4611686018427387904 < z1686 then 4611686018427387904 else z1686)))) fun z1689 =>
       some (A84.a0 (z1689))
     else
      bnd (F45 (w64 (0 - w64 (if 4611686018427387904 < z1686 then 4611686018427387904 else z1686)))) fun z1690 =>
      some (A84.a0 (z1690))
    else
     bnd (F45 (w64 (if 4611686018427387904 < z1686 then 4611686018427387904 else z1686))) fun z1691 =>
     some (A84.a0 (z1691))
theorem F84_ok (m : Nat) (z1116 : Int) (z1117 : Int) (z1118 : Int) (b1119 : Bool) (r : A84) (h : F84 z1116 z1117 z1118 b1119 = some r) : call Try.prog X O0 18446744073709551616 (m + 4) 84 ([V.int IntKind.u64 z1116, V.int IntKind.u64 z1117, V.int IntKind.u64 z1118, vb b1119]) ([]) = some r.out := by
  unfold F84 at h
  rcases ite_eq h with ⟨h0, h⟩ | ⟨h0, h⟩
  · skip
    rcases ite_eq h with ⟨h1, h⟩ | ⟨h1, h⟩
    · skip
      cases h
      exact call_pathL (gs := [.t, .t]) (notIn []) rfl rfl (by kernel_rfl) (And.intro (decide_eq_true h0) (And.intro h1 True.intro))
    · skip
      cases h
      exact call_pathL (gs := [.t, .f]) (notIn []) rfl rfl (by kernel_rfl) (And.intro (decide_eq_true h0) (And.intro (Bool.eq_false_iff.mpr h1) True.intro))
  · skip
    obtain ⟨r1, h1, h⟩ := Option.bind_eq_some_iff.mp h
    have h1 := F87_ok (m + 0) (z1116) (z1117) (z1118) r1 h1
    cases r1 with
    | a0 z1686 z1687 =>
      rcases ite_eq h with ⟨h2, h⟩ | ⟨h2, h⟩
      · skip
        rcases ite_eq h with ⟨h3, h⟩ | ⟨h3, h⟩
        · skip
          rcases ite_eq h with ⟨h4, h⟩ | ⟨h4, h⟩
          · skip
            obtain ⟨z1688, h5, h⟩ := bnd_eq h
            cases h
            exact call_pathL (gs := [.f, .an (V.tup [V.int IntKind.u64 z1686, V.int IntKind.u64 z1687]) [], .t, .t, .t, .t, .t, .t, .t, .t, .an (i64 z1688) []]) (notIn []) rfl rfl (by kernel_rfl) (And.intro (decide_eq_false h0) (And.intro h1 (And.intro h2 (And.intro h2 (And.intro h2 (And.intro (decide_eq_true h3) (And.intro (decide_eq_true h3) (And.intro (decide_eq_true h3) (And.intro (decide_eq_true h4) (And.intro h2 (And.intro (F45_ok (m + 1) (w64 (0 - w64 (if 4611686018427387904 < IntKind.wrap IntKind.u64 (z1686 + 1) then 4611686018427387904 else IntKind.wrap IntKind.u64 (z1686 + 1)))) z1688 h5) True.intro)))))))))))
          · skip
            obtain ⟨z1689, h5, h⟩ := bnd_eq h
            cases h
            exact call_pathL (gs := [.f, .an (V.tup [V.int IntKind.u64 z1686, V.int IntKind.u64 z1687]) [], .t, .t, .t, .t, .t, .t, .f, .t, .an (i64 z1689) []]) (notIn []) rfl rfl (by kernel_rfl) (And.intro (decide_eq_false h0) (And.intro h1 (And.intro h2 (And.intro h2 (And.intro h2 (And.intro (decide_eq_true h3) (And.intro (decide_eq_true h3) (And.intro (decide_eq_true h3) (And.intro (decide_eq_false h4) (And.intro h2 (And.intro (F45_ok (m + 1) (w64 (0 - w64 (if 4611686018427387904 < z1686 then 4611686018427387904 else z1686))) z1689 h5) True.intro)))))))))))
        · skip
          obtain ⟨z1690, h4, h⟩ := bnd_eq h
          cases h
          exact call_pathL (gs := [.f, .an (V.tup [V.int IntKind.u64 z1686, V.int IntKind.u64 z1687]) [], .t, .t, .t, .f, .f, .f, .a, .t, .an (i64 z1690) []]) (notIn []) rfl rfl (by kernel_rfl) (And.intro (decide_eq_false h0) (And.intro h1 (And.intro h2 (And.intro h2 (And.intro h2 (And.intro (decide_eq_false h3) (And.intro (decide_eq_false h3) (And.intro (decide_eq_false h3) (And.intro h2 (And.intro (F45_ok (m + 1) (w64 (0 - w64 (if 4611686018427387904 < z1686 then 4611686018427387904 else z1686))) z1690 h4) True.intro))))))))))
      · skip
        obtain ⟨z1691, h3, h⟩ := bnd_eq h
        cases h
        exact call_pathL (gs := [.f, .an (V.tup [V.int IntKind.u64 z1686, V.int IntKind.u64 z1687]) [], .f, .f, .f, .a, .a, .a, .a, .f, .an (i64 z1691) []]) (notIn []) rfl rfl (by kernel_rfl) (And.intro (decide_eq_false h0) (And.intro h1 (And.intro (Bool.eq_false_iff.mpr h2) (And.intro (Bool.eq_false_iff.mpr h2) (And.intro (Bool.eq_false_iff.mpr h2) (And.intro (Bool.eq_false_iff.mpr h2) (And.intro (F45_ok (m + 1) (w64 (if 4611686018427387904 < z1686 then 4611686018427387904 else z1686)) z1691 h3) True.intro)))))))
/-! ## 68 -/
inductive A68 where
  | a0 (z1113 : Int)
@[reducible] def A68.out : A68 → V × Store
  | .a0 z1113 => (i64 z1113, [])
def F68 (z1100 : Int) (z1101 : Int) : Option A68 :=
  bnd (F45 (z1100)) fun z1103 =>
  (F82 (z1103)).bind fun r => match r with
  | .a0 z1108 b1109 =>
   bnd (F45 (z1101)) fun z1110 =>
   (F82 (z1110)).bind fun r => match r with
   | .a0 z1111 b1112 =>
    if (z1111 == 0) = true then
     some (A68.a0 (0))
    else
     (F83 (z1108) (65536)).bind fun r => match r with
     | .a0 z1114 z1115 =>
      (F84 (z1114) (z1115) (z1111) (!b1109 == b1112)).bind fun r => match r with
      | .a0 z1692 =>
       some (A68.a0 (z1692))
theorem F68_ok (m : Nat) (z1100 : Int) (z1101 : Int) (r : A68) (h : F68 z1100 z1101 = some r) : call Try.prog X O0 18446744073709551616 (m + 5) 68 ([i64 z1100, i64 z1101]) ([]) = some r.out := by
  unfold F68 at h
  obtain ⟨z1103, h0, h⟩ := bnd_eq h
  obtain ⟨r1, h1, h⟩ := Option.bind_eq_some_iff.mp h
  have h1 := F82_ok (m + 3) (z1103) r1 h1
  cases r1 with
  | a0 z1108 b1109 =>
    obtain ⟨z1110, h2, h⟩ := bnd_eq h
    obtain ⟨r3, h3, h⟩ := Option.bind_eq_some_iff.mp h
    have h3 := F82_ok (m + 3) (z1110) r3 h3
    cases r3 with
    | a0 z1111 b1112 =>
      rcases ite_eq h with ⟨h4, h⟩ | ⟨h4, h⟩
      · skip
        cases h
        exact call_pathL (gs := [.an (i64 z1103) [], .an (V.tup [V.int IntKind.u64 z1108, vb b1109]) [], .an (i64 z1110) [], .an (V.tup [V.int IntKind.u64 z1111, vb b1112]) [], .t]) (notIn []) rfl rfl (by kernel_rfl) (And.intro (F45_ok (m + 2) (z1100) z1103 h0) (And.intro h1 (And.intro (F45_ok (m + 2) (z1101) z1110 h2) (And.intro h3 (And.intro h4 True.intro)))))
      · skip
        obtain ⟨r5, h5, h⟩ := Option.bind_eq_some_iff.mp h
        have h5 := F83_ok (m + 3) (z1108) (65536) r5 h5
        cases r5 with
        | a0 z1114 z1115 =>
          obtain ⟨r6, h6, h⟩ := Option.bind_eq_some_iff.mp h
          have h6 := F84_ok (m + 0) (z1114) (z1115) (z1111) (!b1109 == b1112) r6 h6
          cases r6 with
          | a0 z1692 =>
            cases h
            exact call_pathL (gs := [.an (i64 z1103) [], .an (V.tup [V.int IntKind.u64 z1108, vb b1109]) [], .an (i64 z1110) [], .an (V.tup [V.int IntKind.u64 z1111, vb b1112]) [], .f, .an (V.tup [V.int IntKind.u64 z1114, V.int IntKind.u64 z1115]) [], .an (i64 z1692) []]) (notIn []) rfl rfl (by kernel_rfl) (And.intro (F45_ok (m + 2) (z1100) z1103 h0) (And.intro h1 (And.intro (F45_ok (m + 2) (z1101) z1110 h2) (And.intro h3 (And.intro (Bool.eq_false_iff.mpr h4) (And.intro h5 (And.intro h6 True.intro)))))))
/-! ## 85 -/
inductive A85 where
  | a0 (z1712 : Int)
@[reducible] def A85.out : A85 → V × Store
  | .a0 z1712 => (i64 z1712, [])
def F85 (z1700 : Int) (z1701 : Int) : Option A85 :=
  bnd (F45 (z1700)) fun z1703 =>
  (F82 (z1703)).bind fun r => match r with
  | .a0 z1704 b1705 =>
   bnd (F45 (z1701)) fun z1706 =>
   (F82 (z1706)).bind fun r => match r with
   | .a0 z1707 b1708 =>
    (F83 (z1704) (z1707)).bind fun r => match r with
    | .a0 z1709 z1710 =>
     (F84 (z1709) (z1710) (65536) (!b1705 == b1708)).bind fun r => match r with
     | .a0 z1711 =>
      some (A85.a0 (z1711))
theorem F85_ok (m : Nat) (z1700 : Int) (z1701 : Int) (r : A85) (h : F85 z1700 z1701 = some r) : call Try.prog X O0 18446744073709551616 (m + 5) 85 ([i64 z1700, i64 z1701]) ([]) = some r.out := by
  unfold F85 at h
  obtain ⟨z1703, h0, h⟩ := bnd_eq h
  obtain ⟨r1, h1, h⟩ := Option.bind_eq_some_iff.mp h
  have h1 := F82_ok (m + 3) (z1703) r1 h1
  cases r1 with
  | a0 z1704 b1705 =>
    obtain ⟨z1706, h2, h⟩ := bnd_eq h
    obtain ⟨r3, h3, h⟩ := Option.bind_eq_some_iff.mp h
    have h3 := F82_ok (m + 3) (z1706) r3 h3
    cases r3 with
    | a0 z1707 b1708 =>
      obtain ⟨r4, h4, h⟩ := Option.bind_eq_some_iff.mp h
      have h4 := F83_ok (m + 3) (z1704) (z1707) r4 h4
      cases r4 with
      | a0 z1709 z1710 =>
        obtain ⟨r5, h5, h⟩ := Option.bind_eq_some_iff.mp h
        have h5 := F84_ok (m + 0) (z1709) (z1710) (65536) (!b1705 == b1708) r5 h5
        cases r5 with
        | a0 z1711 =>
          cases h
          exact call_pathL (gs := [.an (i64 z1703) [], .an (V.tup [V.int IntKind.u64 z1704, vb b1705]) [], .an (i64 z1706) [], .an (V.tup [V.int IntKind.u64 z1707, vb b1708]) [], .an (V.tup [V.int IntKind.u64 z1709, V.int IntKind.u64 z1710]) [], .an (i64 z1711) []]) (notIn []) rfl rfl (by kernel_rfl) (And.intro (F45_ok (m + 2) (z1700) z1703 h0) (And.intro h1 (And.intro (F45_ok (m + 2) (z1701) z1706 h2) (And.intro h3 (And.intro h4 (And.intro h5 True.intro))))))
/-! ## 69 -/
inductive A69 where
  | a0 (z1715 : Int)
@[reducible] def A69.out : A69 → V × Store
  | .a0 z1715 => (i64 z1715, [])
def F69 (z1694 : Int) (z1695 : Int) (z1696 : Int) : Option A69 :=
  bnd (F45 (z1694)) fun z1698 =>
  bnd (F35 (z1695) (w64 (0 - z1698))) fun z1699 =>
  (F85 (z1699) (z1696)).bind fun r => match r with
  | .a0 z1713 =>
   bnd (F35 (z1694) (z1713)) fun z1714 =>
   some (A69.a0 (z1714))
theorem F69_ok (m : Nat) (z1694 : Int) (z1695 : Int) (z1696 : Int) (r : A69) (h : F69 z1694 z1695 z1696 = some r) : call Try.prog X O0 18446744073709551616 (m + 6) 69 ([i64 z1694, i64 z1695, i64 z1696]) ([]) = some r.out := by
  unfold F69 at h
  obtain ⟨z1698, h0, h⟩ := bnd_eq h
  obtain ⟨z1699, h1, h⟩ := bnd_eq h
  obtain ⟨r2, h2, h⟩ := Option.bind_eq_some_iff.mp h
  have h2 := F85_ok (m + 0) (z1699) (z1696) r2 h2
  cases r2 with
  | a0 z1713 =>
    obtain ⟨z1714, h3, h⟩ := bnd_eq h
    cases h
    exact call_pathL (gs := [.an (i64 z1698) [], .an (i64 z1699) [], .an (i64 z1713) [], .an (i64 z1714) []]) (notIn []) rfl rfl (by kernel_rfl) (And.intro (F45_ok (m + 3) (z1694) z1698 h0) (And.intro (F35_ok (m + 2) (z1695) (w64 (0 - z1698)) z1699 h1) (And.intro h2 (And.intro (F35_ok (m + 2) (z1694) (z1713) z1714 h3) True.intro))))
/-! ## 46 -/
inductive A46 where
  | a0 (z1098 : Int) (z1099 : Int)
@[reducible] def A46.out : A46 → V × Store
  | .a0 z1098 z1099 => (V.agg [i64 z1098, i64 z1099], [])
def F46 (z1086 : Int) (z1087 : Int) (z1088 : Int) (z1089 : Int) (z1090 : Int) (z1091 : Int) : Option A46 :=
  (F58 (z1086) (z1087)).bind fun r => match r with
  | .a0 z1093 z1094 =>
   (F58 (z1088) (z1089)).bind fun r => match r with
   | .a0 z1095 z1096 =>
    bnd (F45 (z1090)) fun z1097 =>
    if z1097 ≤ 0 then
     some (A46.a0 (z1093) (z1094))
    else
     if z1097 ≥ z1091 then
      some (A46.a0 (z1095) (z1096))
     else
      (F68 (z1097) (z1091)).bind fun r => match r with
      | .a0 z1693 =>
       (F69 (z1093) (z1095) (z1693)).bind fun r => match r with
       | .a0 z1716 =>
        (F69 (z1094) (z1096) (z1693)).bind fun r => match r with
        | .a0 z1717 =>
         some (A46.a0 (z1716) (z1717))
theorem F46_ok (m : Nat) (z1086 : Int) (z1087 : Int) (z1088 : Int) (z1089 : Int) (z1090 : Int) (z1091 : Int) (r : A46) (h : F46 z1086 z1087 z1088 z1089 z1090 z1091 = some r) : call Try.prog X O0 18446744073709551616 (m + 7) 46 ([V.agg [i64 z1086, i64 z1087], V.agg [i64 z1088, i64 z1089], i64 z1090, i64 z1091]) ([]) = some r.out := by
  unfold F46 at h
  obtain ⟨r0, h0, h⟩ := Option.bind_eq_some_iff.mp h
  have h0 := F58_ok (m + 3) (z1086) (z1087) r0 h0
  cases r0 with
  | a0 z1093 z1094 =>
    obtain ⟨r1, h1, h⟩ := Option.bind_eq_some_iff.mp h
    have h1 := F58_ok (m + 3) (z1088) (z1089) r1 h1
    cases r1 with
    | a0 z1095 z1096 =>
      obtain ⟨z1097, h2, h⟩ := bnd_eq h
      rcases ite_eq h with ⟨h3, h⟩ | ⟨h3, h⟩
      · skip
        cases h
        exact call_pathL (gs := [.a, .an (V.agg [i64 z1093, i64 z1094]) [], .a, .an (V.agg [i64 z1095, i64 z1096]) [], .an (i64 z1097) [], .a, .a, .ft [⟨0, [0], []⟩, ⟨1, [], []⟩, ⟨2, [1], []⟩, ⟨3, [], []⟩, ⟨4, [], []⟩, ⟨5, [], []⟩, ⟨6, [0], [0]⟩, ⟨7, [1], [1]⟩, ⟨8, [], []⟩], .t, .a, .a]) (notIn []) rfl rfl (by kernel_rfl) (And.intro h0 (And.intro h1 (And.intro (F45_ok (m + 4) (z1090) z1097 h2) (And.intro (Eq.refl ([⟨0, [0], []⟩, ⟨1, [], []⟩, ⟨2, [1], []⟩, ⟨3, [], []⟩, ⟨4, [], []⟩, ⟨5, [], []⟩, ⟨6, [0], [0]⟩, ⟨7, [1], [1]⟩, ⟨8, [], []⟩] : List Foot)) (And.intro (decide_eq_true h3) True.intro)))))
      · skip
        rcases ite_eq h with ⟨h4, h⟩ | ⟨h4, h⟩
        · skip
          cases h
          exact call_pathL (gs := [.a, .an (V.agg [i64 z1093, i64 z1094]) [], .a, .an (V.agg [i64 z1095, i64 z1096]) [], .an (i64 z1097) [], .a, .a, .ft [⟨0, [0], []⟩, ⟨1, [], []⟩, ⟨2, [1], []⟩, ⟨3, [], []⟩, ⟨4, [], []⟩, ⟨5, [], []⟩, ⟨6, [0], [0]⟩, ⟨7, [1], [1]⟩, ⟨8, [], []⟩], .f, .t, .a, .a]) (notIn []) rfl rfl (by kernel_rfl) (And.intro h0 (And.intro h1 (And.intro (F45_ok (m + 4) (z1090) z1097 h2) (And.intro (Eq.refl ([⟨0, [0], []⟩, ⟨1, [], []⟩, ⟨2, [1], []⟩, ⟨3, [], []⟩, ⟨4, [], []⟩, ⟨5, [], []⟩, ⟨6, [0], [0]⟩, ⟨7, [1], [1]⟩, ⟨8, [], []⟩] : List Foot)) (And.intro (decide_eq_false h3) (And.intro (decide_eq_true h4) True.intro))))))
        · skip
          obtain ⟨r5, h5, h⟩ := Option.bind_eq_some_iff.mp h
          have h5 := F68_ok (m + 1) (z1097) (z1091) r5 h5
          cases r5 with
          | a0 z1693 =>
            obtain ⟨r6, h6, h⟩ := Option.bind_eq_some_iff.mp h
            have h6 := F69_ok (m + 0) (z1093) (z1095) (z1693) r6 h6
            cases r6 with
            | a0 z1716 =>
              obtain ⟨r7, h7, h⟩ := Option.bind_eq_some_iff.mp h
              have h7 := F69_ok (m + 0) (z1094) (z1096) (z1693) r7 h7
              cases r7 with
              | a0 z1717 =>
                cases h
                exact call_pathL (gs := [.a, .an (V.agg [i64 z1093, i64 z1094]) [], .a, .an (V.agg [i64 z1095, i64 z1096]) [], .an (i64 z1097) [], .a, .a, .ft [⟨0, [0], []⟩, ⟨1, [], []⟩, ⟨2, [1], []⟩, ⟨3, [], []⟩, ⟨4, [], []⟩, ⟨5, [], []⟩, ⟨6, [0], [0]⟩, ⟨7, [1], [1]⟩, ⟨8, [], []⟩], .f, .f, .an (i64 z1693) [], .a, .a, .an (i64 z1716) [], .a, .a, .an (i64 z1717) [], .a, .ft [⟨0, [0], []⟩, ⟨1, [0], []⟩, ⟨2, [1], []⟩, ⟨3, [1], []⟩, ⟨4, [], []⟩, ⟨5, [], []⟩, ⟨6, [0], []⟩, ⟨7, [0], []⟩, ⟨8, [1], []⟩, ⟨9, [1], []⟩, ⟨10, [], []⟩, ⟨11, [], []⟩, ⟨12, [], []⟩, ⟨13, [2], [2]⟩]]) (notIn []) rfl rfl (by kernel_rfl) (And.intro h0 (And.intro h1 (And.intro (F45_ok (m + 4) (z1090) z1097 h2) (And.intro (Eq.refl ([⟨0, [0], []⟩, ⟨1, [], []⟩, ⟨2, [1], []⟩, ⟨3, [], []⟩, ⟨4, [], []⟩, ⟨5, [], []⟩, ⟨6, [0], [0]⟩, ⟨7, [1], [1]⟩, ⟨8, [], []⟩] : List Foot)) (And.intro (decide_eq_false h3) (And.intro (decide_eq_false h4) (And.intro h5 (And.intro h6 (And.intro h7 (And.intro (Eq.refl ([⟨0, [0], []⟩, ⟨1, [0], []⟩, ⟨2, [1], []⟩, ⟨3, [1], []⟩, ⟨4, [], []⟩, ⟨5, [], []⟩, ⟨6, [0], []⟩, ⟨7, [0], []⟩, ⟨8, [1], []⟩, ⟨9, [1], []⟩, ⟨10, [], []⟩, ⟨11, [], []⟩, ⟨12, [], []⟩, ⟨13, [2], [2]⟩] : List Foot)) True.intro))))))))))
/-! ## 25 -/
noncomputable abbrev B25 : Code := (Try.f25.body).getD .skip
inductive R25_0 where
  | e0 (k1768 : Nat) (l1769 : List (List V))
@[reducible] def s25_0_0 (z1760 : Int) (z1761 : Int) (z1762 : Int) (z1763 : Int) (b1764 : Bool) (l1765 : List (List V)) (z1766 : Int) (b1767 : Bool) (k1768 : Nat) (l1769 : List (List V)) : S := { T := U :: i64 z1760 :: i64 z1761 :: V.ptr 0 0 0 :: U :: U :: V.ptr 1 0 0 :: V.ptr 2 0 0 :: i64 z1762 :: i64 z1763 :: un 12 (i64 z1763 :: V.agg [vb b1764, V.list 2 l1765] :: i64 z1766 :: vb b1767 :: un 56 []), σ := [Ob.cells true false 2 [[vb b1764, V.list 2 l1765]], Ob.cells true false 2 [[vb false, V.hs 3 0 0]], Ob.cells true false 2 [[vb false, V.hs 4 0 k1768]], Ob.cells true true 2 [], Ob.cells true true 2 l1769] }
def R25_0.St : R25_0 → VX × S → Prop
  | .e0 k1768 l1769, p => ∃ z1760 : Int, ∃ z1761 : Int, ∃ z1762 : Int, ∃ z1763 : Int, ∃ b1764 : Bool, ∃ l1765 : List (List V), ∃ z1766 : Int, ∃ b1767 : Bool, p = (VX.exit 0, s25_0_0 z1760 z1761 z1762 z1763 b1764 l1765 z1766 b1767 k1768 l1769)
def L25_0 : Nat → Int → Int → Int → Int → Bool → List (List V) → Nat → List (List V) → Option R25_0
  | 0, _, _, _, _, _, _, _, _ => none
  | n + 1, z1722, z1723, z1724, z1725, b1726, l1727, k1728, l1729 =>
    bnd (F21 (b1726) (l1727)) fun z1747 =>
    if z1725 < z1747 then
     (F34 (b1726) (l1727) (z1725)).bind fun r => match r with
     | .a0 z1748 z1749 z1750 z1751 =>
      (F36 (z1748) (z1749) (z1750) (z1751)).bind fun r => match r with
      | .a0 z1752 =>
       bnd (F35 (z1724) (z1752)) fun z1753 =>
       if z1752 > 0 then
        if z1753 > z1722 then
         if z1724 < z1723 then
          if ((↑k1728 : Int) == 0) = true then
           (F46 (z1748) (z1749) (z1750) (z1751) (w64 (z1722 - z1724)) (z1752)).bind fun r => match r with
           | .a0 z1754 z1755 =>
            if 0 + k1728 ≤ List.length l1729 ∧ (k1728 + 1) * 16 ≤ 140737488355328 ∧ k1728 + 1 ≤ 140737488355328 then
             (F46 (z1748) (z1749) (z1750) (z1751) (w64 (z1723 - z1724)) (z1752)).bind fun r => match r with
             | .a0 z1756 z1757 =>
              if 0 + (k1728 + 1) ≤ List.length (List.take k1728 l1729 ++ [[i64 z1754, i64 z1755]]) ∧ (k1728 + 1 + 1) * 16 ≤ 140737488355328 ∧ k1728 + 1 + 1 ≤ 140737488355328 then
               L25_0 n (z1722) (z1723) (z1753) (w64 (z1725 + 1)) (b1726) (l1727) (k1728 + 1 + 1) (List.take (k1728 + 1) (List.take k1728 l1729 ++ [[i64 z1754, i64 z1755]]) ++ [[i64 z1756, i64 z1757]])
              else
               none -- none
            else
             none -- none
          else
           (F46 (z1748) (z1749) (z1750) (z1751) (w64 (z1723 - z1724)) (z1752)).bind fun r => match r with
           | .a0 z1758 z1759 =>
            if 0 + k1728 ≤ List.length l1729 ∧ (k1728 + 1) * 16 ≤ 140737488355328 ∧ k1728 + 1 ≤ 140737488355328 then
             L25_0 n (z1722) (z1723) (z1753) (w64 (z1725 + 1)) (b1726) (l1727) (k1728 + 1) (List.take k1728 l1729 ++ [[i64 z1758, i64 z1759]])
            else
             none -- none
         else
          L25_0 n (z1722) (z1723) (z1753) (w64 (z1725 + 1)) (b1726) (l1727) (k1728) (l1729)
        else
         L25_0 n (z1722) (z1723) (z1753) (w64 (z1725 + 1)) (b1726) (l1727) (k1728) (l1729)
       else
        L25_0 n (z1722) (z1723) (z1753) (w64 (z1725 + 1)) (b1726) (l1727) (k1728) (l1729)
    else
     some (R25_0.e0 (k1728) (l1729))
theorem L25_0_ok (m : Nat) : ∀ (n : Nat) (z1722 : Int) (z1723 : Int) (z1724 : Int) (z1725 : Int) (b1726 : Bool) (l1727 : List (List V)) (k1728 : Nat) (l1729 : List (List V)) (r : R25_0), L25_0 n z1722 z1723 z1724 z1725 b1726 l1727 k1728 l1729 = some r → ∃ st, loopFrom Try.prog X (genO X (call Try.prog X O0 18446744073709551616 (m + 7))) 25 (0) 18446744073709551616 B25 0 n ({ T := U :: i64 z1722 :: i64 z1723 :: V.ptr 0 0 0 :: U :: U :: V.ptr 1 0 0 :: V.ptr 2 0 0 :: i64 z1724 :: i64 z1725 :: un 72 [], σ := [Ob.cells true false 2 [[vb b1726, V.list 2 l1727]], Ob.cells true false 2 [[vb false, V.hs 3 0 0]], Ob.cells true false 2 [[vb false, V.hs 4 0 k1728]], Ob.cells true true 2 [], Ob.cells true true 2 l1729] }) = some st ∧ r.St st
  | 0, _, _, _, _, _, _, _, _, r, h => by cases h
  | n + 1, z1722, z1723, z1724, z1725, b1726, l1727, k1728, l1729, r, h => by
    rw [L25_0] at h
    obtain ⟨z1747, h0, h⟩ := bnd_eq h
    rcases ite_eq h with ⟨h1, h⟩ | ⟨h1, h⟩
    · skip
      obtain ⟨r2, h2, h⟩ := Option.bind_eq_some_iff.mp h
      have h2 := F34_ok (m + 3) (b1726) (l1727) (z1725) r2 h2
      cases r2 with
      | a0 z1748 z1749 z1750 z1751 =>
        obtain ⟨r3, h3, h⟩ := Option.bind_eq_some_iff.mp h
        have h3 := F36_ok (m + 4) (z1748) (z1749) (z1750) (z1751) r3 h3
        cases r3 with
        | a0 z1752 =>
          obtain ⟨z1753, h4, h⟩ := bnd_eq h
          rcases ite_eq h with ⟨h5, h⟩ | ⟨h5, h⟩
          · skip
            rcases ite_eq h with ⟨h6, h⟩ | ⟨h6, h⟩
            · skip
              rcases ite_eq h with ⟨h7, h⟩ | ⟨h7, h⟩
              · skip
                rcases ite_eq h with ⟨h8, h⟩ | ⟨h8, h⟩
                · skip
                  obtain ⟨r9, h9, h⟩ := Option.bind_eq_some_iff.mp h
                  have h9 := F46_ok (m + 0) (z1748) (z1749) (z1750) (z1751) (w64 (z1722 - z1724)) (z1752) r9 h9
                  cases r9 with
                  | a0 z1754 z1755 =>
                    rcases ite_eq h with ⟨h10, h⟩ | ⟨h10, h⟩
                    · skip
                      obtain ⟨r11, h11, h⟩ := Option.bind_eq_some_iff.mp h
                      have h11 := F46_ok (m + 0) (z1748) (z1749) (z1750) (z1751) (w64 (z1723 - z1724)) (z1752) r11 h11
                      cases r11 with
                      | a0 z1756 z1757 =>
                        rcases ite_eq h with ⟨h12, h⟩ | ⟨h12, h⟩
                        · skip
                          obtain ⟨st, hs, hr⟩ := L25_0_ok m n (z1722) (z1723) (z1753) (w64 (z1725 + 1)) (b1726) (l1727) (k1728 + 1 + 1) (List.take (k1728 + 1) (List.take k1728 l1729 ++ [[i64 z1754, i64 z1755]]) ++ [[i64 z1756, i64 z1757]]) r h
                          exact ⟨st, (round_on (gs := [.a, .an (i64 z1747) [], .t, .a, .an (V.tup [V.agg [i64 z1748, i64 z1749], V.agg [i64 z1750, i64 z1751]]) [], .a, .a, .a, .a, .an (i64 z1752) [], .an (i64 z1753) [], .t, .t, .t, .t, .t, .t, .t, .t, .t, .a, .t, .a, .a, .a, .an (V.agg [i64 z1754, i64 z1755]) [], .a, .t, .a, .ft [⟨0, [2], []⟩, ⟨1, [2], []⟩, ⟨2, [8], []⟩, ⟨3, [9], []⟩, ⟨4, [], []⟩, ⟨5, [], []⟩, ⟨6, [], []⟩, ⟨7, [], []⟩, ⟨8, [], []⟩, ⟨9, [10], [10]⟩, ⟨10, [10, 11, 4], [4, 11]⟩, ⟨11, [2], []⟩, ⟨12, [2], [2]⟩], .a, .a, .a, .an (V.agg [i64 z1756, i64 z1757]) [], .a, .t, .a, .ft [⟨0, [2], []⟩, ⟨1, [2], []⟩, ⟨2, [8], []⟩, ⟨3, [9], []⟩, ⟨4, [], []⟩, ⟨5, [], []⟩, ⟨6, [], []⟩, ⟨7, [], []⟩, ⟨8, [], []⟩, ⟨9, [12], [12]⟩, ⟨10, [12, 13, 11], [11, 13]⟩, ⟨11, [2], []⟩, ⟨12, [2], [2]⟩]]) (notIn []) (by kernel_rfl) (And.intro (F21_ok (m + 6) (b1726) (l1727) z1747 h0) (And.intro (decide_eq_true h1) (And.intro h2 (And.intro h3 (And.intro (F35_ok (m + 4) (z1724) (z1752) z1753 h4) (And.intro (decide_eq_true h5) (And.intro (decide_eq_true h5) (And.intro (decide_eq_true h5) (And.intro (decide_eq_true h5) (And.intro (decide_eq_true h6) (And.intro (decide_eq_true h6) (And.intro (decide_eq_true h6) (And.intro (decide_eq_true h6) (And.intro (decide_eq_true h7) (And.intro h8 (And.intro h9 (And.intro (decide_eq_true h10) (And.intro (Eq.refl ([⟨0, [2], []⟩, ⟨1, [2], []⟩, ⟨2, [8], []⟩, ⟨3, [9], []⟩, ⟨4, [], []⟩, ⟨5, [], []⟩, ⟨6, [], []⟩, ⟨7, [], []⟩, ⟨8, [], []⟩, ⟨9, [10], [10]⟩, ⟨10, [10, 11, 4], [4, 11]⟩, ⟨11, [2], []⟩, ⟨12, [2], [2]⟩] : List Foot)) (And.intro h11 (And.intro (decide_eq_true h12) (And.intro (Eq.refl ([⟨0, [2], []⟩, ⟨1, [2], []⟩, ⟨2, [8], []⟩, ⟨3, [9], []⟩, ⟨4, [], []⟩, ⟨5, [], []⟩, ⟨6, [], []⟩, ⟨7, [], []⟩, ⟨8, [], []⟩, ⟨9, [12], [12]⟩, ⟨10, [12, 13, 11], [11, 13]⟩, ⟨11, [2], []⟩, ⟨12, [2], [2]⟩] : List Foot)) True.intro))))))))))))))))))))) n).trans hs, hr⟩
                        · skip
                          cases h
                    · skip
                      cases h
                · skip
                  obtain ⟨r9, h9, h⟩ := Option.bind_eq_some_iff.mp h
                  have h9 := F46_ok (m + 0) (z1748) (z1749) (z1750) (z1751) (w64 (z1723 - z1724)) (z1752) r9 h9
                  cases r9 with
                  | a0 z1758 z1759 =>
                    rcases ite_eq h with ⟨h10, h⟩ | ⟨h10, h⟩
                    · skip
                      obtain ⟨st, hs, hr⟩ := L25_0_ok m n (z1722) (z1723) (z1753) (w64 (z1725 + 1)) (b1726) (l1727) (k1728 + 1) (List.take k1728 l1729 ++ [[i64 z1758, i64 z1759]]) r h
                      exact ⟨st, (round_on (gs := [.a, .an (i64 z1747) [], .t, .a, .an (V.tup [V.agg [i64 z1748, i64 z1749], V.agg [i64 z1750, i64 z1751]]) [], .a, .a, .a, .a, .an (i64 z1752) [], .an (i64 z1753) [], .t, .t, .t, .t, .t, .t, .t, .t, .t, .a, .f, .a, .a, .a, .an (V.agg [i64 z1758, i64 z1759]) [], .a, .t, .a, .ft [⟨0, [2], []⟩, ⟨1, [2], []⟩, ⟨2, [8], []⟩, ⟨3, [9], []⟩, ⟨4, [], []⟩, ⟨5, [], []⟩, ⟨6, [], []⟩, ⟨7, [], []⟩, ⟨8, [], []⟩, ⟨9, [10], [10]⟩, ⟨10, [10, 11, 4], [4, 11]⟩, ⟨11, [2], []⟩, ⟨12, [2], [2]⟩]]) (notIn []) (by kernel_rfl) (And.intro (F21_ok (m + 6) (b1726) (l1727) z1747 h0) (And.intro (decide_eq_true h1) (And.intro h2 (And.intro h3 (And.intro (F35_ok (m + 4) (z1724) (z1752) z1753 h4) (And.intro (decide_eq_true h5) (And.intro (decide_eq_true h5) (And.intro (decide_eq_true h5) (And.intro (decide_eq_true h5) (And.intro (decide_eq_true h6) (And.intro (decide_eq_true h6) (And.intro (decide_eq_true h6) (And.intro (decide_eq_true h6) (And.intro (decide_eq_true h7) (And.intro (Bool.eq_false_iff.mpr h8) (And.intro h9 (And.intro (decide_eq_true h10) (And.intro (Eq.refl ([⟨0, [2], []⟩, ⟨1, [2], []⟩, ⟨2, [8], []⟩, ⟨3, [9], []⟩, ⟨4, [], []⟩, ⟨5, [], []⟩, ⟨6, [], []⟩, ⟨7, [], []⟩, ⟨8, [], []⟩, ⟨9, [10], [10]⟩, ⟨10, [10, 11, 4], [4, 11]⟩, ⟨11, [2], []⟩, ⟨12, [2], [2]⟩] : List Foot)) True.intro)))))))))))))))))) n).trans hs, hr⟩
                    · skip
                      cases h
              · skip
                obtain ⟨st, hs, hr⟩ := L25_0_ok m n (z1722) (z1723) (z1753) (w64 (z1725 + 1)) (b1726) (l1727) (k1728) (l1729) r h
                exact ⟨st, (round_on (gs := [.a, .an (i64 z1747) [], .t, .a, .an (V.tup [V.agg [i64 z1748, i64 z1749], V.agg [i64 z1750, i64 z1751]]) [], .a, .a, .a, .a, .an (i64 z1752) [], .an (i64 z1753) [], .t, .t, .t, .t, .t, .t, .t, .t, .f]) (notIn []) (by kernel_rfl) (And.intro (F21_ok (m + 6) (b1726) (l1727) z1747 h0) (And.intro (decide_eq_true h1) (And.intro h2 (And.intro h3 (And.intro (F35_ok (m + 4) (z1724) (z1752) z1753 h4) (And.intro (decide_eq_true h5) (And.intro (decide_eq_true h5) (And.intro (decide_eq_true h5) (And.intro (decide_eq_true h5) (And.intro (decide_eq_true h6) (And.intro (decide_eq_true h6) (And.intro (decide_eq_true h6) (And.intro (decide_eq_true h6) (And.intro (decide_eq_false h7) True.intro)))))))))))))) n).trans hs, hr⟩
            · skip
              obtain ⟨st, hs, hr⟩ := L25_0_ok m n (z1722) (z1723) (z1753) (w64 (z1725 + 1)) (b1726) (l1727) (k1728) (l1729) r h
              exact ⟨st, (round_on (gs := [.a, .an (i64 z1747) [], .t, .a, .an (V.tup [V.agg [i64 z1748, i64 z1749], V.agg [i64 z1750, i64 z1751]]) [], .a, .a, .a, .a, .an (i64 z1752) [], .an (i64 z1753) [], .t, .t, .t, .t, .f, .f, .f, .f, .a]) (notIn []) (by kernel_rfl) (And.intro (F21_ok (m + 6) (b1726) (l1727) z1747 h0) (And.intro (decide_eq_true h1) (And.intro h2 (And.intro h3 (And.intro (F35_ok (m + 4) (z1724) (z1752) z1753 h4) (And.intro (decide_eq_true h5) (And.intro (decide_eq_true h5) (And.intro (decide_eq_true h5) (And.intro (decide_eq_true h5) (And.intro (decide_eq_false h6) (And.intro (decide_eq_false h6) (And.intro (decide_eq_false h6) (And.intro (decide_eq_false h6) True.intro))))))))))))) n).trans hs, hr⟩
          · skip
            obtain ⟨st, hs, hr⟩ := L25_0_ok m n (z1722) (z1723) (z1753) (w64 (z1725 + 1)) (b1726) (l1727) (k1728) (l1729) r h
            exact ⟨st, (round_on (gs := [.a, .an (i64 z1747) [], .t, .a, .an (V.tup [V.agg [i64 z1748, i64 z1749], V.agg [i64 z1750, i64 z1751]]) [], .a, .a, .a, .a, .an (i64 z1752) [], .an (i64 z1753) [], .f, .f, .f, .f, .a, .a, .a, .a, .a]) (notIn []) (by kernel_rfl) (And.intro (F21_ok (m + 6) (b1726) (l1727) z1747 h0) (And.intro (decide_eq_true h1) (And.intro h2 (And.intro h3 (And.intro (F35_ok (m + 4) (z1724) (z1752) z1753 h4) (And.intro (decide_eq_false h5) (And.intro (decide_eq_false h5) (And.intro (decide_eq_false h5) (And.intro (decide_eq_false h5) True.intro))))))))) n).trans hs, hr⟩
    · skip
      cases h
      exact ⟨_, round_out (gs := [.a, .an (i64 z1747) [], .f]) (notIn []) (by kernel_rfl) rfl (And.intro (F21_ok (m + 6) (b1726) (l1727) z1747 h0) (And.intro (decide_eq_false h1) True.intro)) n, z1722, z1723, z1724, z1725, b1726, l1727, z1747, decide (z1725 < z1747), rfl⟩
inductive A25 where
  | a0 (b1744 : Bool) (k1745 : Nat) (l1746 : List (List V))
@[reducible] def A25.out : A25 → V × Store
  | .a0 b1744 k1745 l1746 => (V.agg [vb b1744, V.hs 0 0 k1745], [Ob.cells true true 2 l1746])
def F25 (b1065 : Bool) (l1066 : List (List V)) (z1067 : Int) (z1068 : Int) : Option A25 :=
  bnd (F45 (z1067)) fun z1742 =>
  bnd (F45 (z1068)) fun z1743 =>
  if z1742 ≥ z1743 then
   some (A25.a0 (false) (0) ([]))
  else
   (L25_0 18446744073709551616 (z1742) (z1743) (0) (0) (b1065) (l1066) (0) ([])).bind fun r => match r with
   | .e0 k1778 l1779 =>
    some (A25.a0 (false) (k1778) (l1779))
theorem F25_ok (m : Nat) (b1065 : Bool) (l1066 : List (List V)) (z1067 : Int) (z1068 : Int) (r : A25) (h : F25 b1065 l1066 z1067 z1068 = some r) : call Try.prog X O0 18446744073709551616 (m + 8) 25 ([V.agg [vb b1065, V.list 2 l1066], i64 z1067, i64 z1068]) ([]) = some r.out := by
  unfold F25 at h
  obtain ⟨z1742, h0, h⟩ := bnd_eq h
  obtain ⟨z1743, h1, h⟩ := bnd_eq h
  rcases ite_eq h with ⟨h2, h⟩ | ⟨h2, h⟩
  · skip
    cases h
    exact call_pathL (gs := [.an (i64 z1742) [], .an (i64 z1743) [], .t, .a, .a]) (notIn []) rfl rfl (by kernel_rfl) (And.intro (F45_ok (m + 5) (z1067) z1742 h0) (And.intro (F45_ok (m + 5) (z1068) z1743 h1) (And.intro (decide_eq_true h2) True.intro)))
  · skip
    obtain ⟨r3, h3, h⟩ := Option.bind_eq_some_iff.mp h
    obtain ⟨st3, h3, hr3⟩ := L25_0_ok m 18446744073709551616 (z1742) (z1743) (0) (0) (b1065) (l1066) (0) ([]) r3 h3
    have h3 : loopRun Try.prog X (genO X (call Try.prog X O0 18446744073709551616 (m + 7))) 25 (0) 18446744073709551616 B25 0 ({ T := V.agg [vb b1065, V.list 2 l1066] :: i64 z1742 :: i64 z1743 :: V.ptr 0 0 0 :: U :: U :: V.ptr 1 0 0 :: V.ptr 2 0 0 :: i64 0 :: i64 0 :: un 4 (i64 z1067 :: i64 z1742 :: i64 z1068 :: i64 z1743 :: i64 z1742 :: i64 z1743 :: vb (decide (z1742 ≥ z1743)) :: un 61 []), σ := [Ob.cells true false 2 [[vb b1065, V.list 2 l1066]], Ob.cells true false 2 [[vb false, V.nilS]], Ob.cells true false 2 [[vb false, V.nilS]]] }) = some st3 := by
      rw [loopRun_from, show pre X 25 (0) 0 ({ T := V.agg [vb b1065, V.list 2 l1066] :: i64 z1742 :: i64 z1743 :: V.ptr 0 0 0 :: U :: U :: V.ptr 1 0 0 :: V.ptr 2 0 0 :: i64 0 :: i64 0 :: un 4 (i64 z1067 :: i64 z1742 :: i64 z1068 :: i64 z1743 :: i64 z1742 :: i64 z1743 :: vb (decide (z1742 ≥ z1743)) :: un 61 []), σ := [Ob.cells true false 2 [[vb b1065, V.list 2 l1066]], Ob.cells true false 2 [[vb false, V.nilS]], Ob.cells true false 2 [[vb false, V.nilS]]] }) = { T := U :: i64 z1742 :: i64 z1743 :: V.ptr 0 0 0 :: U :: U :: V.ptr 1 0 0 :: V.ptr 2 0 0 :: i64 0 :: i64 0 :: un 72 [], σ := [Ob.cells true false 2 [[vb b1065, V.list 2 l1066]], Ob.cells true false 2 [[vb false, V.hs 3 0 0]], Ob.cells true false 2 [[vb false, V.hs 4 0 0]], Ob.cells true true 2 [], Ob.cells true true 2 []] } by kernel_rfl]
      exact h3
    cases r3 with
    | e0 k1778 l1779 =>
      obtain ⟨z1770, z1771, z1772, z1773, b1774, l1775, z1776, b1777, rfl⟩ := hr3
      cases h
      exact call_pathL (gs := [.an (i64 z1742) [], .an (i64 z1743) [], .f, .lp (VX.exit 0) (s25_0_0 z1770 z1771 z1772 z1773 b1774 l1775 z1776 b1777 k1778 l1779), .a, .a]) (notIn []) rfl rfl (by kernel_rfl) (And.intro (F45_ok (m + 5) (z1067) z1742 h0) (And.intro (F45_ok (m + 5) (z1068) z1743 h1) (And.intro (decide_eq_false h2) (And.intro h3 True.intro))))
/-! ## 44 -/
noncomputable abbrev B44 : Code := (Try.f44.body).getD .skip
inductive R44_0 where
  | e0 (k1816 : Nat) (l1824 : List (List V))
  | e1 (k1826 : Nat) (l1833 : List (List V))
@[reducible] def s44_0_0 (l1815 : List (List V)) (k1816 : Nat) (z1817 : Int) (z1818 : Int) (z1819 : Int) (b1820 : Bool) (b1821 : Bool) (b1822 : Bool) (l1823 : List (List V)) (l1824 : List (List V)) : S := { T := U :: V.list 1 l1815 :: V.ptr 0 0 0 :: U :: U :: V.hs 1 0 k1816 :: i64 z1817 :: i64 z1818 :: i64 z1819 :: un 15 (i64 z1819 :: vb b1820 :: vb b1820 :: i64 z1818 :: i64 z1817 :: vb b1821 :: vb b1821 :: un 30 []), σ := [Ob.cells true false 2 [[vb b1822, V.list 2 l1823]], Ob.cells true true 2 l1824] }
@[reducible] def s44_0_1 (l1825 : List (List V)) (k1826 : Nat) (z1827 : Int) (z1828 : Int) (z1829 : Int) (b1830 : Bool) (b1831 : Bool) (l1832 : List (List V)) (l1833 : List (List V)) : S := { T := U :: V.list 1 l1825 :: V.ptr 0 0 0 :: U :: U :: V.hs 1 0 k1826 :: i64 z1827 :: i64 z1828 :: i64 z1829 :: un 15 (i64 z1829 :: vb b1830 :: vb b1830 :: E :: E :: E :: vb false :: un 30 []), σ := [Ob.cells true false 2 [[vb b1831, V.list 2 l1832]], Ob.cells true true 2 l1833] }
def R44_0.St : R44_0 → VX × S → Prop
  | .e0 k1816 l1824, p => ∃ l1815 : List (List V), ∃ z1817 : Int, ∃ z1818 : Int, ∃ z1819 : Int, ∃ b1820 : Bool, ∃ b1821 : Bool, ∃ b1822 : Bool, ∃ l1823 : List (List V), p = (VX.exit 0, s44_0_0 l1815 k1816 z1817 z1818 z1819 b1820 b1821 b1822 l1823 l1824)
  | .e1 k1826 l1833, p => ∃ l1825 : List (List V), ∃ z1827 : Int, ∃ z1828 : Int, ∃ z1829 : Int, ∃ b1830 : Bool, ∃ b1831 : Bool, ∃ l1832 : List (List V), p = (VX.exit 0, s44_0_1 l1825 k1826 z1827 z1828 z1829 b1830 b1831 l1832 l1833)
def L44_0 : Nat → List (List V) → Nat → Int → Int → Int → Bool → List (List V) → List (List V) → Option R44_0
  | 0, _, _, _, _, _, _, _, _ => none
  | n + 1, l1783, k1784, z1785, z1786, z1787, b1788, l1789, l1790 =>
    if z1787 < 128 then
     if z1786 < z1785 then
      if (↑(List.length l1783) : Int) = 0 then
       none -- none
      else
       if 0 ≤ Int.tmod z1787 (↑(List.length l1783) : Int) then
        ((l1783[Int.toNat (Int.tmod z1787 (↑(List.length l1783) : Int))]?).bind W2.dec).bind fun e1811 =>
        if (Int.tmod z1787 2 == 0) = true then
         (F25 (b1788) (l1789) (z1786) (w64 (z1786 + e1811.c0))).bind fun r => match r with
         | .a0 b1812 k1813 l1814 =>
          if (↑k1813 : Int) ≥ 2 then
           if 0 + k1813 ≤ List.length l1814 then
            if 0 + k1784 ≤ List.length l1790 ∧ (k1784 + 1) * 32 ≤ 140737488355328 ∧ k1784 + 1 ≤ 140737488355328 then
             L44_0 n (l1783) (k1784 + 1) (z1785) (w64 (z1786 + e1811.c0)) (w64 (z1787 + 1)) (b1788) (l1789) (List.take k1784 l1790 ++ [[vb b1812, V.list 2 (List.take k1813 l1814)]])
            else
             none -- none
           else
            none -- none
          else
           L44_0 n (l1783) (k1784) (z1785) (w64 (z1786 + e1811.c0)) (w64 (z1787 + 1)) (b1788) (l1789) (l1790)
        else
         L44_0 n (l1783) (k1784) (z1785) (w64 (z1786 + e1811.c0)) (w64 (z1787 + 1)) (b1788) (l1789) (l1790)
       else
        none -- none
     else
      some (R44_0.e0 (k1784) (l1790))
    else
     some (R44_0.e1 (k1784) (l1790))
theorem L44_0_ok (m : Nat) : ∀ (n : Nat) (l1783 : List (List V)) (k1784 : Nat) (z1785 : Int) (z1786 : Int) (z1787 : Int) (b1788 : Bool) (l1789 : List (List V)) (l1790 : List (List V)) (r : R44_0), L44_0 n l1783 k1784 z1785 z1786 z1787 b1788 l1789 l1790 = some r → ∃ st, loopFrom Try.prog X (genO X (call Try.prog X O0 18446744073709551616 (m + 8))) 44 (0) 18446744073709551616 B44 0 n ({ T := U :: V.list 1 l1783 :: V.ptr 0 0 0 :: U :: U :: V.hs 1 0 k1784 :: i64 z1785 :: i64 z1786 :: i64 z1787 :: un 52 [], σ := [Ob.cells true false 2 [[vb b1788, V.list 2 l1789]], Ob.cells true true 2 l1790] }) = some st ∧ r.St st
  | 0, _, _, _, _, _, _, _, _, r, h => by cases h
  | n + 1, l1783, k1784, z1785, z1786, z1787, b1788, l1789, l1790, r, h => by
    rw [L44_0] at h
    rcases ite_eq h with ⟨h0, h⟩ | ⟨h0, h⟩
    · skip
      rcases ite_eq h with ⟨h1, h⟩ | ⟨h1, h⟩
      · skip
        rcases ite_eq h with ⟨h2, h⟩ | ⟨h2, h⟩
        · skip
          cases h
        · skip
          rcases ite_eq h with ⟨h3, h⟩ | ⟨h3, h⟩
          · skip
            obtain ⟨e1811, h4, h⟩ := Option.bind_eq_some_iff.mp h
            rcases ite_eq h with ⟨h5, h⟩ | ⟨h5, h⟩
            · skip
              obtain ⟨r6, h6, h⟩ := Option.bind_eq_some_iff.mp h
              have h6 := F25_ok (m + 0) (b1788) (l1789) (z1786) (w64 (z1786 + e1811.c0)) r6 h6
              cases r6 with
              | a0 b1812 k1813 l1814 =>
                rcases ite_eq h with ⟨h7, h⟩ | ⟨h7, h⟩
                · skip
                  rcases ite_eq h with ⟨h8, h⟩ | ⟨h8, h⟩
                  · skip
                    rcases ite_eq h with ⟨h9, h⟩ | ⟨h9, h⟩
                    · skip
                      obtain ⟨st, hs, hr⟩ := L44_0_ok m n (l1783) (k1784 + 1) (z1785) (w64 (z1786 + e1811.c0)) (w64 (z1787 + 1)) (b1788) (l1789) (List.take k1784 l1790 ++ [[vb b1812, V.list 2 (List.take k1813 l1814)]]) r h
                      exact ⟨st, (round_on (gs := [.t, .t, .t, .t, .t, .f, .t, .el (W2.cells e1811), .a, .t, .a, .an (V.agg [vb b1812, V.hs 0 0 k1813]) [Ob.cells true true 2 l1814], .a, .a, .t, .a, .t, .a, .t]) (notIn []) (by kernel_rfl) (And.intro (decide_eq_true h0) (And.intro (decide_eq_true h0) (And.intro (decide_eq_true h0) (And.intro (decide_eq_true h0) (And.intro (decide_eq_true h1) (And.intro (decide_eq_false h2) (And.intro (decide_eq_true h3) (And.intro (W2.dec_ok h4) (And.intro h5 (And.intro h6 (And.intro (decide_eq_true h7) (And.intro (decide_eq_true h8) (And.intro (decide_eq_true h9) True.intro))))))))))))) n).trans hs, hr⟩
                    · skip
                      cases h
                  · skip
                    cases h
                · skip
                  obtain ⟨st, hs, hr⟩ := L44_0_ok m n (l1783) (k1784) (z1785) (w64 (z1786 + e1811.c0)) (w64 (z1787 + 1)) (b1788) (l1789) (l1790) r h
                  exact ⟨st, (round_on (gs := [.t, .t, .t, .t, .t, .f, .t, .el (W2.cells e1811), .a, .t, .a, .an (V.agg [vb b1812, V.hs 0 0 k1813]) [Ob.cells true true 2 l1814], .a, .a, .f]) (notIn []) (by kernel_rfl) (And.intro (decide_eq_true h0) (And.intro (decide_eq_true h0) (And.intro (decide_eq_true h0) (And.intro (decide_eq_true h0) (And.intro (decide_eq_true h1) (And.intro (decide_eq_false h2) (And.intro (decide_eq_true h3) (And.intro (W2.dec_ok h4) (And.intro h5 (And.intro h6 (And.intro (decide_eq_false h7) True.intro))))))))))) n).trans hs, hr⟩
            · skip
              obtain ⟨st, hs, hr⟩ := L44_0_ok m n (l1783) (k1784) (z1785) (w64 (z1786 + e1811.c0)) (w64 (z1787 + 1)) (b1788) (l1789) (l1790) r h
              exact ⟨st, (round_on (gs := [.t, .t, .t, .t, .t, .f, .t, .el (W2.cells e1811), .a, .f]) (notIn []) (by kernel_rfl) (And.intro (decide_eq_true h0) (And.intro (decide_eq_true h0) (And.intro (decide_eq_true h0) (And.intro (decide_eq_true h0) (And.intro (decide_eq_true h1) (And.intro (decide_eq_false h2) (And.intro (decide_eq_true h3) (And.intro (W2.dec_ok h4) (And.intro (Bool.eq_false_iff.mpr h5) True.intro))))))))) n).trans hs, hr⟩
          · skip
            cases h
      · skip
        cases h
        exact ⟨_, round_out (gs := [.t, .t, .t, .t, .f]) (notIn []) (by kernel_rfl) rfl (And.intro (decide_eq_true h0) (And.intro (decide_eq_true h0) (And.intro (decide_eq_true h0) (And.intro (decide_eq_true h0) (And.intro (decide_eq_false h1) True.intro))))) n, l1783, z1785, z1786, z1787, decide (z1787 < 128), decide (z1786 < z1785), b1788, l1789, rfl⟩
    · skip
      cases h
      exact ⟨_, round_out (gs := [.f, .f, .f, .f, .a]) (notIn []) (by kernel_rfl) rfl (And.intro (decide_eq_false h0) (And.intro (decide_eq_false h0) (And.intro (decide_eq_false h0) (And.intro (decide_eq_false h0) True.intro)))) n, l1783, z1785, z1786, z1787, decide (z1787 < 128), b1788, l1789, rfl⟩
inductive A44 where
  | a0 (k1804 : Nat) (l1805 : List (List V))
@[reducible] def A44.out : A44 → V × Store
  | .a0 k1804 l1805 => (V.hs 0 0 k1804, [Ob.cells true true 2 l1805])
def F44 (b1040 : Bool) (l1041 : List (List V)) (l1042 : List (List V)) : Option A44 :=
  if ((↑(List.length l1042) : Int) == 0) = true then
   (F66 (b1040) (l1041)).bind fun r => match r with
   | .a0 b1801 k1802 l1803 =>
    if 0 + k1802 ≤ List.length l1803 then
     some (A44.a0 (1) ([[vb b1801, V.list 2 (List.take k1802 l1803)]]))
    else
     none -- none
  else
   (F43 (l1042)).bind fun r => match r with
   | .a0 b1806 =>
    if (!b1806) = true then
     (F66 (b1040) (l1041)).bind fun r => match r with
     | .a0 b1807 k1808 l1809 =>
      if 0 + k1808 ≤ List.length l1809 then
       some (A44.a0 (1) ([[vb b1807, V.list 2 (List.take k1808 l1809)]]))
      else
       none -- none
    else
     (F13 (b1040) (l1041)).bind fun r => match r with
     | .a0 z1810 =>
      (L44_0 18446744073709551616 (l1042) (0) (z1810) (0) (0) (b1040) (l1041) ([])).bind fun r => match r with
      | .e0 k1835 l1843 =>
       some (A44.a0 (k1835) (l1843))
      | .e1 k1845 l1852 =>
       some (A44.a0 (k1845) (l1852))
theorem F44_ok (m : Nat) (b1040 : Bool) (l1041 : List (List V)) (l1042 : List (List V)) (r : A44) (h : F44 b1040 l1041 l1042 = some r) : call Try.prog X O0 18446744073709551616 (m + 9) 44 ([V.agg [vb b1040, V.list 2 l1041], V.list 1 l1042]) ([]) = some r.out := by
  unfold F44 at h
  rcases ite_eq h with ⟨h0, h⟩ | ⟨h0, h⟩
  · skip
    obtain ⟨r1, h1, h⟩ := Option.bind_eq_some_iff.mp h
    have h1 := F66_ok (m + 7) (b1040) (l1041) r1 h1
    cases r1 with
    | a0 b1801 k1802 l1803 =>
      rcases ite_eq h with ⟨h2, h⟩ | ⟨h2, h⟩
      · skip
        cases h
        exact call_pathL (gs := [.t, .t, .t, .t, .a, .a, .an (V.agg [vb b1801, V.hs 0 0 k1802]) [Ob.cells true true 2 l1803], .t]) (notIn []) rfl rfl (by kernel_rfl) (And.intro h0 (And.intro h0 (And.intro h0 (And.intro h0 (And.intro h1 (And.intro (decide_eq_true h2) True.intro))))))
      · skip
        cases h
  · skip
    obtain ⟨r1, h1, h⟩ := Option.bind_eq_some_iff.mp h
    have h1 := F43_ok (m + 7) (l1042) r1 h1
    cases r1 with
    | a0 b1806 =>
      rcases ite_eq h with ⟨h2, h⟩ | ⟨h2, h⟩
      · skip
        obtain ⟨r3, h3, h⟩ := Option.bind_eq_some_iff.mp h
        have h3 := F66_ok (m + 7) (b1040) (l1041) r3 h3
        cases r3 with
        | a0 b1807 k1808 l1809 =>
          rcases ite_eq h with ⟨h4, h⟩ | ⟨h4, h⟩
          · skip
            cases h
            exact call_pathL (gs := [.f, .f, .an (vb b1806) [], .f, .f, .t, .a, .an (V.agg [vb b1807, V.hs 0 0 k1808]) [Ob.cells true true 2 l1809], .t]) (notIn []) rfl rfl (by kernel_rfl) (And.intro (Bool.eq_false_iff.mpr h0) (And.intro (Bool.eq_false_iff.mpr h0) (And.intro h1 (And.intro (Bool.eq_false_iff.mpr h0) (And.intro (Bool.eq_false_iff.mpr h0) (And.intro h2 (And.intro h3 (And.intro (decide_eq_true h4) True.intro))))))))
          · skip
            cases h
      · skip
        obtain ⟨r3, h3, h⟩ := Option.bind_eq_some_iff.mp h
        have h3 := F13_ok (m + 3) (b1040) (l1041) r3 h3
        cases r3 with
        | a0 z1810 =>
          obtain ⟨r4, h4, h⟩ := Option.bind_eq_some_iff.mp h
          obtain ⟨st4, h4, hr4⟩ := L44_0_ok m 18446744073709551616 (l1042) (0) (z1810) (0) (0) (b1040) (l1041) ([]) r4 h4
          have h4 : loopRun Try.prog X (genO X (call Try.prog X O0 18446744073709551616 (m + 8))) 44 (0) 18446744073709551616 B44 0 ({ T := V.agg [vb b1040, V.list 2 l1041] :: V.list 1 l1042 :: V.ptr 0 0 0 :: U :: V.nilS :: V.nilS :: i64 z1810 :: i64 0 :: i64 0 :: U :: U :: V.list 1 l1042 :: i64 (↑(List.length l1042) : Int) :: vb ((↑(List.length l1042) : Int) == 0) :: vb ((↑(List.length l1042) : Int) == 0) :: V.list 1 l1042 :: vb b1806 :: (vb !b1806) :: (vb !b1806) :: U :: U :: U :: V.agg [vb b1040, V.list 2 l1041] :: i64 z1810 :: un 37 [], σ := [Ob.cells true false 2 [[vb b1040, V.list 2 l1041]]] }) = some st4 := by
            rw [loopRun_from, show pre X 44 (0) 0 ({ T := V.agg [vb b1040, V.list 2 l1041] :: V.list 1 l1042 :: V.ptr 0 0 0 :: U :: V.nilS :: V.nilS :: i64 z1810 :: i64 0 :: i64 0 :: U :: U :: V.list 1 l1042 :: i64 (↑(List.length l1042) : Int) :: vb ((↑(List.length l1042) : Int) == 0) :: vb ((↑(List.length l1042) : Int) == 0) :: V.list 1 l1042 :: vb b1806 :: (vb !b1806) :: (vb !b1806) :: U :: U :: U :: V.agg [vb b1040, V.list 2 l1041] :: i64 z1810 :: un 37 [], σ := [Ob.cells true false 2 [[vb b1040, V.list 2 l1041]]] }) = { T := U :: V.list 1 l1042 :: V.ptr 0 0 0 :: U :: U :: V.hs 1 0 0 :: i64 z1810 :: i64 0 :: i64 0 :: un 52 [], σ := [Ob.cells true false 2 [[vb b1040, V.list 2 l1041]], Ob.cells true true 2 []] } by kernel_rfl]
            exact h4
          cases r4 with
          | e0 k1835 l1843 =>
            obtain ⟨l1834, z1836, z1837, z1838, b1839, b1840, b1841, l1842, rfl⟩ := hr4
            cases h
            exact call_pathL (gs := [.f, .f, .an (vb b1806) [], .f, .f, .f, .a, .an (i64 z1810) [], .lp (VX.exit 0) (s44_0_0 l1834 k1835 z1836 z1837 z1838 b1839 b1840 b1841 l1842 l1843)]) (notIn []) rfl rfl (by kernel_rfl) (And.intro (Bool.eq_false_iff.mpr h0) (And.intro (Bool.eq_false_iff.mpr h0) (And.intro h1 (And.intro (Bool.eq_false_iff.mpr h0) (And.intro (Bool.eq_false_iff.mpr h0) (And.intro (Bool.eq_false_iff.mpr h2) (And.intro h3 (And.intro h4 True.intro))))))))
          | e1 k1845 l1852 =>
            obtain ⟨l1844, z1846, z1847, z1848, b1849, b1850, l1851, rfl⟩ := hr4
            cases h
            exact call_pathL (gs := [.f, .f, .an (vb b1806) [], .f, .f, .f, .a, .an (i64 z1810) [], .lp (VX.exit 0) (s44_0_1 l1844 k1845 z1846 z1847 z1848 b1849 b1850 l1851 l1852)]) (notIn []) rfl rfl (by kernel_rfl) (And.intro (Bool.eq_false_iff.mpr h0) (And.intro (Bool.eq_false_iff.mpr h0) (And.intro h1 (And.intro (Bool.eq_false_iff.mpr h0) (And.intro (Bool.eq_false_iff.mpr h0) (And.intro (Bool.eq_false_iff.mpr h2) (And.intro h3 (And.intro h4 True.intro))))))))
/-! ## 19 -/
noncomputable abbrev B19 : Code := (Try.f19.body).getD .skip
inductive R19_0 where
  | e0
  | e1
@[reducible] def s19_0_0 (l1912 : List (List V)) (l1913 : List (List V)) (z1914 : Int) (z1915 : Int) (b1916 : Bool) (z1917 : Int) (z1918 : Int) (z1919 : Int) (z1920 : Int) (b1921 : Bool) : S := { T := V.list 2 l1912 :: V.list 2 l1913 :: U :: U :: vb false :: i64 z1914 :: un 5 [i64 z1914, V.list 2 l1912, i64 z1915, vb b1916, U, U, V.list 2 l1912, i64 z1914, V.pp [i64 z1917, i64 z1918], V.agg [i64 z1917, i64 z1918], V.list 2 l1913, i64 z1914, V.pp [i64 z1919, i64 z1920], V.agg [i64 z1919, i64 z1920], vb b1921], σ := [] }
@[reducible] def s19_0_1 (l1922 : List (List V)) (l1923 : List (List V)) (z1924 : Int) (z1925 : Int) (b1926 : Bool) : S := { T := V.list 2 l1922 :: V.list 2 l1923 :: U :: U :: U :: i64 z1924 :: un 5 (i64 z1924 :: V.list 2 l1922 :: i64 z1925 :: vb b1926 :: un 11 []), σ := [] }
def R19_0.St : R19_0 → VX × S → Prop
  | .e0, p => ∃ l1912 : List (List V), ∃ l1913 : List (List V), ∃ z1914 : Int, ∃ z1915 : Int, ∃ b1916 : Bool, ∃ z1917 : Int, ∃ z1918 : Int, ∃ z1919 : Int, ∃ z1920 : Int, ∃ b1921 : Bool, p = (VX.ret, s19_0_0 l1912 l1913 z1914 z1915 b1916 z1917 z1918 z1919 z1920 b1921)
  | .e1, p => ∃ l1922 : List (List V), ∃ l1923 : List (List V), ∃ z1924 : Int, ∃ z1925 : Int, ∃ b1926 : Bool, p = (VX.exit 0, s19_0_1 l1922 l1923 z1924 z1925 b1926)
def L19_0 : Nat → List (List V) → List (List V) → Int → Option R19_0
  | 0, _, _, _ => none
  | n + 1, l1889, l1890, z1891 =>
    if z1891 < (↑(List.length l1889) : Int) then
     if 0 ≤ z1891 then
      ((l1889[Int.toNat z1891]?).bind W43.dec).bind fun e1910 =>
      ((l1890[Int.toNat z1891]?).bind W43.dec).bind fun e1911 =>
      if (!(e1910.c0 == e1911.c0 && (e1910.c1 == e1911.c1 && true))) = true then
       some (R19_0.e0)
      else
       L19_0 n (l1889) (l1890) (w64 (z1891 + 1))
     else
      none -- none
    else
     some (R19_0.e1)
theorem L19_0_ok (m : Nat) : ∀ (n : Nat) (l1889 : List (List V)) (l1890 : List (List V)) (z1891 : Int) (r : R19_0), L19_0 n l1889 l1890 z1891 = some r → ∃ st, loopFrom Try.prog X (genO X (call Try.prog X O0 18446744073709551616 (m + 0))) 19 (0) 18446744073709551616 B19 0 n ({ T := V.list 2 l1889 :: V.list 2 l1890 :: U :: U :: U :: i64 z1891 :: un 20 [], σ := [] }) = some st ∧ r.St st
  | 0, _, _, _, r, h => by cases h
  | n + 1, l1889, l1890, z1891, r, h => by
    rw [L19_0] at h
    rcases ite_eq h with ⟨h0, h⟩ | ⟨h0, h⟩
    · skip
      rcases ite_eq h with ⟨h1, h⟩ | ⟨h1, h⟩
      · skip
        obtain ⟨e1910, h2, h⟩ := Option.bind_eq_some_iff.mp h
        obtain ⟨e1911, h3, h⟩ := Option.bind_eq_some_iff.mp h
        rcases ite_eq h with ⟨h4, h⟩ | ⟨h4, h⟩
        · skip
          cases h
          exact ⟨_, round_out (gs := [.t, .t, .el (W43.cells e1910), .t, .el (W43.cells e1911), .ft [⟨0, [], []⟩, ⟨1, [], []⟩, ⟨2, [], []⟩, ⟨3, [], []⟩, ⟨4, [], []⟩, ⟨5, [], []⟩, ⟨6, [], []⟩, ⟨7, [], []⟩, ⟨8, [], []⟩], .t]) (notIn []) (by kernel_rfl) rfl (And.intro (decide_eq_true h0) (And.intro (decide_eq_true h1) (And.intro (W43.dec_ok h2) (And.intro (decide_eq_true h1) (And.intro (W43.dec_ok h3) (And.intro (Eq.refl ([⟨0, [], []⟩, ⟨1, [], []⟩, ⟨2, [], []⟩, ⟨3, [], []⟩, ⟨4, [], []⟩, ⟨5, [], []⟩, ⟨6, [], []⟩, ⟨7, [], []⟩, ⟨8, [], []⟩] : List Foot)) (And.intro h4 True.intro))))))) n, l1889, l1890, z1891, (↑(List.length l1889) : Int), decide (z1891 < (↑(List.length l1889) : Int)), e1910.c0, e1910.c1, e1911.c0, e1911.c1, !(e1910.c0 == e1911.c0 && (e1910.c1 == e1911.c1 && true)), rfl⟩
        · skip
          obtain ⟨st, hs, hr⟩ := L19_0_ok m n (l1889) (l1890) (w64 (z1891 + 1)) r h
          exact ⟨st, (round_on (gs := [.t, .t, .el (W43.cells e1910), .t, .el (W43.cells e1911), .ft [⟨0, [], []⟩, ⟨1, [], []⟩, ⟨2, [], []⟩, ⟨3, [], []⟩, ⟨4, [], []⟩, ⟨5, [], []⟩, ⟨6, [], []⟩, ⟨7, [], []⟩, ⟨8, [], []⟩], .f]) (notIn []) (by kernel_rfl) (And.intro (decide_eq_true h0) (And.intro (decide_eq_true h1) (And.intro (W43.dec_ok h2) (And.intro (decide_eq_true h1) (And.intro (W43.dec_ok h3) (And.intro (Eq.refl ([⟨0, [], []⟩, ⟨1, [], []⟩, ⟨2, [], []⟩, ⟨3, [], []⟩, ⟨4, [], []⟩, ⟨5, [], []⟩, ⟨6, [], []⟩, ⟨7, [], []⟩, ⟨8, [], []⟩] : List Foot)) (And.intro (Bool.eq_false_iff.mpr h4) True.intro))))))) n).trans hs, hr⟩
      · skip
        cases h
    · skip
      cases h
      exact ⟨_, round_out (gs := [.f]) (notIn []) (by kernel_rfl) rfl (And.intro (decide_eq_false h0) True.intro) n, l1889, l1890, z1891, (↑(List.length l1889) : Int), decide (z1891 < (↑(List.length l1889) : Int)), rfl⟩
inductive A19 where
  | a0 (b1909 : Bool)
@[reducible] def A19.out : A19 → V × Store
  | .a0 b1909 => (vb b1909, [])
def F19 (l1872 : List (List V)) (l1873 : List (List V)) : Option A19 :=
  if ((↑(List.length l1872) : Int) != (↑(List.length l1873) : Int)) = true then
   some (A19.a0 (false))
  else
   (L19_0 18446744073709551616 (l1872) (l1873) (0)).bind fun r => match r with
   | .e0 =>
    some (A19.a0 (false))
   | .e1 =>
    some (A19.a0 (true))
theorem F19_ok (m : Nat) (l1872 : List (List V)) (l1873 : List (List V)) (r : A19) (h : F19 l1872 l1873 = some r) : call Try.prog X O0 18446744073709551616 (m + 1) 19 ([V.list 2 l1872, V.list 2 l1873]) ([]) = some r.out := by
  unfold F19 at h
  rcases ite_eq h with ⟨h0, h⟩ | ⟨h0, h⟩
  · skip
    cases h
    exact call_pathL (gs := [.t]) (notIn []) rfl rfl (by kernel_rfl) (And.intro h0 True.intro)
  · skip
    obtain ⟨r1, h1, h⟩ := Option.bind_eq_some_iff.mp h
    obtain ⟨st1, h1, hr1⟩ := L19_0_ok m 18446744073709551616 (l1872) (l1873) (0) r1 h1
    have h1 : loopRun Try.prog X (genO X (call Try.prog X O0 18446744073709551616 (m + 0))) 19 (0) 18446744073709551616 B19 0 ({ T := V.list 2 l1872 :: V.list 2 l1873 :: U :: U :: vb false :: i64 0 :: V.list 2 l1872 :: i64 (↑(List.length l1872) : Int) :: V.list 2 l1873 :: i64 (↑(List.length l1873) : Int) :: vb ((↑(List.length l1872) : Int) != (↑(List.length l1873) : Int)) :: un 15 [], σ := [] }) = some st1 := by
      rw [loopRun_from, show pre X 19 (0) 0 ({ T := V.list 2 l1872 :: V.list 2 l1873 :: U :: U :: vb false :: i64 0 :: V.list 2 l1872 :: i64 (↑(List.length l1872) : Int) :: V.list 2 l1873 :: i64 (↑(List.length l1873) : Int) :: vb ((↑(List.length l1872) : Int) != (↑(List.length l1873) : Int)) :: un 15 [], σ := [] }) = { T := V.list 2 l1872 :: V.list 2 l1873 :: U :: U :: U :: i64 0 :: un 20 [], σ := [] } by kernel_rfl]
      exact h1
    cases r1 with
    | e0 =>
      obtain ⟨l1927, l1928, z1929, z1930, b1931, z1932, z1933, z1934, z1935, b1936, rfl⟩ := hr1
      cases h
      exact call_pathL (gs := [.f, .lp (VX.ret) (s19_0_0 l1927 l1928 z1929 z1930 b1931 z1932 z1933 z1934 z1935 b1936)]) (notIn []) rfl rfl (by kernel_rfl) (And.intro (Bool.eq_false_iff.mpr h0) (And.intro h1 True.intro))
    | e1 =>
      obtain ⟨l1937, l1938, z1939, z1940, b1941, rfl⟩ := hr1
      cases h
      exact call_pathL (gs := [.f, .lp (VX.exit 0) (s19_0_1 l1937 l1938 z1939 z1940 b1941)]) (notIn []) rfl rfl (by kernel_rfl) (And.intro (Bool.eq_false_iff.mpr h0) (And.intro h1 True.intro))
/-! ## 24 -/
noncomputable abbrev B24 : Code := (Try.f24.body).getD .skip
inductive R24_0 where
  | e0
  | e1
  | e2
@[reducible] def s24_0_0 (l1988 : List (List V)) (l1989 : List (List V)) (z1990 : Int) (z1991 : Int) (b1992 : Bool) (b1993 : Bool) (l1994 : List (List V)) (b1995 : Bool) (l1996 : List (List V)) (b1997 : Bool) : S := { T := V.list 2 l1988 :: V.list 2 l1989 :: U :: U :: vb false :: i64 z1990 :: un 5 [i64 z1990, V.list 2 l1988, i64 z1991, vb b1992, U, U, V.list 2 l1988, i64 z1990, V.pp [vb b1993, V.list 2 l1994], V.pp [vb b1993, V.list 2 l1994], vb b1993, V.list 2 l1989, i64 z1990, V.pp [vb b1995, V.list 2 l1996], V.pp [vb b1995, V.list 2 l1996], vb b1995, vb b1997, vb b1997, E, E, E, E, E, E, E, E, E, E, E, E, vb true], σ := [] }
@[reducible] def s24_0_1 (l1999 : List (List V)) (l2000 : List (List V)) (z2001 : Int) (z2002 : Int) (b2003 : Bool) (b2004 : Bool) (l2005 : List (List V)) (b2006 : Bool) (l2007 : List (List V)) (b2008 : Bool) (b2009 : Bool) (b2010 : Bool) : S := { T := V.list 2 l1999 :: V.list 2 l2000 :: U :: U :: vb false :: i64 z2001 :: un 5 [i64 z2001, V.list 2 l1999, i64 z2002, vb b2003, U, U, V.list 2 l1999, i64 z2001, V.pp [vb b2004, V.list 2 l2005], V.pp [vb b2004, V.list 2 l2005], vb b2004, V.list 2 l2000, i64 z2001, V.pp [vb b2006, V.list 2 l2007], V.pp [vb b2006, V.list 2 l2007], vb b2006, vb b2008, vb b2008, V.list 2 l1999, i64 z2001, V.pp [vb b2004, V.list 2 l2005], V.pp [V.list 2 l2005], V.list 2 l2005, V.list 2 l2000, i64 z2001, V.pp [vb b2006, V.list 2 l2007], V.pp [V.list 2 l2007], V.list 2 l2007, vb b2009, vb b2010, vb b2010], σ := [] }
@[reducible] def s24_0_2 (l2011 : List (List V)) (l2012 : List (List V)) (z2013 : Int) (z2014 : Int) (b2015 : Bool) : S := { T := V.list 2 l2011 :: V.list 2 l2012 :: U :: U :: U :: i64 z2013 :: un 5 (i64 z2013 :: V.list 2 l2011 :: i64 z2014 :: vb b2015 :: un 27 []), σ := [] }
def R24_0.St : R24_0 → VX × S → Prop
  | .e0, p => ∃ l1988 : List (List V), ∃ l1989 : List (List V), ∃ z1990 : Int, ∃ z1991 : Int, ∃ b1992 : Bool, ∃ b1993 : Bool, ∃ l1994 : List (List V), ∃ b1995 : Bool, ∃ l1996 : List (List V), ∃ b1997 : Bool, p = (VX.ret, s24_0_0 l1988 l1989 z1990 z1991 b1992 b1993 l1994 b1995 l1996 b1997)
  | .e1, p => ∃ l1999 : List (List V), ∃ l2000 : List (List V), ∃ z2001 : Int, ∃ z2002 : Int, ∃ b2003 : Bool, ∃ b2004 : Bool, ∃ l2005 : List (List V), ∃ b2006 : Bool, ∃ l2007 : List (List V), ∃ b2008 : Bool, ∃ b2009 : Bool, ∃ b2010 : Bool, p = (VX.ret, s24_0_1 l1999 l2000 z2001 z2002 b2003 b2004 l2005 b2006 l2007 b2008 b2009 b2010)
  | .e2, p => ∃ l2011 : List (List V), ∃ l2012 : List (List V), ∃ z2013 : Int, ∃ z2014 : Int, ∃ b2015 : Bool, p = (VX.exit 0, s24_0_2 l2011 l2012 z2013 z2014 b2015)
def L24_0 : Nat → List (List V) → List (List V) → Int → Option R24_0
  | 0, _, _, _ => none
  | n + 1, l1954, l1955, z1956 =>
    if z1956 < (↑(List.length l1954) : Int) then
     if 0 ≤ z1956 then
      ((l1954[Int.toNat z1956]?).bind W25.dec).bind fun e1986 =>
      ((l1955[Int.toNat z1956]?).bind W25.dec).bind fun e1987 =>
      if (!e1986.c0 == e1987.c0) = true then
       some (R24_0.e0)
      else
       (F19 (e1986.2) (e1987.2)).bind fun r => match r with
       | .a0 b1998 =>
        if (!b1998) = true then
         some (R24_0.e1)
        else
         L24_0 n (l1954) (l1955) (w64 (z1956 + 1))
     else
      none -- none
    else
     some (R24_0.e2)
theorem L24_0_ok (m : Nat) : ∀ (n : Nat) (l1954 : List (List V)) (l1955 : List (List V)) (z1956 : Int) (r : R24_0), L24_0 n l1954 l1955 z1956 = some r → ∃ st, loopFrom Try.prog X (genO X (call Try.prog X O0 18446744073709551616 (m + 1))) 24 (0) 18446744073709551616 B24 0 n ({ T := V.list 2 l1954 :: V.list 2 l1955 :: U :: U :: U :: i64 z1956 :: un 36 [], σ := [] }) = some st ∧ r.St st
  | 0, _, _, _, r, h => by cases h
  | n + 1, l1954, l1955, z1956, r, h => by
    rw [L24_0] at h
    rcases ite_eq h with ⟨h0, h⟩ | ⟨h0, h⟩
    · skip
      rcases ite_eq h with ⟨h1, h⟩ | ⟨h1, h⟩
      · skip
        obtain ⟨e1986, h2, h⟩ := Option.bind_eq_some_iff.mp h
        obtain ⟨e1987, h3, h⟩ := Option.bind_eq_some_iff.mp h
        rcases ite_eq h with ⟨h4, h⟩ | ⟨h4, h⟩
        · skip
          cases h
          exact ⟨_, round_out (gs := [.t, .t, .el (W25.cells e1986), .t, .el (W25.cells e1987), .t, .t, .t, .t, .t, .t, .t, .t, .t, .t, .t, .t, .t, .ft [⟨0, [], []⟩, ⟨1, [], []⟩, ⟨2, [], []⟩, ⟨3, [], []⟩, ⟨4, [], []⟩, ⟨5, [], []⟩, ⟨6, [], []⟩, ⟨7, [], []⟩, ⟨8, [], []⟩, ⟨9, [], []⟩, ⟨10, [], []⟩, ⟨11, [], []⟩, ⟨12, [], []⟩, ⟨13, [], []⟩, ⟨14, [], []⟩, ⟨15, [], []⟩, ⟨16, [], []⟩, ⟨17, [], []⟩, ⟨18, [], []⟩, ⟨19, [], []⟩, ⟨20, [], []⟩, ⟨21, [], []⟩, ⟨22, [], []⟩, ⟨23, [], []⟩, ⟨24, [], []⟩], .a]) (notIn []) (by kernel_rfl) rfl (And.intro (decide_eq_true h0) (And.intro (decide_eq_true h1) (And.intro (W25.dec_ok h2) (And.intro (decide_eq_true h1) (And.intro (W25.dec_ok h3) (And.intro h4 (And.intro h4 (And.intro h4 (And.intro h4 (And.intro h4 (And.intro h4 (And.intro h4 (And.intro h4 (And.intro h4 (And.intro h4 (And.intro h4 (And.intro h4 (And.intro h4 (And.intro (Eq.refl ([⟨0, [], []⟩, ⟨1, [], []⟩, ⟨2, [], []⟩, ⟨3, [], []⟩, ⟨4, [], []⟩, ⟨5, [], []⟩, ⟨6, [], []⟩, ⟨7, [], []⟩, ⟨8, [], []⟩, ⟨9, [], []⟩, ⟨10, [], []⟩, ⟨11, [], []⟩, ⟨12, [], []⟩, ⟨13, [], []⟩, ⟨14, [], []⟩, ⟨15, [], []⟩, ⟨16, [], []⟩, ⟨17, [], []⟩, ⟨18, [], []⟩, ⟨19, [], []⟩, ⟨20, [], []⟩, ⟨21, [], []⟩, ⟨22, [], []⟩, ⟨23, [], []⟩, ⟨24, [], []⟩] : List Foot)) True.intro))))))))))))))))))) n, l1954, l1955, z1956, (↑(List.length l1954) : Int), decide (z1956 < (↑(List.length l1954) : Int)), e1986.c0, e1986.2, e1987.c0, e1987.2, !e1986.c0 == e1987.c0, rfl⟩
        · skip
          obtain ⟨r5, h5, h⟩ := Option.bind_eq_some_iff.mp h
          have h5 := F19_ok (m + 0) (e1986.2) (e1987.2) r5 h5
          cases r5 with
          | a0 b1998 =>
            rcases ite_eq h with ⟨h6, h⟩ | ⟨h6, h⟩
            · skip
              cases h
              exact ⟨_, round_out (gs := [.t, .t, .el (W25.cells e1986), .t, .el (W25.cells e1987), .f, .f, .f, .t, .el (W25.cells e1986), .f, .f, .f, .f, .f, .t, .el (W25.cells e1987), .f, .f, .f, .an (vb b1998) [], .f, .f, .ft [⟨0, [], []⟩, ⟨1, [], []⟩, ⟨2, [], []⟩, ⟨3, [], []⟩, ⟨4, [], []⟩, ⟨5, [], []⟩, ⟨6, [], []⟩, ⟨7, [], []⟩, ⟨8, [], []⟩, ⟨9, [], []⟩, ⟨10, [], []⟩, ⟨11, [], []⟩, ⟨12, [], []⟩, ⟨13, [], []⟩, ⟨14, [], []⟩, ⟨15, [], []⟩, ⟨16, [], []⟩, ⟨17, [], []⟩, ⟨18, [], []⟩, ⟨19, [], []⟩, ⟨20, [], []⟩, ⟨21, [], []⟩, ⟨22, [], []⟩, ⟨23, [], []⟩, ⟨24, [], []⟩], .t]) (notIn []) (by kernel_rfl) rfl (And.intro (decide_eq_true h0) (And.intro (decide_eq_true h1) (And.intro (W25.dec_ok h2) (And.intro (decide_eq_true h1) (And.intro (W25.dec_ok h3) (And.intro (Bool.eq_false_iff.mpr h4) (And.intro (Bool.eq_false_iff.mpr h4) (And.intro (Bool.eq_false_iff.mpr h4) (And.intro (decide_eq_true h1) (And.intro (W25.dec_ok h2) (And.intro (Bool.eq_false_iff.mpr h4) (And.intro (Bool.eq_false_iff.mpr h4) (And.intro (Bool.eq_false_iff.mpr h4) (And.intro (Bool.eq_false_iff.mpr h4) (And.intro (Bool.eq_false_iff.mpr h4) (And.intro (decide_eq_true h1) (And.intro (W25.dec_ok h3) (And.intro (Bool.eq_false_iff.mpr h4) (And.intro (Bool.eq_false_iff.mpr h4) (And.intro (Bool.eq_false_iff.mpr h4) (And.intro h5 (And.intro (Bool.eq_false_iff.mpr h4) (And.intro (Bool.eq_false_iff.mpr h4) (And.intro (Eq.refl ([⟨0, [], []⟩, ⟨1, [], []⟩, ⟨2, [], []⟩, ⟨3, [], []⟩, ⟨4, [], []⟩, ⟨5, [], []⟩, ⟨6, [], []⟩, ⟨7, [], []⟩, ⟨8, [], []⟩, ⟨9, [], []⟩, ⟨10, [], []⟩, ⟨11, [], []⟩, ⟨12, [], []⟩, ⟨13, [], []⟩, ⟨14, [], []⟩, ⟨15, [], []⟩, ⟨16, [], []⟩, ⟨17, [], []⟩, ⟨18, [], []⟩, ⟨19, [], []⟩, ⟨20, [], []⟩, ⟨21, [], []⟩, ⟨22, [], []⟩, ⟨23, [], []⟩, ⟨24, [], []⟩] : List Foot)) (And.intro h6 True.intro))))))))))))))))))))))))) n, l1954, l1955, z1956, (↑(List.length l1954) : Int), decide (z1956 < (↑(List.length l1954) : Int)), e1986.c0, e1986.2, e1987.c0, e1987.2, !e1986.c0 == e1987.c0, b1998, !b1998, rfl⟩
            · skip
              obtain ⟨st, hs, hr⟩ := L24_0_ok m n (l1954) (l1955) (w64 (z1956 + 1)) r h
              exact ⟨st, (round_on (gs := [.t, .t, .el (W25.cells e1986), .t, .el (W25.cells e1987), .f, .f, .f, .t, .el (W25.cells e1986), .f, .f, .f, .f, .f, .t, .el (W25.cells e1987), .f, .f, .f, .an (vb b1998) [], .f, .f, .ft [⟨0, [], []⟩, ⟨1, [], []⟩, ⟨2, [], []⟩, ⟨3, [], []⟩, ⟨4, [], []⟩, ⟨5, [], []⟩, ⟨6, [], []⟩, ⟨7, [], []⟩, ⟨8, [], []⟩, ⟨9, [], []⟩, ⟨10, [], []⟩, ⟨11, [], []⟩, ⟨12, [], []⟩, ⟨13, [], []⟩, ⟨14, [], []⟩, ⟨15, [], []⟩, ⟨16, [], []⟩, ⟨17, [], []⟩, ⟨18, [], []⟩, ⟨19, [], []⟩, ⟨20, [], []⟩, ⟨21, [], []⟩, ⟨22, [], []⟩, ⟨23, [], []⟩, ⟨24, [], []⟩], .f]) (notIn []) (by kernel_rfl) (And.intro (decide_eq_true h0) (And.intro (decide_eq_true h1) (And.intro (W25.dec_ok h2) (And.intro (decide_eq_true h1) (And.intro (W25.dec_ok h3) (And.intro (Bool.eq_false_iff.mpr h4) (And.intro (Bool.eq_false_iff.mpr h4) (And.intro (Bool.eq_false_iff.mpr h4) (And.intro (decide_eq_true h1) (And.intro (W25.dec_ok h2) (And.intro (Bool.eq_false_iff.mpr h4) (And.intro (Bool.eq_false_iff.mpr h4) (And.intro (Bool.eq_false_iff.mpr h4) (And.intro (Bool.eq_false_iff.mpr h4) (And.intro (Bool.eq_false_iff.mpr h4) (And.intro (decide_eq_true h1) (And.intro (W25.dec_ok h3) (And.intro (Bool.eq_false_iff.mpr h4) (And.intro (Bool.eq_false_iff.mpr h4) (And.intro (Bool.eq_false_iff.mpr h4) (And.intro h5 (And.intro (Bool.eq_false_iff.mpr h4) (And.intro (Bool.eq_false_iff.mpr h4) (And.intro (Eq.refl ([⟨0, [], []⟩, ⟨1, [], []⟩, ⟨2, [], []⟩, ⟨3, [], []⟩, ⟨4, [], []⟩, ⟨5, [], []⟩, ⟨6, [], []⟩, ⟨7, [], []⟩, ⟨8, [], []⟩, ⟨9, [], []⟩, ⟨10, [], []⟩, ⟨11, [], []⟩, ⟨12, [], []⟩, ⟨13, [], []⟩, ⟨14, [], []⟩, ⟨15, [], []⟩, ⟨16, [], []⟩, ⟨17, [], []⟩, ⟨18, [], []⟩, ⟨19, [], []⟩, ⟨20, [], []⟩, ⟨21, [], []⟩, ⟨22, [], []⟩, ⟨23, [], []⟩, ⟨24, [], []⟩] : List Foot)) (And.intro (Bool.eq_false_iff.mpr h6) True.intro))))))))))))))))))))))))) n).trans hs, hr⟩
      · skip
        cases h
    · skip
      cases h
      exact ⟨_, round_out (gs := [.f]) (notIn []) (by kernel_rfl) rfl (And.intro (decide_eq_false h0) True.intro) n, l1954, l1955, z1956, (↑(List.length l1954) : Int), decide (z1956 < (↑(List.length l1954) : Int)), rfl⟩
inductive A24 where
  | a0 (b1985 : Bool)
@[reducible] def A24.out : A24 → V × Store
  | .a0 b1985 => (vb b1985, [])
def F24 (l1855 : List (List V)) (l1856 : List (List V)) : Option A24 :=
  if ((↑(List.length l1855) : Int) != (↑(List.length l1856) : Int)) = true then
   some (A24.a0 (false))
  else
   (L24_0 18446744073709551616 (l1855) (l1856) (0)).bind fun r => match r with
   | .e0 =>
    some (A24.a0 (false))
   | .e1 =>
    some (A24.a0 (false))
   | .e2 =>
    some (A24.a0 (true))
theorem F24_ok (m : Nat) (l1855 : List (List V)) (l1856 : List (List V)) (r : A24) (h : F24 l1855 l1856 = some r) : call Try.prog X O0 18446744073709551616 (m + 2) 24 ([V.list 2 l1855, V.list 2 l1856]) ([]) = some r.out := by
  unfold F24 at h
  rcases ite_eq h with ⟨h0, h⟩ | ⟨h0, h⟩
  · skip
    cases h
    exact call_pathL (gs := [.t]) (notIn []) rfl rfl (by kernel_rfl) (And.intro h0 True.intro)
  · skip
    obtain ⟨r1, h1, h⟩ := Option.bind_eq_some_iff.mp h
    obtain ⟨st1, h1, hr1⟩ := L24_0_ok m 18446744073709551616 (l1855) (l1856) (0) r1 h1
    have h1 : loopRun Try.prog X (genO X (call Try.prog X O0 18446744073709551616 (m + 1))) 24 (0) 18446744073709551616 B24 0 ({ T := V.list 2 l1855 :: V.list 2 l1856 :: U :: U :: vb false :: i64 0 :: V.list 2 l1855 :: i64 (↑(List.length l1855) : Int) :: V.list 2 l1856 :: i64 (↑(List.length l1856) : Int) :: vb ((↑(List.length l1855) : Int) != (↑(List.length l1856) : Int)) :: un 31 [], σ := [] }) = some st1 := by
      rw [loopRun_from, show pre X 24 (0) 0 ({ T := V.list 2 l1855 :: V.list 2 l1856 :: U :: U :: vb false :: i64 0 :: V.list 2 l1855 :: i64 (↑(List.length l1855) : Int) :: V.list 2 l1856 :: i64 (↑(List.length l1856) : Int) :: vb ((↑(List.length l1855) : Int) != (↑(List.length l1856) : Int)) :: un 31 [], σ := [] }) = { T := V.list 2 l1855 :: V.list 2 l1856 :: U :: U :: U :: i64 0 :: un 36 [], σ := [] } by kernel_rfl]
      exact h1
    cases r1 with
    | e0 =>
      obtain ⟨l2016, l2017, z2018, z2019, b2020, b2021, l2022, b2023, l2024, b2025, rfl⟩ := hr1
      cases h
      exact call_pathL (gs := [.f, .lp (VX.ret) (s24_0_0 l2016 l2017 z2018 z2019 b2020 b2021 l2022 b2023 l2024 b2025)]) (notIn []) rfl rfl (by kernel_rfl) (And.intro (Bool.eq_false_iff.mpr h0) (And.intro h1 True.intro))
    | e1 =>
      obtain ⟨l2026, l2027, z2028, z2029, b2030, b2031, l2032, b2033, l2034, b2035, b2036, b2037, rfl⟩ := hr1
      cases h
      exact call_pathL (gs := [.f, .lp (VX.ret) (s24_0_1 l2026 l2027 z2028 z2029 b2030 b2031 l2032 b2033 l2034 b2035 b2036 b2037)]) (notIn []) rfl rfl (by kernel_rfl) (And.intro (Bool.eq_false_iff.mpr h0) (And.intro h1 True.intro))
    | e2 =>
      obtain ⟨l2038, l2039, z2040, z2041, b2042, rfl⟩ := hr1
      cases h
      exact call_pathL (gs := [.f, .lp (VX.exit 0) (s24_0_2 l2038 l2039 z2040 z2041 b2042)]) (notIn []) rfl rfl (by kernel_rfl) (And.intro (Bool.eq_false_iff.mpr h0) (And.intro h1 True.intro))
end Go.Proofs.Ytojigbcgmneiiaa.H
