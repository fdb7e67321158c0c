/- What the functions compute, and that they do so over the machine of plain values (printed by this session's program wip/vm/Walk.lean). No condition beyond those stated. -/
import Derived.Test.YthohhdcngdmbeaaWk
import Derived.Test.YthohhdcngdmbeaaPArcT
set_option linter.unusedVariables false
set_option linter.unusedSimpArgs false
namespace Go.Proofs.Ythohhdcngdmbeaa.H
open Go Go.VM
set_option maxRecDepth 100000
/-! ## 97 -/
inductive A97 where
  | a0 (z1306 : Int)
@[reducible] def A97.out : A97 → V × Store
  | .a0 z1306 => (i64 z1306, [])
def F97 (z1301 : Int) (z1302 : Int) (z1303 : Int) (b1304 : Bool) : Option A97 :=
  if z1301 ≥ z1303 then
   if (b1304) = true then
    some (A97.a0 (-1099511627776))
   else
    some (A97.a0 (1099511627776))
  else
   (F113 (z1301) (z1302) (z1303)).bind fun r => match r with
   | .a0 z1317 z1318 =>
    if (b1304) = true then
     if z1318 > 0 then
      if z1317 < 4611686018427387904 then
       bnd (F74 (w64 (0 - w64 (if 4611686018427387904 < IntKind.wrap IntKind.u64 (z1317 + 1) then 4611686018427387904 else IntKind.wrap IntKind.u64 (z1317 + 1))))) fun z1319 =>
       some (A97.a0 (z1319))
      else
       bnd (F74 (w64 (0 - w64 (if 4611686018427387904 < z1317 then 4611686018427387904 else z1317)))) fun z1320 =>
       some (A97.a0 (z1320))
     else
      bnd (F74 (w64 (0 - w64 (if 4611686018427387904 < z1317 then 4611686018427387904 else z1317)))) fun z1321 =>
      some (A97.a0 (z1321))
    else
     bnd (F74 (w64 (if 4611686018427387904 < z1317 then 4611686018427387904 else z1317))) fun z1322 =>
     some (A97.a0 (z1322))
theorem F97_ok (m : Nat) (z1301 : Int) (z1302 : Int) (z1303 : Int) (b1304 : Bool) (r : A97) (h : F97 z1301 z1302 z1303 b1304 = some r) : call Try.prog X O0 100000 (m + 4) 97 ([V.int IntKind.u64 z1301, V.int IntKind.u64 z1302, V.int IntKind.u64 z1303, vb b1304]) ([]) = some r.out := by
  unfold F97 at h
  rcases ite_eq h with ⟨h0, h⟩ | ⟨h0, h⟩
  · skip
    rcases ite_eq h with ⟨h1, h⟩ | ⟨h1, h⟩
    · skip
      cases h
      exact call_pathL (gs := [.t, .t]) (notIn []) rfl rfl (by kernel_rfl) (And.intro (decide_eq_true h0) (And.intro h1 True.intro))
    · skip
      cases h
      exact call_pathL (gs := [.t, .f]) (notIn []) rfl rfl (by kernel_rfl) (And.intro (decide_eq_true h0) (And.intro (Bool.eq_false_iff.mpr h1) True.intro))
  · skip
    obtain ⟨r1, h1, h⟩ := Option.bind_eq_some_iff.mp h
    have h1 := F113_ok (m + 0) (z1301) (z1302) (z1303) r1 h1
    cases r1 with
    | a0 z1317 z1318 =>
      rcases ite_eq h with ⟨h2, h⟩ | ⟨h2, h⟩
      · skip
        rcases ite_eq h with ⟨h3, h⟩ | ⟨h3, h⟩
        · skip
          rcases ite_eq h with ⟨h4, h⟩ | ⟨h4, h⟩
          · skip
            obtain ⟨z1319, h5, h⟩ := bnd_eq h
            cases h
            exact call_pathL (gs := [.f, .an (V.tup [V.int IntKind.u64 z1317, V.int IntKind.u64 z1318]) [], .t, .t, .t, .t, .t, .t, .t, .t, .an (i64 z1319) []]) (notIn []) rfl rfl (by kernel_rfl) (And.intro (decide_eq_false h0) (And.intro h1 (And.intro h2 (And.intro h2 (And.intro h2 (And.intro (decide_eq_true h3) (And.intro (decide_eq_true h3) (And.intro (decide_eq_true h3) (And.intro (decide_eq_true h4) (And.intro h2 (And.intro (F74_ok (m + 1) (w64 (0 - w64 (if 4611686018427387904 < IntKind.wrap IntKind.u64 (z1317 + 1) then 4611686018427387904 else IntKind.wrap IntKind.u64 (z1317 + 1)))) z1319 h5) True.intro)))))))))))
          · skip
            obtain ⟨z1320, h5, h⟩ := bnd_eq h
            cases h
            exact call_pathL (gs := [.f, .an (V.tup [V.int IntKind.u64 z1317, V.int IntKind.u64 z1318]) [], .t, .t, .t, .t, .t, .t, .f, .t, .an (i64 z1320) []]) (notIn []) rfl rfl (by kernel_rfl) (And.intro (decide_eq_false h0) (And.intro h1 (And.intro h2 (And.intro h2 (And.intro h2 (And.intro (decide_eq_true h3) (And.intro (decide_eq_true h3) (And.intro (decide_eq_true h3) (And.intro (decide_eq_false h4) (And.intro h2 (And.intro (F74_ok (m + 1) (w64 (0 - w64 (if 4611686018427387904 < z1317 then 4611686018427387904 else z1317))) z1320 h5) True.intro)))))))))))
        · skip
          obtain ⟨z1321, h4, h⟩ := bnd_eq h
          cases h
          exact call_pathL (gs := [.f, .an (V.tup [V.int IntKind.u64 z1317, V.int IntKind.u64 z1318]) [], .t, .t, .t, .f, .f, .f, .a, .t, .an (i64 z1321) []]) (notIn []) rfl rfl (by kernel_rfl) (And.intro (decide_eq_false h0) (And.intro h1 (And.intro h2 (And.intro h2 (And.intro h2 (And.intro (decide_eq_false h3) (And.intro (decide_eq_false h3) (And.intro (decide_eq_false h3) (And.intro h2 (And.intro (F74_ok (m + 1) (w64 (0 - w64 (if 4611686018427387904 < z1317 then 4611686018427387904 else z1317))) z1321 h4) True.intro))))))))))
      · skip
        obtain ⟨z1322, h3, h⟩ := bnd_eq h
        cases h
        exact call_pathL (gs := [.f, .an (V.tup [V.int IntKind.u64 z1317, V.int IntKind.u64 z1318]) [], .f, .f, .f, .a, .a, .a, .a, .f, .an (i64 z1322) []]) (notIn []) rfl rfl (by kernel_rfl) (And.intro (decide_eq_false h0) (And.intro h1 (And.intro (Bool.eq_false_iff.mpr h2) (And.intro (Bool.eq_false_iff.mpr h2) (And.intro (Bool.eq_false_iff.mpr h2) (And.intro (Bool.eq_false_iff.mpr h2) (And.intro (F74_ok (m + 1) (w64 (if 4611686018427387904 < z1317 then 4611686018427387904 else z1317)) z1322 h3) True.intro)))))))
/-! ## 75 -/
inductive A75 where
  | a0 (z1298 : Int)
@[reducible] def A75.out : A75 → V × Store
  | .a0 z1298 => (i64 z1298, [])
def F75 (z1285 : Int) (z1286 : Int) : Option A75 :=
  bnd (F74 (z1285)) fun z1288 =>
  (F95 (z1288)).bind fun r => match r with
  | .a0 z1293 b1294 =>
   bnd (F74 (z1286)) fun z1295 =>
   (F95 (z1295)).bind fun r => match r with
   | .a0 z1296 b1297 =>
    if (z1296 == 0) = true then
     some (A75.a0 (0))
    else
     (F96 (z1293) (65536)).bind fun r => match r with
     | .a0 z1299 z1300 =>
      (F97 (z1299) (z1300) (z1296) (!b1294 == b1297)).bind fun r => match r with
      | .a0 z1323 =>
       some (A75.a0 (z1323))
theorem F75_ok (m : Nat) (z1285 : Int) (z1286 : Int) (r : A75) (h : F75 z1285 z1286 = some r) : call Try.prog X O0 100000 (m + 5) 75 ([i64 z1285, i64 z1286]) ([]) = some r.out := by
  unfold F75 at h
  obtain ⟨z1288, h0, h⟩ := bnd_eq h
  obtain ⟨r1, h1, h⟩ := Option.bind_eq_some_iff.mp h
  have h1 := F95_ok (m + 3) (z1288) r1 h1
  cases r1 with
  | a0 z1293 b1294 =>
    obtain ⟨z1295, h2, h⟩ := bnd_eq h
    obtain ⟨r3, h3, h⟩ := Option.bind_eq_some_iff.mp h
    have h3 := F95_ok (m + 3) (z1295) r3 h3
    cases r3 with
    | a0 z1296 b1297 =>
      rcases ite_eq h with ⟨h4, h⟩ | ⟨h4, h⟩
      · skip
        cases h
        exact call_pathL (gs := [.an (i64 z1288) [], .an (V.tup [V.int IntKind.u64 z1293, vb b1294]) [], .an (i64 z1295) [], .an (V.tup [V.int IntKind.u64 z1296, vb b1297]) [], .t]) (notIn []) rfl rfl (by kernel_rfl) (And.intro (F74_ok (m + 2) (z1285) z1288 h0) (And.intro h1 (And.intro (F74_ok (m + 2) (z1286) z1295 h2) (And.intro h3 (And.intro h4 True.intro)))))
      · skip
        obtain ⟨r5, h5, h⟩ := Option.bind_eq_some_iff.mp h
        have h5 := F96_ok (m + 3) (z1293) (65536) r5 h5
        cases r5 with
        | a0 z1299 z1300 =>
          obtain ⟨r6, h6, h⟩ := Option.bind_eq_some_iff.mp h
          have h6 := F97_ok (m + 0) (z1299) (z1300) (z1296) (!b1294 == b1297) r6 h6
          cases r6 with
          | a0 z1323 =>
            cases h
            exact call_pathL (gs := [.an (i64 z1288) [], .an (V.tup [V.int IntKind.u64 z1293, vb b1294]) [], .an (i64 z1295) [], .an (V.tup [V.int IntKind.u64 z1296, vb b1297]) [], .f, .an (V.tup [V.int IntKind.u64 z1299, V.int IntKind.u64 z1300]) [], .an (i64 z1323) []]) (notIn []) rfl rfl (by kernel_rfl) (And.intro (F74_ok (m + 2) (z1285) z1288 h0) (And.intro h1 (And.intro (F74_ok (m + 2) (z1286) z1295 h2) (And.intro h3 (And.intro (Bool.eq_false_iff.mpr h4) (And.intro h5 (And.intro h6 True.intro)))))))
/-! ## 66 -/
inductive A66 where
  | a0 (z1343 : Int)
@[reducible] def A66.out : A66 → V × Store
  | .a0 z1343 => (i64 z1343, [])
def F66 (z1331 : Int) (z1332 : Int) : Option A66 :=
  bnd (F74 (z1331)) fun z1334 =>
  (F95 (z1334)).bind fun r => match r with
  | .a0 z1335 b1336 =>
   bnd (F74 (z1332)) fun z1337 =>
   (F95 (z1337)).bind fun r => match r with
   | .a0 z1338 b1339 =>
    (F96 (z1335) (z1338)).bind fun r => match r with
    | .a0 z1340 z1341 =>
     (F97 (z1340) (z1341) (65536) (!b1336 == b1339)).bind fun r => match r with
     | .a0 z1342 =>
      some (A66.a0 (z1342))
theorem F66_ok (m : Nat) (z1331 : Int) (z1332 : Int) (r : A66) (h : F66 z1331 z1332 = some r) : call Try.prog X O0 100000 (m + 5) 66 ([i64 z1331, i64 z1332]) ([]) = some r.out := by
  unfold F66 at h
  obtain ⟨z1334, h0, h⟩ := bnd_eq h
  obtain ⟨r1, h1, h⟩ := Option.bind_eq_some_iff.mp h
  have h1 := F95_ok (m + 3) (z1334) r1 h1
  cases r1 with
  | a0 z1335 b1336 =>
    obtain ⟨z1337, h2, h⟩ := bnd_eq h
    obtain ⟨r3, h3, h⟩ := Option.bind_eq_some_iff.mp h
    have h3 := F95_ok (m + 3) (z1337) r3 h3
    cases r3 with
    | a0 z1338 b1339 =>
      obtain ⟨r4, h4, h⟩ := Option.bind_eq_some_iff.mp h
      have h4 := F96_ok (m + 3) (z1335) (z1338) r4 h4
      cases r4 with
      | a0 z1340 z1341 =>
        obtain ⟨r5, h5, h⟩ := Option.bind_eq_some_iff.mp h
        have h5 := F97_ok (m + 0) (z1340) (z1341) (65536) (!b1336 == b1339) r5 h5
        cases r5 with
        | a0 z1342 =>
          cases h
          exact call_pathL (gs := [.an (i64 z1334) [], .an (V.tup [V.int IntKind.u64 z1335, vb b1336]) [], .an (i64 z1337) [], .an (V.tup [V.int IntKind.u64 z1338, vb b1339]) [], .an (V.tup [V.int IntKind.u64 z1340, V.int IntKind.u64 z1341]) [], .an (i64 z1342) []]) (notIn []) rfl rfl (by kernel_rfl) (And.intro (F74_ok (m + 2) (z1331) z1334 h0) (And.intro h1 (And.intro (F74_ok (m + 2) (z1332) z1337 h2) (And.intro h3 (And.intro h4 (And.intro h5 True.intro))))))
/-! ## 76 -/
inductive A76 where
  | a0 (z1346 : Int)
@[reducible] def A76.out : A76 → V × Store
  | .a0 z1346 => (i64 z1346, [])
def F76 (z1325 : Int) (z1326 : Int) (z1327 : Int) : Option A76 :=
  bnd (F74 (z1325)) fun z1329 =>
  bnd (F60 (z1326) (w64 (0 - z1329))) fun z1330 =>
  (F66 (z1330) (z1327)).bind fun r => match r with
  | .a0 z1344 =>
   bnd (F60 (z1325) (z1344)) fun z1345 =>
   some (A76.a0 (z1345))
theorem F76_ok (m : Nat) (z1325 : Int) (z1326 : Int) (z1327 : Int) (r : A76) (h : F76 z1325 z1326 z1327 = some r) : call Try.prog X O0 100000 (m + 6) 76 ([i64 z1325, i64 z1326, i64 z1327]) ([]) = some r.out := by
  unfold F76 at h
  obtain ⟨z1329, h0, h⟩ := bnd_eq h
  obtain ⟨z1330, h1, h⟩ := bnd_eq h
  obtain ⟨r2, h2, h⟩ := Option.bind_eq_some_iff.mp h
  have h2 := F66_ok (m + 0) (z1330) (z1327) r2 h2
  cases r2 with
  | a0 z1344 =>
    obtain ⟨z1345, h3, h⟩ := bnd_eq h
    cases h
    exact call_pathL (gs := [.an (i64 z1329) [], .an (i64 z1330) [], .an (i64 z1344) [], .an (i64 z1345) []]) (notIn []) rfl rfl (by kernel_rfl) (And.intro (F74_ok (m + 3) (z1325) z1329 h0) (And.intro (F60_ok (m + 2) (z1326) (w64 (0 - z1329)) z1330 h1) (And.intro h2 (And.intro (F60_ok (m + 2) (z1325) (z1344) z1345 h3) True.intro))))
/-! ## 40 -/
inductive A40 where
  | a0 (z1283 : Int) (z1284 : Int)
@[reducible] def A40.out : A40 → V × Store
  | .a0 z1283 z1284 => (V.agg [i64 z1283, i64 z1284], [])
def F40 (z1271 : Int) (z1272 : Int) (z1273 : Int) (z1274 : Int) (z1275 : Int) (z1276 : Int) : Option A40 :=
  (F73 (z1271) (z1272)).bind fun r => match r with
  | .a0 z1278 z1279 =>
   (F73 (z1273) (z1274)).bind fun r => match r with
   | .a0 z1280 z1281 =>
    bnd (F74 (z1275)) fun z1282 =>
    if z1282 ≤ 0 then
     some (A40.a0 (z1278) (z1279))
    else
     if z1282 ≥ z1276 then
      some (A40.a0 (z1280) (z1281))
     else
      (F75 (z1282) (z1276)).bind fun r => match r with
      | .a0 z1324 =>
       (F76 (z1278) (z1280) (z1324)).bind fun r => match r with
       | .a0 z1347 =>
        (F76 (z1279) (z1281) (z1324)).bind fun r => match r with
        | .a0 z1348 =>
         some (A40.a0 (z1347) (z1348))
theorem F40_ok (m : Nat) (z1271 : Int) (z1272 : Int) (z1273 : Int) (z1274 : Int) (z1275 : Int) (z1276 : Int) (r : A40) (h : F40 z1271 z1272 z1273 z1274 z1275 z1276 = some r) : call Try.prog X O0 100000 (m + 7) 40 ([V.agg [i64 z1271, i64 z1272], V.agg [i64 z1273, i64 z1274], i64 z1275, i64 z1276]) ([]) = some r.out := by
  unfold F40 at h
  obtain ⟨r0, h0, h⟩ := Option.bind_eq_some_iff.mp h
  have h0 := F73_ok (m + 3) (z1271) (z1272) r0 h0
  cases r0 with
  | a0 z1278 z1279 =>
    obtain ⟨r1, h1, h⟩ := Option.bind_eq_some_iff.mp h
    have h1 := F73_ok (m + 3) (z1273) (z1274) r1 h1
    cases r1 with
    | a0 z1280 z1281 =>
      obtain ⟨z1282, h2, h⟩ := bnd_eq h
      rcases ite_eq h with ⟨h3, h⟩ | ⟨h3, h⟩
      · skip
        cases h
        exact call_pathL (gs := [.a, .an (V.agg [i64 z1278, i64 z1279]) [], .a, .an (V.agg [i64 z1280, i64 z1281]) [], .an (i64 z1282) [], .a, .a, .ft [⟨0, [0], []⟩, ⟨1, [], []⟩, ⟨2, [1], []⟩, ⟨3, [], []⟩, ⟨4, [], []⟩, ⟨5, [], []⟩, ⟨6, [0], [0]⟩, ⟨7, [1], [1]⟩, ⟨8, [], []⟩], .t, .a, .a]) (notIn []) rfl rfl (by kernel_rfl) (And.intro h0 (And.intro h1 (And.intro (F74_ok (m + 4) (z1275) z1282 h2) (And.intro (Eq.refl ([⟨0, [0], []⟩, ⟨1, [], []⟩, ⟨2, [1], []⟩, ⟨3, [], []⟩, ⟨4, [], []⟩, ⟨5, [], []⟩, ⟨6, [0], [0]⟩, ⟨7, [1], [1]⟩, ⟨8, [], []⟩] : List Foot)) (And.intro (decide_eq_true h3) True.intro)))))
      · skip
        rcases ite_eq h with ⟨h4, h⟩ | ⟨h4, h⟩
        · skip
          cases h
          exact call_pathL (gs := [.a, .an (V.agg [i64 z1278, i64 z1279]) [], .a, .an (V.agg [i64 z1280, i64 z1281]) [], .an (i64 z1282) [], .a, .a, .ft [⟨0, [0], []⟩, ⟨1, [], []⟩, ⟨2, [1], []⟩, ⟨3, [], []⟩, ⟨4, [], []⟩, ⟨5, [], []⟩, ⟨6, [0], [0]⟩, ⟨7, [1], [1]⟩, ⟨8, [], []⟩], .f, .t, .a, .a]) (notIn []) rfl rfl (by kernel_rfl) (And.intro h0 (And.intro h1 (And.intro (F74_ok (m + 4) (z1275) z1282 h2) (And.intro (Eq.refl ([⟨0, [0], []⟩, ⟨1, [], []⟩, ⟨2, [1], []⟩, ⟨3, [], []⟩, ⟨4, [], []⟩, ⟨5, [], []⟩, ⟨6, [0], [0]⟩, ⟨7, [1], [1]⟩, ⟨8, [], []⟩] : List Foot)) (And.intro (decide_eq_false h3) (And.intro (decide_eq_true h4) True.intro))))))
        · skip
          obtain ⟨r5, h5, h⟩ := Option.bind_eq_some_iff.mp h
          have h5 := F75_ok (m + 1) (z1282) (z1276) r5 h5
          cases r5 with
          | a0 z1324 =>
            obtain ⟨r6, h6, h⟩ := Option.bind_eq_some_iff.mp h
            have h6 := F76_ok (m + 0) (z1278) (z1280) (z1324) r6 h6
            cases r6 with
            | a0 z1347 =>
              obtain ⟨r7, h7, h⟩ := Option.bind_eq_some_iff.mp h
              have h7 := F76_ok (m + 0) (z1279) (z1281) (z1324) r7 h7
              cases r7 with
              | a0 z1348 =>
                cases h
                exact call_pathL (gs := [.a, .an (V.agg [i64 z1278, i64 z1279]) [], .a, .an (V.agg [i64 z1280, i64 z1281]) [], .an (i64 z1282) [], .a, .a, .ft [⟨0, [0], []⟩, ⟨1, [], []⟩, ⟨2, [1], []⟩, ⟨3, [], []⟩, ⟨4, [], []⟩, ⟨5, [], []⟩, ⟨6, [0], [0]⟩, ⟨7, [1], [1]⟩, ⟨8, [], []⟩], .f, .f, .an (i64 z1324) [], .a, .a, .an (i64 z1347) [], .a, .a, .an (i64 z1348) [], .a, .ft [⟨0, [0], []⟩, ⟨1, [0], []⟩, ⟨2, [1], []⟩, ⟨3, [1], []⟩, ⟨4, [], []⟩, ⟨5, [], []⟩, ⟨6, [0], []⟩, ⟨7, [0], []⟩, ⟨8, [1], []⟩, ⟨9, [1], []⟩, ⟨10, [], []⟩, ⟨11, [], []⟩, ⟨12, [], []⟩, ⟨13, [2], [2]⟩]]) (notIn []) rfl rfl (by kernel_rfl) (And.intro h0 (And.intro h1 (And.intro (F74_ok (m + 4) (z1275) z1282 h2) (And.intro (Eq.refl ([⟨0, [0], []⟩, ⟨1, [], []⟩, ⟨2, [1], []⟩, ⟨3, [], []⟩, ⟨4, [], []⟩, ⟨5, [], []⟩, ⟨6, [0], [0]⟩, ⟨7, [1], [1]⟩, ⟨8, [], []⟩] : List Foot)) (And.intro (decide_eq_false h3) (And.intro (decide_eq_false h4) (And.intro h5 (And.intro h6 (And.intro h7 (And.intro (Eq.refl ([⟨0, [0], []⟩, ⟨1, [0], []⟩, ⟨2, [1], []⟩, ⟨3, [1], []⟩, ⟨4, [], []⟩, ⟨5, [], []⟩, ⟨6, [0], []⟩, ⟨7, [0], []⟩, ⟨8, [1], []⟩, ⟨9, [1], []⟩, ⟨10, [], []⟩, ⟨11, [], []⟩, ⟨12, [], []⟩, ⟨13, [2], [2]⟩] : List Foot)) True.intro))))))))))
/-! ## 70 -/
noncomputable abbrev B70v1 : Code := (Try.f70.body).getD .skip
inductive R70v1_0 where
  | e0
  | e1 (k1456 : Nat) (l1457 : List (List V))
@[reducible] def s70v1_0_0 (z1427 : Int) (z1428 : Int) (z1429 : Int) (z1430 : Int) (b1431 : Bool) (l1432 : List (List V)) (z1433 : Int) (b1434 : Bool) : S := { T := U :: i64 z1427 :: i64 z1428 :: V.ptr 0 0 0 :: U :: U :: V.ptr 1 0 0 :: V.ptr 2 0 0 :: i64 z1429 :: i64 z1430 :: un 12 (i64 z1430 :: V.agg [vb b1431, V.list 2 l1432] :: i64 z1433 :: vb b1434 :: un 56 []), σ := [Ob.cells true false 2 [[vb b1431, V.list 2 l1432]], Ob.cells true false 2 [[vb false, V.nilS]], Ob.cells true false 2 [[vb false, V.nilS]]] }
@[reducible] def s70v1_0_1 (z1448 : Int) (z1449 : Int) (z1450 : Int) (z1451 : Int) (b1452 : Bool) (l1453 : List (List V)) (z1454 : Int) (b1455 : Bool) (k1456 : Nat) (l1457 : List (List V)) : S := { T := U :: i64 z1448 :: i64 z1449 :: V.ptr 0 0 0 :: U :: U :: V.ptr 1 0 0 :: V.ptr 2 0 0 :: i64 z1450 :: i64 z1451 :: un 12 (i64 z1451 :: V.agg [vb b1452, V.list 2 l1453] :: i64 z1454 :: vb b1455 :: un 56 []), σ := [Ob.cells true false 2 [[vb b1452, V.list 2 l1453]], Ob.cells true false 2 [[vb false, V.nilS]], Ob.cells true false 2 [[vb false, V.hs 3 0 k1456]], Ob.cells true true 2 l1457] }
def R70v1_0.St : R70v1_0 → VX × S → Prop
  | .e0, p => ∃ z1427 : Int, ∃ z1428 : Int, ∃ z1429 : Int, ∃ z1430 : Int, ∃ b1431 : Bool, ∃ l1432 : List (List V), ∃ z1433 : Int, ∃ b1434 : Bool, p = (VX.exit 0, s70v1_0_0 z1427 z1428 z1429 z1430 b1431 l1432 z1433 b1434)
  | .e1 k1456 l1457, p => ∃ z1448 : Int, ∃ z1449 : Int, ∃ z1450 : Int, ∃ z1451 : Int, ∃ b1452 : Bool, ∃ l1453 : List (List V), ∃ z1454 : Int, ∃ b1455 : Bool, p = (VX.exit 0, s70v1_0_1 z1448 z1449 z1450 z1451 b1452 l1453 z1454 b1455 k1456 l1457)
def L70v1_0s1 : Nat → Int → Int → Int → Int → Bool → List (List V) → Nat → List (List V) → Option R70v1_0
  | 0, _, _, _, _, _, _, _, _ => none
  | n + 1, z1380, z1381, z1382, z1383, b1384, l1385, k1386, l1387 =>
    bnd (F58v1 (b1384) (l1385)) fun z1435 =>
    if z1383 < z1435 then
     (F59v1 (b1384) (l1385) (z1383)).bind fun r => match r with
     | .a0 z1436 z1437 z1438 z1439 =>
      (F61 (z1436) (z1437) (z1438) (z1439)).bind fun r => match r with
      | .a0 z1440 =>
       bnd (F60 (z1382) (z1440)) fun z1441 =>
       if z1440 > 0 then
        if z1441 > z1380 then
         if z1382 < z1381 then
          if ((↑k1386 : Int) == 0) = true then
           (F40 (z1436) (z1437) (z1438) (z1439) (w64 (z1380 - z1382)) (z1440)).bind fun r => match r with
           | .a0 z1442 z1443 =>
            if 0 + k1386 ≤ List.length l1387 ∧ (k1386 + 1) * 16 ≤ 140737488355328 ∧ k1386 + 1 ≤ 140737488355328 then
             (F40 (z1436) (z1437) (z1438) (z1439) (w64 (z1381 - z1382)) (z1440)).bind fun r => match r with
             | .a0 z1444 z1445 =>
              if 0 + (k1386 + 1) ≤ List.length (List.take k1386 l1387 ++ [[i64 z1442, i64 z1443]]) ∧ (k1386 + 1 + 1) * 16 ≤ 140737488355328 ∧ k1386 + 1 + 1 ≤ 140737488355328 then
               L70v1_0s1 n (z1380) (z1381) (z1441) (w64 (z1383 + 1)) (b1384) (l1385) (k1386 + 1 + 1) (List.take (k1386 + 1) (List.take k1386 l1387 ++ [[i64 z1442, i64 z1443]]) ++ [[i64 z1444, i64 z1445]])
              else
               none -- none
            else
             none -- none
          else
           (F40 (z1436) (z1437) (z1438) (z1439) (w64 (z1381 - z1382)) (z1440)).bind fun r => match r with
           | .a0 z1446 z1447 =>
            if 0 + k1386 ≤ List.length l1387 ∧ (k1386 + 1) * 16 ≤ 140737488355328 ∧ k1386 + 1 ≤ 140737488355328 then
             L70v1_0s1 n (z1380) (z1381) (z1441) (w64 (z1383 + 1)) (b1384) (l1385) (k1386 + 1) (List.take k1386 l1387 ++ [[i64 z1446, i64 z1447]])
            else
             none -- none
         else
          L70v1_0s1 n (z1380) (z1381) (z1441) (w64 (z1383 + 1)) (b1384) (l1385) (k1386) (l1387)
        else
         L70v1_0s1 n (z1380) (z1381) (z1441) (w64 (z1383 + 1)) (b1384) (l1385) (k1386) (l1387)
       else
        L70v1_0s1 n (z1380) (z1381) (z1441) (w64 (z1383 + 1)) (b1384) (l1385) (k1386) (l1387)
    else
     some (R70v1_0.e1 (k1386) (l1387))
theorem L70v1_0s1_ok (m : Nat) : ∀ (n : Nat) (z1380 : Int) (z1381 : Int) (z1382 : Int) (z1383 : Int) (b1384 : Bool) (l1385 : List (List V)) (k1386 : Nat) (l1387 : List (List V)) (r : R70v1_0), L70v1_0s1 n z1380 z1381 z1382 z1383 b1384 l1385 k1386 l1387 = some r → ∃ st, loopFrom Try.prog X (call Try.prog X O0 100000 (m + 7)) 70 (0) 100000 B70v1 0 n ({ T := U :: i64 z1380 :: i64 z1381 :: V.ptr 0 0 0 :: U :: U :: V.ptr 1 0 0 :: V.ptr 2 0 0 :: i64 z1382 :: i64 z1383 :: un 72 [], σ := [Ob.cells true false 2 [[vb b1384, V.list 2 l1385]], Ob.cells true false 2 [[vb false, V.nilS]], Ob.cells true false 2 [[vb false, V.hs 3 0 k1386]], Ob.cells true true 2 l1387] }) = some st ∧ r.St st
  | 0, _, _, _, _, _, _, _, _, r, h => by cases h
  | n + 1, z1380, z1381, z1382, z1383, b1384, l1385, k1386, l1387, r, h => by
    rw [L70v1_0s1] at h
    obtain ⟨z1435, h0, h⟩ := bnd_eq h
    rcases ite_eq h with ⟨h1, h⟩ | ⟨h1, h⟩
    · skip
      obtain ⟨r2, h2, h⟩ := Option.bind_eq_some_iff.mp h
      have h2 := F59v1_ok (m + 3) (b1384) (l1385) (z1383) r2 h2
      cases r2 with
      | a0 z1436 z1437 z1438 z1439 =>
        obtain ⟨r3, h3, h⟩ := Option.bind_eq_some_iff.mp h
        have h3 := F61_ok (m + 4) (z1436) (z1437) (z1438) (z1439) r3 h3
        cases r3 with
        | a0 z1440 =>
          obtain ⟨z1441, h4, h⟩ := bnd_eq h
          rcases ite_eq h with ⟨h5, h⟩ | ⟨h5, h⟩
          · skip
            rcases ite_eq h with ⟨h6, h⟩ | ⟨h6, h⟩
            · skip
              rcases ite_eq h with ⟨h7, h⟩ | ⟨h7, h⟩
              · skip
                rcases ite_eq h with ⟨h8, h⟩ | ⟨h8, h⟩
                · skip
                  obtain ⟨r9, h9, h⟩ := Option.bind_eq_some_iff.mp h
                  have h9 := F40_ok (m + 0) (z1436) (z1437) (z1438) (z1439) (w64 (z1380 - z1382)) (z1440) r9 h9
                  cases r9 with
                  | a0 z1442 z1443 =>
                    rcases ite_eq h with ⟨h10, h⟩ | ⟨h10, h⟩
                    · skip
                      obtain ⟨r11, h11, h⟩ := Option.bind_eq_some_iff.mp h
                      have h11 := F40_ok (m + 0) (z1436) (z1437) (z1438) (z1439) (w64 (z1381 - z1382)) (z1440) r11 h11
                      cases r11 with
                      | a0 z1444 z1445 =>
                        rcases ite_eq h with ⟨h12, h⟩ | ⟨h12, h⟩
                        · skip
                          obtain ⟨st, hs, hr⟩ := L70v1_0s1_ok m n (z1380) (z1381) (z1441) (w64 (z1383 + 1)) (b1384) (l1385) (k1386 + 1 + 1) (List.take (k1386 + 1) (List.take k1386 l1387 ++ [[i64 z1442, i64 z1443]]) ++ [[i64 z1444, i64 z1445]]) r h
                          exact ⟨st, (round_on (gs := [.a, .an (i64 z1435) [], .t, .a, .an (V.tup [V.agg [i64 z1436, i64 z1437], V.agg [i64 z1438, i64 z1439]]) [], .a, .a, .a, .a, .an (i64 z1440) [], .an (i64 z1441) [], .t, .t, .t, .t, .t, .t, .t, .t, .t, .a, .t, .a, .a, .a, .an (V.agg [i64 z1442, i64 z1443]) [], .a, .t, .a, .ft [⟨0, [2], []⟩, ⟨1, [2], []⟩, ⟨2, [7], []⟩, ⟨3, [8], []⟩, ⟨4, [], []⟩, ⟨5, [], []⟩, ⟨6, [], []⟩, ⟨7, [], []⟩, ⟨8, [], []⟩, ⟨9, [9], [9]⟩, ⟨10, [9, 10, 3], [3, 10]⟩, ⟨11, [2], []⟩, ⟨12, [2], [2]⟩], .a, .a, .a, .an (V.agg [i64 z1444, i64 z1445]) [], .a, .t, .a, .ft [⟨0, [2], []⟩, ⟨1, [2], []⟩, ⟨2, [7], []⟩, ⟨3, [8], []⟩, ⟨4, [], []⟩, ⟨5, [], []⟩, ⟨6, [], []⟩, ⟨7, [], []⟩, ⟨8, [], []⟩, ⟨9, [11], [11]⟩, ⟨10, [11, 12, 10], [10, 12]⟩, ⟨11, [2], []⟩, ⟨12, [2], [2]⟩]]) (notIn []) (by kernel_rfl) (And.intro (F58v1_ok (m + 6) (b1384) (l1385) z1435 h0) (And.intro (decide_eq_true h1) (And.intro h2 (And.intro h3 (And.intro (F60_ok (m + 4) (z1382) (z1440) z1441 h4) (And.intro (decide_eq_true h5) (And.intro (decide_eq_true h5) (And.intro (decide_eq_true h5) (And.intro (decide_eq_true h5) (And.intro (decide_eq_true h6) (And.intro (decide_eq_true h6) (And.intro (decide_eq_true h6) (And.intro (decide_eq_true h6) (And.intro (decide_eq_true h7) (And.intro h8 (And.intro h9 (And.intro (decide_eq_true h10) (And.intro (Eq.refl ([⟨0, [2], []⟩, ⟨1, [2], []⟩, ⟨2, [7], []⟩, ⟨3, [8], []⟩, ⟨4, [], []⟩, ⟨5, [], []⟩, ⟨6, [], []⟩, ⟨7, [], []⟩, ⟨8, [], []⟩, ⟨9, [9], [9]⟩, ⟨10, [9, 10, 3], [3, 10]⟩, ⟨11, [2], []⟩, ⟨12, [2], [2]⟩] : List Foot)) (And.intro h11 (And.intro (decide_eq_true h12) (And.intro (Eq.refl ([⟨0, [2], []⟩, ⟨1, [2], []⟩, ⟨2, [7], []⟩, ⟨3, [8], []⟩, ⟨4, [], []⟩, ⟨5, [], []⟩, ⟨6, [], []⟩, ⟨7, [], []⟩, ⟨8, [], []⟩, ⟨9, [11], [11]⟩, ⟨10, [11, 12, 10], [10, 12]⟩, ⟨11, [2], []⟩, ⟨12, [2], [2]⟩] : List Foot)) True.intro))))))))))))))))))))) n).trans hs, hr⟩
                        · skip
                          cases h
                    · skip
                      cases h
                · skip
                  obtain ⟨r9, h9, h⟩ := Option.bind_eq_some_iff.mp h
                  have h9 := F40_ok (m + 0) (z1436) (z1437) (z1438) (z1439) (w64 (z1381 - z1382)) (z1440) r9 h9
                  cases r9 with
                  | a0 z1446 z1447 =>
                    rcases ite_eq h with ⟨h10, h⟩ | ⟨h10, h⟩
                    · skip
                      obtain ⟨st, hs, hr⟩ := L70v1_0s1_ok m n (z1380) (z1381) (z1441) (w64 (z1383 + 1)) (b1384) (l1385) (k1386 + 1) (List.take k1386 l1387 ++ [[i64 z1446, i64 z1447]]) r h
                      exact ⟨st, (round_on (gs := [.a, .an (i64 z1435) [], .t, .a, .an (V.tup [V.agg [i64 z1436, i64 z1437], V.agg [i64 z1438, i64 z1439]]) [], .a, .a, .a, .a, .an (i64 z1440) [], .an (i64 z1441) [], .t, .t, .t, .t, .t, .t, .t, .t, .t, .a, .f, .a, .a, .a, .an (V.agg [i64 z1446, i64 z1447]) [], .a, .t, .a, .ft [⟨0, [2], []⟩, ⟨1, [2], []⟩, ⟨2, [7], []⟩, ⟨3, [8], []⟩, ⟨4, [], []⟩, ⟨5, [], []⟩, ⟨6, [], []⟩, ⟨7, [], []⟩, ⟨8, [], []⟩, ⟨9, [9], [9]⟩, ⟨10, [9, 10, 3], [3, 10]⟩, ⟨11, [2], []⟩, ⟨12, [2], [2]⟩]]) (notIn []) (by kernel_rfl) (And.intro (F58v1_ok (m + 6) (b1384) (l1385) z1435 h0) (And.intro (decide_eq_true h1) (And.intro h2 (And.intro h3 (And.intro (F60_ok (m + 4) (z1382) (z1440) z1441 h4) (And.intro (decide_eq_true h5) (And.intro (decide_eq_true h5) (And.intro (decide_eq_true h5) (And.intro (decide_eq_true h5) (And.intro (decide_eq_true h6) (And.intro (decide_eq_true h6) (And.intro (decide_eq_true h6) (And.intro (decide_eq_true h6) (And.intro (decide_eq_true h7) (And.intro (Bool.eq_false_iff.mpr h8) (And.intro h9 (And.intro (decide_eq_true h10) (And.intro (Eq.refl ([⟨0, [2], []⟩, ⟨1, [2], []⟩, ⟨2, [7], []⟩, ⟨3, [8], []⟩, ⟨4, [], []⟩, ⟨5, [], []⟩, ⟨6, [], []⟩, ⟨7, [], []⟩, ⟨8, [], []⟩, ⟨9, [9], [9]⟩, ⟨10, [9, 10, 3], [3, 10]⟩, ⟨11, [2], []⟩, ⟨12, [2], [2]⟩] : List Foot)) True.intro)))))))))))))))))) n).trans hs, hr⟩
                    · skip
                      cases h
              · skip
                obtain ⟨st, hs, hr⟩ := L70v1_0s1_ok m n (z1380) (z1381) (z1441) (w64 (z1383 + 1)) (b1384) (l1385) (k1386) (l1387) r h
                exact ⟨st, (round_on (gs := [.a, .an (i64 z1435) [], .t, .a, .an (V.tup [V.agg [i64 z1436, i64 z1437], V.agg [i64 z1438, i64 z1439]]) [], .a, .a, .a, .a, .an (i64 z1440) [], .an (i64 z1441) [], .t, .t, .t, .t, .t, .t, .t, .t, .f]) (notIn []) (by kernel_rfl) (And.intro (F58v1_ok (m + 6) (b1384) (l1385) z1435 h0) (And.intro (decide_eq_true h1) (And.intro h2 (And.intro h3 (And.intro (F60_ok (m + 4) (z1382) (z1440) z1441 h4) (And.intro (decide_eq_true h5) (And.intro (decide_eq_true h5) (And.intro (decide_eq_true h5) (And.intro (decide_eq_true h5) (And.intro (decide_eq_true h6) (And.intro (decide_eq_true h6) (And.intro (decide_eq_true h6) (And.intro (decide_eq_true h6) (And.intro (decide_eq_false h7) True.intro)))))))))))))) n).trans hs, hr⟩
            · skip
              obtain ⟨st, hs, hr⟩ := L70v1_0s1_ok m n (z1380) (z1381) (z1441) (w64 (z1383 + 1)) (b1384) (l1385) (k1386) (l1387) r h
              exact ⟨st, (round_on (gs := [.a, .an (i64 z1435) [], .t, .a, .an (V.tup [V.agg [i64 z1436, i64 z1437], V.agg [i64 z1438, i64 z1439]]) [], .a, .a, .a, .a, .an (i64 z1440) [], .an (i64 z1441) [], .t, .t, .t, .t, .f, .f, .f, .f, .a]) (notIn []) (by kernel_rfl) (And.intro (F58v1_ok (m + 6) (b1384) (l1385) z1435 h0) (And.intro (decide_eq_true h1) (And.intro h2 (And.intro h3 (And.intro (F60_ok (m + 4) (z1382) (z1440) z1441 h4) (And.intro (decide_eq_true h5) (And.intro (decide_eq_true h5) (And.intro (decide_eq_true h5) (And.intro (decide_eq_true h5) (And.intro (decide_eq_false h6) (And.intro (decide_eq_false h6) (And.intro (decide_eq_false h6) (And.intro (decide_eq_false h6) True.intro))))))))))))) n).trans hs, hr⟩
          · skip
            obtain ⟨st, hs, hr⟩ := L70v1_0s1_ok m n (z1380) (z1381) (z1441) (w64 (z1383 + 1)) (b1384) (l1385) (k1386) (l1387) r h
            exact ⟨st, (round_on (gs := [.a, .an (i64 z1435) [], .t, .a, .an (V.tup [V.agg [i64 z1436, i64 z1437], V.agg [i64 z1438, i64 z1439]]) [], .a, .a, .a, .a, .an (i64 z1440) [], .an (i64 z1441) [], .f, .f, .f, .f, .a, .a, .a, .a, .a]) (notIn []) (by kernel_rfl) (And.intro (F58v1_ok (m + 6) (b1384) (l1385) z1435 h0) (And.intro (decide_eq_true h1) (And.intro h2 (And.intro h3 (And.intro (F60_ok (m + 4) (z1382) (z1440) z1441 h4) (And.intro (decide_eq_false h5) (And.intro (decide_eq_false h5) (And.intro (decide_eq_false h5) (And.intro (decide_eq_false h5) True.intro))))))))) n).trans hs, hr⟩
    · skip
      cases h
      exact ⟨_, round_out (gs := [.a, .an (i64 z1435) [], .f]) (notIn []) (by kernel_rfl) rfl (And.intro (F58v1_ok (m + 6) (b1384) (l1385) z1435 h0) (And.intro (decide_eq_false h1) True.intro)) n, z1380, z1381, z1382, z1383, b1384, l1385, z1435, decide (z1383 < z1435), rfl⟩
def L70v1_0 : Nat → Int → Int → Int → Int → Bool → List (List V) → Option R70v1_0
  | 0, _, _, _, _, _, _ => none
  | n + 1, z1359, z1360, z1361, z1362, b1363, l1364 =>
    bnd (F58v1 (b1363) (l1364)) fun z1416 =>
    if z1362 < z1416 then
     (F59v1 (b1363) (l1364) (z1362)).bind fun r => match r with
     | .a0 z1417 z1418 z1419 z1420 =>
      (F61 (z1417) (z1418) (z1419) (z1420)).bind fun r => match r with
      | .a0 z1421 =>
       bnd (F60 (z1361) (z1421)) fun z1422 =>
       if z1421 > 0 then
        if z1422 > z1359 then
         if z1361 < z1360 then
          (F40 (z1417) (z1418) (z1419) (z1420) (w64 (z1359 - z1361)) (z1421)).bind fun r => match r with
          | .a0 z1423 z1424 =>
           (F40 (z1417) (z1418) (z1419) (z1420) (w64 (z1360 - z1361)) (z1421)).bind fun r => match r with
           | .a0 z1425 z1426 =>
            L70v1_0s1 n (z1359) (z1360) (z1422) (w64 (z1362 + 1)) (b1363) (l1364) (2) ([[i64 z1423, i64 z1424], [i64 z1425, i64 z1426]])
         else
          L70v1_0 n (z1359) (z1360) (z1422) (w64 (z1362 + 1)) (b1363) (l1364)
        else
         L70v1_0 n (z1359) (z1360) (z1422) (w64 (z1362 + 1)) (b1363) (l1364)
       else
        L70v1_0 n (z1359) (z1360) (z1422) (w64 (z1362 + 1)) (b1363) (l1364)
    else
     some (R70v1_0.e0)
theorem L70v1_0_ok (m : Nat) : ∀ (n : Nat) (z1359 : Int) (z1360 : Int) (z1361 : Int) (z1362 : Int) (b1363 : Bool) (l1364 : List (List V)) (r : R70v1_0), L70v1_0 n z1359 z1360 z1361 z1362 b1363 l1364 = some r → ∃ st, loopFrom Try.prog X (call Try.prog X O0 100000 (m + 7)) 70 (0) 100000 B70v1 0 n ({ T := U :: i64 z1359 :: i64 z1360 :: V.ptr 0 0 0 :: U :: U :: V.ptr 1 0 0 :: V.ptr 2 0 0 :: i64 z1361 :: i64 z1362 :: un 72 [], σ := [Ob.cells true false 2 [[vb b1363, V.list 2 l1364]], Ob.cells true false 2 [[vb false, V.nilS]], Ob.cells true false 2 [[vb false, V.nilS]]] }) = some st ∧ r.St st
  | 0, _, _, _, _, _, _, r, h => by cases h
  | n + 1, z1359, z1360, z1361, z1362, b1363, l1364, r, h => by
    rw [L70v1_0] at h
    obtain ⟨z1416, h0, h⟩ := bnd_eq h
    rcases ite_eq h with ⟨h1, h⟩ | ⟨h1, h⟩
    · skip
      obtain ⟨r2, h2, h⟩ := Option.bind_eq_some_iff.mp h
      have h2 := F59v1_ok (m + 3) (b1363) (l1364) (z1362) r2 h2
      cases r2 with
      | a0 z1417 z1418 z1419 z1420 =>
        obtain ⟨r3, h3, h⟩ := Option.bind_eq_some_iff.mp h
        have h3 := F61_ok (m + 4) (z1417) (z1418) (z1419) (z1420) r3 h3
        cases r3 with
        | a0 z1421 =>
          obtain ⟨z1422, h4, h⟩ := bnd_eq h
          rcases ite_eq h with ⟨h5, h⟩ | ⟨h5, h⟩
          · skip
            rcases ite_eq h with ⟨h6, h⟩ | ⟨h6, h⟩
            · skip
              rcases ite_eq h with ⟨h7, h⟩ | ⟨h7, h⟩
              · skip
                obtain ⟨r8, h8, h⟩ := Option.bind_eq_some_iff.mp h
                have h8 := F40_ok (m + 0) (z1417) (z1418) (z1419) (z1420) (w64 (z1359 - z1361)) (z1421) r8 h8
                cases r8 with
                | a0 z1423 z1424 =>
                  obtain ⟨r9, h9, h⟩ := Option.bind_eq_some_iff.mp h
                  have h9 := F40_ok (m + 0) (z1417) (z1418) (z1419) (z1420) (w64 (z1360 - z1361)) (z1421) r9 h9
                  cases r9 with
                  | a0 z1425 z1426 =>
                    obtain ⟨st, hs, hr⟩ := L70v1_0s1_ok m n (z1359) (z1360) (z1422) (w64 (z1362 + 1)) (b1363) (l1364) (2) ([[i64 z1423, i64 z1424], [i64 z1425, i64 z1426]]) r h
                    exact ⟨st, (round_on (gs := [.a, .an (i64 z1416) [], .t, .a, .an (V.tup [V.agg [i64 z1417, i64 z1418], V.agg [i64 z1419, i64 z1420]]) [], .a, .a, .a, .a, .an (i64 z1421) [], .an (i64 z1422) [], .t, .t, .t, .t, .t, .t, .t, .t, .t, .a, .a, .a, .a, .a, .an (V.agg [i64 z1423, i64 z1424]) [], .a, .a, .a, .ft [⟨0, [2], []⟩, ⟨1, [2], []⟩, ⟨2, [6], []⟩, ⟨3, [7], []⟩, ⟨4, [], []⟩, ⟨5, [], []⟩, ⟨6, [], []⟩, ⟨7, [], []⟩, ⟨8, [], []⟩, ⟨9, [8], [8]⟩, ⟨10, [8, 9], [9]⟩, ⟨11, [2], []⟩, ⟨12, [2], [2]⟩], .a, .a, .a, .an (V.agg [i64 z1425, i64 z1426]) [], .a, .a, .a, .ft [⟨0, [2], []⟩, ⟨1, [2], []⟩, ⟨2, [6], []⟩, ⟨3, [7], []⟩, ⟨4, [], []⟩, ⟨5, [], []⟩, ⟨6, [], []⟩, ⟨7, [], []⟩, ⟨8, [], []⟩, ⟨9, [10], [10]⟩, ⟨10, [10, 11, 9], [9, 11]⟩, ⟨11, [2], []⟩, ⟨12, [2], [2]⟩]]) (notIn []) (by kernel_rfl) (And.intro (F58v1_ok (m + 6) (b1363) (l1364) z1416 h0) (And.intro (decide_eq_true h1) (And.intro h2 (And.intro h3 (And.intro (F60_ok (m + 4) (z1361) (z1421) z1422 h4) (And.intro (decide_eq_true h5) (And.intro (decide_eq_true h5) (And.intro (decide_eq_true h5) (And.intro (decide_eq_true h5) (And.intro (decide_eq_true h6) (And.intro (decide_eq_true h6) (And.intro (decide_eq_true h6) (And.intro (decide_eq_true h6) (And.intro (decide_eq_true h7) (And.intro h8 (And.intro (Eq.refl ([⟨0, [2], []⟩, ⟨1, [2], []⟩, ⟨2, [6], []⟩, ⟨3, [7], []⟩, ⟨4, [], []⟩, ⟨5, [], []⟩, ⟨6, [], []⟩, ⟨7, [], []⟩, ⟨8, [], []⟩, ⟨9, [8], [8]⟩, ⟨10, [8, 9], [9]⟩, ⟨11, [2], []⟩, ⟨12, [2], [2]⟩] : List Foot)) (And.intro h9 (And.intro (Eq.refl ([⟨0, [2], []⟩, ⟨1, [2], []⟩, ⟨2, [6], []⟩, ⟨3, [7], []⟩, ⟨4, [], []⟩, ⟨5, [], []⟩, ⟨6, [], []⟩, ⟨7, [], []⟩, ⟨8, [], []⟩, ⟨9, [10], [10]⟩, ⟨10, [10, 11, 9], [9, 11]⟩, ⟨11, [2], []⟩, ⟨12, [2], [2]⟩] : List Foot)) True.intro)))))))))))))))))) n).trans hs, hr⟩
              · skip
                obtain ⟨st, hs, hr⟩ := L70v1_0_ok m n (z1359) (z1360) (z1422) (w64 (z1362 + 1)) (b1363) (l1364) r h
                exact ⟨st, (round_on (gs := [.a, .an (i64 z1416) [], .t, .a, .an (V.tup [V.agg [i64 z1417, i64 z1418], V.agg [i64 z1419, i64 z1420]]) [], .a, .a, .a, .a, .an (i64 z1421) [], .an (i64 z1422) [], .t, .t, .t, .t, .t, .t, .t, .t, .f]) (notIn []) (by kernel_rfl) (And.intro (F58v1_ok (m + 6) (b1363) (l1364) z1416 h0) (And.intro (decide_eq_true h1) (And.intro h2 (And.intro h3 (And.intro (F60_ok (m + 4) (z1361) (z1421) z1422 h4) (And.intro (decide_eq_true h5) (And.intro (decide_eq_true h5) (And.intro (decide_eq_true h5) (And.intro (decide_eq_true h5) (And.intro (decide_eq_true h6) (And.intro (decide_eq_true h6) (And.intro (decide_eq_true h6) (And.intro (decide_eq_true h6) (And.intro (decide_eq_false h7) True.intro)))))))))))))) n).trans hs, hr⟩
            · skip
              obtain ⟨st, hs, hr⟩ := L70v1_0_ok m n (z1359) (z1360) (z1422) (w64 (z1362 + 1)) (b1363) (l1364) r h
              exact ⟨st, (round_on (gs := [.a, .an (i64 z1416) [], .t, .a, .an (V.tup [V.agg [i64 z1417, i64 z1418], V.agg [i64 z1419, i64 z1420]]) [], .a, .a, .a, .a, .an (i64 z1421) [], .an (i64 z1422) [], .t, .t, .t, .t, .f, .f, .f, .f, .a]) (notIn []) (by kernel_rfl) (And.intro (F58v1_ok (m + 6) (b1363) (l1364) z1416 h0) (And.intro (decide_eq_true h1) (And.intro h2 (And.intro h3 (And.intro (F60_ok (m + 4) (z1361) (z1421) z1422 h4) (And.intro (decide_eq_true h5) (And.intro (decide_eq_true h5) (And.intro (decide_eq_true h5) (And.intro (decide_eq_true h5) (And.intro (decide_eq_false h6) (And.intro (decide_eq_false h6) (And.intro (decide_eq_false h6) (And.intro (decide_eq_false h6) True.intro))))))))))))) n).trans hs, hr⟩
          · skip
            obtain ⟨st, hs, hr⟩ := L70v1_0_ok m n (z1359) (z1360) (z1422) (w64 (z1362 + 1)) (b1363) (l1364) r h
            exact ⟨st, (round_on (gs := [.a, .an (i64 z1416) [], .t, .a, .an (V.tup [V.agg [i64 z1417, i64 z1418], V.agg [i64 z1419, i64 z1420]]) [], .a, .a, .a, .a, .an (i64 z1421) [], .an (i64 z1422) [], .f, .f, .f, .f, .a, .a, .a, .a, .a]) (notIn []) (by kernel_rfl) (And.intro (F58v1_ok (m + 6) (b1363) (l1364) z1416 h0) (And.intro (decide_eq_true h1) (And.intro h2 (And.intro h3 (And.intro (F60_ok (m + 4) (z1361) (z1421) z1422 h4) (And.intro (decide_eq_false h5) (And.intro (decide_eq_false h5) (And.intro (decide_eq_false h5) (And.intro (decide_eq_false h5) True.intro))))))))) n).trans hs, hr⟩
    · skip
      cases h
      exact ⟨_, round_out (gs := [.a, .an (i64 z1416) [], .f]) (notIn []) (by kernel_rfl) rfl (And.intro (F58v1_ok (m + 6) (b1363) (l1364) z1416 h0) (And.intro (decide_eq_false h1) True.intro)) n, z1359, z1360, z1361, z1362, b1363, l1364, z1416, decide (z1362 < z1416), rfl⟩
inductive A70v1 where
  | a0 (b1415 : Bool)
  | a1 (b1476 : Bool) (k1477 : Nat) (l1478 : List (List V))
@[reducible] def A70v1.out : A70v1 → V × Store
  | .a0 b1415 => (V.agg [vb b1415, V.nilS], [])
  | .a1 b1476 k1477 l1478 => (V.agg [vb b1476, V.hs 0 0 k1477], [Ob.cells true true 2 l1478])
def F70v1 (b1252 : Bool) (l1253 : List (List V)) (z1254 : Int) (z1255 : Int) : Option A70v1 :=
  bnd (F74 (z1254)) fun z1413 =>
  bnd (F74 (z1255)) fun z1414 =>
  if z1413 ≥ z1414 then
   some (A70v1.a0 (false))
  else
   (L70v1_0 100000 (z1413) (z1414) (0) (0) (b1252) (l1253)).bind fun r => match r with
   | .e0 =>
    some (A70v1.a0 (false))
   | .e1 k1474 l1475 =>
    some (A70v1.a1 (false) (k1474) (l1475))
theorem F70v1_ok (m : Nat) (b1252 : Bool) (l1253 : List (List V)) (z1254 : Int) (z1255 : Int) (r : A70v1) (h : F70v1 b1252 l1253 z1254 z1255 = some r) : call Try.prog X O0 100000 (m + 8) 70 ([V.agg [vb b1252, V.list 2 l1253], i64 z1254, i64 z1255]) ([]) = some r.out := by
  unfold F70v1 at h
  obtain ⟨z1413, h0, h⟩ := bnd_eq h
  obtain ⟨z1414, h1, h⟩ := bnd_eq h
  rcases ite_eq h with ⟨h2, h⟩ | ⟨h2, h⟩
  · skip
    cases h
    exact call_pathL (gs := [.an (i64 z1413) [], .an (i64 z1414) [], .t, .a, .a]) (notIn []) rfl rfl (by kernel_rfl) (And.intro (F74_ok (m + 5) (z1254) z1413 h0) (And.intro (F74_ok (m + 5) (z1255) z1414 h1) (And.intro (decide_eq_true h2) True.intro)))
  · skip
    obtain ⟨r3, h3, h⟩ := Option.bind_eq_some_iff.mp h
    obtain ⟨st3, h3, hr3⟩ := L70v1_0_ok m 100000 (z1413) (z1414) (0) (0) (b1252) (l1253) r3 h3
    have h3 : loopRun Try.prog X (call Try.prog X O0 100000 (m + 7)) 70 (0) 100000 B70v1 0 ({ T := V.agg [vb b1252, V.list 2 l1253] :: i64 z1413 :: i64 z1414 :: V.ptr 0 0 0 :: U :: U :: V.ptr 1 0 0 :: V.ptr 2 0 0 :: i64 0 :: i64 0 :: un 4 (i64 z1254 :: i64 z1413 :: i64 z1255 :: i64 z1414 :: i64 z1413 :: i64 z1414 :: vb (decide (z1413 ≥ z1414)) :: un 61 []), σ := [Ob.cells true false 2 [[vb b1252, V.list 2 l1253]], Ob.cells true false 2 [[vb false, V.nilS]], Ob.cells true false 2 [[vb false, V.nilS]]] }) = some st3 := by
      rw [loopRun_from, show prep (0) (X.keep 70 0) ({ T := V.agg [vb b1252, V.list 2 l1253] :: i64 z1413 :: i64 z1414 :: V.ptr 0 0 0 :: U :: U :: V.ptr 1 0 0 :: V.ptr 2 0 0 :: i64 0 :: i64 0 :: un 4 (i64 z1254 :: i64 z1413 :: i64 z1255 :: i64 z1414 :: i64 z1413 :: i64 z1414 :: vb (decide (z1413 ≥ z1414)) :: un 61 []), σ := [Ob.cells true false 2 [[vb b1252, V.list 2 l1253]], Ob.cells true false 2 [[vb false, V.nilS]], Ob.cells true false 2 [[vb false, V.nilS]]] }) = { T := U :: i64 z1413 :: i64 z1414 :: V.ptr 0 0 0 :: U :: U :: V.ptr 1 0 0 :: V.ptr 2 0 0 :: i64 0 :: i64 0 :: un 72 [], σ := [Ob.cells true false 2 [[vb b1252, V.list 2 l1253]], Ob.cells true false 2 [[vb false, V.nilS]], Ob.cells true false 2 [[vb false, V.nilS]]] } by kernel_rfl]
      exact h3
    cases r3 with
    | e0 =>
      obtain ⟨z1458, z1459, z1460, z1461, b1462, l1463, z1464, b1465, rfl⟩ := hr3
      cases h
      exact call_pathL (gs := [.an (i64 z1413) [], .an (i64 z1414) [], .f, .lp (VX.exit 0) (s70v1_0_0 z1458 z1459 z1460 z1461 b1462 l1463 z1464 b1465), .a, .a]) (notIn []) rfl rfl (by kernel_rfl) (And.intro (F74_ok (m + 5) (z1254) z1413 h0) (And.intro (F74_ok (m + 5) (z1255) z1414 h1) (And.intro (decide_eq_false h2) (And.intro h3 True.intro))))
    | e1 k1474 l1475 =>
      obtain ⟨z1466, z1467, z1468, z1469, b1470, l1471, z1472, b1473, rfl⟩ := hr3
      cases h
      exact call_pathL (gs := [.an (i64 z1413) [], .an (i64 z1414) [], .f, .lp (VX.exit 0) (s70v1_0_1 z1466 z1467 z1468 z1469 b1470 l1471 z1472 b1473 k1474 l1475), .a, .a]) (notIn []) rfl rfl (by kernel_rfl) (And.intro (F74_ok (m + 5) (z1254) z1413 h0) (And.intro (F74_ok (m + 5) (z1255) z1414 h1) (And.intro (decide_eq_false h2) (And.intro h3 True.intro))))
/-! ## 38 -/
inductive A38v1 where
  | a0 (b1481 : Bool)
@[reducible] def A38v1.out : A38v1 → V × Store
  | .a0 b1481 => (vb b1481, [])
def F38v1 (b789 : Bool) (l790 : List (List V)) (z791 : Int) (z792 : Int) : Option A38v1 :=
  (F23v1 (b789) (l790)).bind fun r => match r with
  | .a0 z905 =>
   (F29v1 (b789) (l790)).bind fun r => match r with
   | .a0 z1019 =>
    if (z905 == z1019) = true then
     bnd (F26v1 (b789) (l790)) fun z1020 =>
     bnd (F58v1 (b789) (l790)) fun z1021 =>
     if (z1020 == z1021) = true then
      (F24v1 (b789) (l790) (z791) (z792)).bind fun r => match r with
      | .a0 b1251 =>
       (F70v1 (b789) (l790) (z791) (z792)).bind fun r => match r with
       | .a0 b1479 =>
        (F32 ([[vb b1251, V.nilS]]) ([[vb b1479, V.nilS]])).bind fun r => match r with
        | .a0 b1480 =>
         some (A38v1.a0 (b1480))
       | .a1 b1482 k1483 l1484 =>
        if 0 + k1483 ≤ List.length l1484 then
         (F32 ([[vb b1251, V.nilS]]) ([[vb b1482, V.list 2 (List.take k1483 l1484)]])).bind fun r => match r with
         | .a0 b1485 =>
          some (A38v1.a0 (b1485))
        else
         none -- none
      | .a1 b1486 k1487 l1488 =>
       if 0 + k1487 ≤ List.length l1488 then
        (F70v1 (b789) (l790) (z791) (z792)).bind fun r => match r with
        | .a0 b1489 =>
         (F32 ([[vb b1486, V.list 2 (List.take k1487 l1488)]]) ([[vb b1489, V.nilS]])).bind fun r => match r with
         | .a0 b1490 =>
          some (A38v1.a0 (b1490))
        | .a1 b1491 k1492 l1493 =>
         if 0 + k1492 ≤ List.length l1493 then
          (F32 ([[vb b1486, V.list 2 (List.take k1487 l1488)]]) ([[vb b1491, V.list 2 (List.take k1492 l1493)]])).bind fun r => match r with
          | .a0 b1494 =>
           some (A38v1.a0 (b1494))
         else
          none -- none
       else
        none -- none
     else
      some (A38v1.a0 (false))
    else
     some (A38v1.a0 (false))
theorem F38v1_ok (m : Nat) (b789 : Bool) (l790 : List (List V)) (z791 : Int) (z792 : Int) (r : A38v1) (h : F38v1 b789 l790 z791 z792 = some r) : call Try.prog X O0 100000 (m + 9) 38 ([V.agg [vb b789, V.list 2 l790], i64 z791, i64 z792]) ([]) = some r.out := by
  unfold F38v1 at h
  obtain ⟨r0, h0, h⟩ := Option.bind_eq_some_iff.mp h
  have h0 := F23v1_ok (m + 3) (b789) (l790) r0 h0
  cases r0 with
  | a0 z905 =>
    obtain ⟨r1, h1, h⟩ := Option.bind_eq_some_iff.mp h
    have h1 := F29v1_ok (m + 3) (b789) (l790) r1 h1
    cases r1 with
    | a0 z1019 =>
      rcases ite_eq h with ⟨h2, h⟩ | ⟨h2, h⟩
      · skip
        obtain ⟨z1020, h3, h⟩ := bnd_eq h
        obtain ⟨z1021, h4, h⟩ := bnd_eq h
        rcases ite_eq h with ⟨h5, h⟩ | ⟨h5, h⟩
        · skip
          obtain ⟨r6, h6, h⟩ := Option.bind_eq_some_iff.mp h
          have h6 := F24v1_ok (m + 2) (b789) (l790) (z791) (z792) r6 h6
          cases r6 with
          | a0 b1251 =>
            obtain ⟨r7, h7, h⟩ := Option.bind_eq_some_iff.mp h
            have h7 := F70v1_ok (m + 0) (b789) (l790) (z791) (z792) r7 h7
            cases r7 with
            | a0 b1479 =>
              obtain ⟨r8, h8, h⟩ := Option.bind_eq_some_iff.mp h
              have h8 := F32_ok (m + 6) ([[vb b1251, V.nilS]]) ([[vb b1479, V.nilS]]) r8 h8
              cases r8 with
              | a0 b1480 =>
                cases h
                exact call_pathL (gs := [.a, .an (i64 z905) [], .a, .an (i64 z1019) [], .t, .a, .t, .an (i64 z1020) [], .t, .a, .t, .an (i64 z1021) [], .t, .t, .t, .a, .t, .t, .t, .an (V.agg [vb b1251, V.nilS]) [], .t, .t, .a, .t, .t, .t, .an (V.agg [vb b1479, V.nilS]) [], .t, .t, .a, .a, .an (vb b1480) [], .t, .ft [⟨0, [0], []⟩, ⟨1, [], []⟩, ⟨2, [0], []⟩, ⟨3, [], []⟩, ⟨4, [], []⟩, ⟨5, [], []⟩, ⟨6, [0], []⟩, ⟨7, [], []⟩, ⟨8, [0], []⟩, ⟨9, [], []⟩, ⟨10, [], []⟩, ⟨11, [], []⟩, ⟨12, [], []⟩, ⟨13, [0], []⟩, ⟨14, [], []⟩, ⟨15, [], []⟩, ⟨16, [], []⟩, ⟨17, [2], [2]⟩, ⟨18, [0], []⟩, ⟨19, [], []⟩, ⟨20, [], []⟩, ⟨21, [], []⟩, ⟨22, [4], [4]⟩, ⟨23, [2, 4], []⟩, ⟨24, [], []⟩, ⟨25, [], []⟩]]) (notIn []) rfl rfl (by kernel_rfl) (And.intro h0 (And.intro h1 (And.intro h2 (And.intro h2 (And.intro (F26v1_ok (m + 7) (b789) (l790) z1020 h3) (And.intro h2 (And.intro h2 (And.intro (F58v1_ok (m + 7) (b789) (l790) z1021 h4) (And.intro h2 (And.intro h2 (And.intro h5 (And.intro h5 (And.intro h5 (And.intro h5 (And.intro h6 (And.intro h5 (And.intro h5 (And.intro h5 (And.intro h5 (And.intro h5 (And.intro h7 (And.intro h5 (And.intro h5 (And.intro h8 (And.intro h5 (And.intro (Eq.refl ([⟨0, [0], []⟩, ⟨1, [], []⟩, ⟨2, [0], []⟩, ⟨3, [], []⟩, ⟨4, [], []⟩, ⟨5, [], []⟩, ⟨6, [0], []⟩, ⟨7, [], []⟩, ⟨8, [0], []⟩, ⟨9, [], []⟩, ⟨10, [], []⟩, ⟨11, [], []⟩, ⟨12, [], []⟩, ⟨13, [0], []⟩, ⟨14, [], []⟩, ⟨15, [], []⟩, ⟨16, [], []⟩, ⟨17, [2], [2]⟩, ⟨18, [0], []⟩, ⟨19, [], []⟩, ⟨20, [], []⟩, ⟨21, [], []⟩, ⟨22, [4], [4]⟩, ⟨23, [2, 4], []⟩, ⟨24, [], []⟩, ⟨25, [], []⟩] : List Foot)) True.intro))))))))))))))))))))))))))
            | a1 b1482 k1483 l1484 =>
              rcases ite_eq h with ⟨h8, h⟩ | ⟨h8, h⟩
              · skip
                obtain ⟨r9, h9, h⟩ := Option.bind_eq_some_iff.mp h
                have h9 := F32_ok (m + 6) ([[vb b1251, V.nilS]]) ([[vb b1482, V.list 2 (List.take k1483 l1484)]]) r9 h9
                cases r9 with
                | a0 b1485 =>
                  cases h
                  exact call_pathL (gs := [.a, .an (i64 z905) [], .a, .an (i64 z1019) [], .t, .a, .t, .an (i64 z1020) [], .t, .a, .t, .an (i64 z1021) [], .t, .t, .t, .a, .t, .t, .t, .an (V.agg [vb b1251, V.nilS]) [], .t, .t, .a, .t, .t, .t, .an (V.agg [vb b1482, V.hs 0 0 k1483]) [Ob.cells true true 2 l1484], .t, .t, .t, .a, .a, .an (vb b1485) [], .t, .ft [⟨0, [0], []⟩, ⟨1, [], []⟩, ⟨2, [0], []⟩, ⟨3, [], []⟩, ⟨4, [], []⟩, ⟨5, [], []⟩, ⟨6, [0], []⟩, ⟨7, [], []⟩, ⟨8, [0], []⟩, ⟨9, [], []⟩, ⟨10, [], []⟩, ⟨11, [], []⟩, ⟨12, [], []⟩, ⟨13, [0], []⟩, ⟨14, [], []⟩, ⟨15, [], []⟩, ⟨16, [], []⟩, ⟨17, [2], [2]⟩, ⟨18, [0], []⟩, ⟨19, [], []⟩, ⟨20, [], []⟩, ⟨21, [3], [3]⟩, ⟨22, [3, 4], [3, 4]⟩, ⟨23, [2, 4], []⟩, ⟨24, [], []⟩, ⟨25, [], []⟩]]) (notIn []) rfl rfl (by kernel_rfl) (And.intro h0 (And.intro h1 (And.intro h2 (And.intro h2 (And.intro (F26v1_ok (m + 7) (b789) (l790) z1020 h3) (And.intro h2 (And.intro h2 (And.intro (F58v1_ok (m + 7) (b789) (l790) z1021 h4) (And.intro h2 (And.intro h2 (And.intro h5 (And.intro h5 (And.intro h5 (And.intro h5 (And.intro h6 (And.intro h5 (And.intro h5 (And.intro h5 (And.intro h5 (And.intro h5 (And.intro h7 (And.intro h5 (And.intro (decide_eq_true h8) (And.intro h5 (And.intro h9 (And.intro h5 (And.intro (Eq.refl ([⟨0, [0], []⟩, ⟨1, [], []⟩, ⟨2, [0], []⟩, ⟨3, [], []⟩, ⟨4, [], []⟩, ⟨5, [], []⟩, ⟨6, [0], []⟩, ⟨7, [], []⟩, ⟨8, [0], []⟩, ⟨9, [], []⟩, ⟨10, [], []⟩, ⟨11, [], []⟩, ⟨12, [], []⟩, ⟨13, [0], []⟩, ⟨14, [], []⟩, ⟨15, [], []⟩, ⟨16, [], []⟩, ⟨17, [2], [2]⟩, ⟨18, [0], []⟩, ⟨19, [], []⟩, ⟨20, [], []⟩, ⟨21, [3], [3]⟩, ⟨22, [3, 4], [3, 4]⟩, ⟨23, [2, 4], []⟩, ⟨24, [], []⟩, ⟨25, [], []⟩] : List Foot)) True.intro)))))))))))))))))))))))))))
              · skip
                cases h
          | a1 b1486 k1487 l1488 =>
            rcases ite_eq h with ⟨h7, h⟩ | ⟨h7, h⟩
            · skip
              obtain ⟨r8, h8, h⟩ := Option.bind_eq_some_iff.mp h
              have h8 := F70v1_ok (m + 0) (b789) (l790) (z791) (z792) r8 h8
              cases r8 with
              | a0 b1489 =>
                obtain ⟨r9, h9, h⟩ := Option.bind_eq_some_iff.mp h
                have h9 := F32_ok (m + 6) ([[vb b1486, V.list 2 (List.take k1487 l1488)]]) ([[vb b1489, V.nilS]]) r9 h9
                cases r9 with
                | a0 b1490 =>
                  cases h
                  exact call_pathL (gs := [.a, .an (i64 z905) [], .a, .an (i64 z1019) [], .t, .a, .t, .an (i64 z1020) [], .t, .a, .t, .an (i64 z1021) [], .t, .t, .t, .a, .t, .t, .t, .an (V.agg [vb b1486, V.hs 0 0 k1487]) [Ob.cells true true 2 l1488], .t, .t, .t, .a, .t, .t, .t, .an (V.agg [vb b1489, V.nilS]) [], .t, .t, .a, .a, .an (vb b1490) [], .t, .ft [⟨0, [0], []⟩, ⟨1, [], []⟩, ⟨2, [0], []⟩, ⟨3, [], []⟩, ⟨4, [], []⟩, ⟨5, [], []⟩, ⟨6, [0], []⟩, ⟨7, [], []⟩, ⟨8, [0], []⟩, ⟨9, [], []⟩, ⟨10, [], []⟩, ⟨11, [], []⟩, ⟨12, [], []⟩, ⟨13, [0], []⟩, ⟨14, [], []⟩, ⟨15, [], []⟩, ⟨16, [1], [1]⟩, ⟨17, [1, 2], [1, 2]⟩, ⟨18, [0], []⟩, ⟨19, [], []⟩, ⟨20, [], []⟩, ⟨21, [], []⟩, ⟨22, [4], [4]⟩, ⟨23, [2, 4], []⟩, ⟨24, [], []⟩, ⟨25, [], []⟩]]) (notIn []) rfl rfl (by kernel_rfl) (And.intro h0 (And.intro h1 (And.intro h2 (And.intro h2 (And.intro (F26v1_ok (m + 7) (b789) (l790) z1020 h3) (And.intro h2 (And.intro h2 (And.intro (F58v1_ok (m + 7) (b789) (l790) z1021 h4) (And.intro h2 (And.intro h2 (And.intro h5 (And.intro h5 (And.intro h5 (And.intro h5 (And.intro h6 (And.intro h5 (And.intro (decide_eq_true h7) (And.intro h5 (And.intro h5 (And.intro h5 (And.intro h5 (And.intro h8 (And.intro h5 (And.intro h5 (And.intro h9 (And.intro h5 (And.intro (Eq.refl ([⟨0, [0], []⟩, ⟨1, [], []⟩, ⟨2, [0], []⟩, ⟨3, [], []⟩, ⟨4, [], []⟩, ⟨5, [], []⟩, ⟨6, [0], []⟩, ⟨7, [], []⟩, ⟨8, [0], []⟩, ⟨9, [], []⟩, ⟨10, [], []⟩, ⟨11, [], []⟩, ⟨12, [], []⟩, ⟨13, [0], []⟩, ⟨14, [], []⟩, ⟨15, [], []⟩, ⟨16, [1], [1]⟩, ⟨17, [1, 2], [1, 2]⟩, ⟨18, [0], []⟩, ⟨19, [], []⟩, ⟨20, [], []⟩, ⟨21, [], []⟩, ⟨22, [4], [4]⟩, ⟨23, [2, 4], []⟩, ⟨24, [], []⟩, ⟨25, [], []⟩] : List Foot)) True.intro)))))))))))))))))))))))))))
              | a1 b1491 k1492 l1493 =>
                rcases ite_eq h with ⟨h9, h⟩ | ⟨h9, h⟩
                · skip
                  obtain ⟨r10, h10, h⟩ := Option.bind_eq_some_iff.mp h
                  have h10 := F32_ok (m + 6) ([[vb b1486, V.list 2 (List.take k1487 l1488)]]) ([[vb b1491, V.list 2 (List.take k1492 l1493)]]) r10 h10
                  cases r10 with
                  | a0 b1494 =>
                    cases h
                    exact call_pathL (gs := [.a, .an (i64 z905) [], .a, .an (i64 z1019) [], .t, .a, .t, .an (i64 z1020) [], .t, .a, .t, .an (i64 z1021) [], .t, .t, .t, .a, .t, .t, .t, .an (V.agg [vb b1486, V.hs 0 0 k1487]) [Ob.cells true true 2 l1488], .t, .t, .t, .a, .t, .t, .t, .an (V.agg [vb b1491, V.hs 0 0 k1492]) [Ob.cells true true 2 l1493], .t, .t, .t, .a, .a, .an (vb b1494) [], .t, .ft [⟨0, [0], []⟩, ⟨1, [], []⟩, ⟨2, [0], []⟩, ⟨3, [], []⟩, ⟨4, [], []⟩, ⟨5, [], []⟩, ⟨6, [0], []⟩, ⟨7, [], []⟩, ⟨8, [0], []⟩, ⟨9, [], []⟩, ⟨10, [], []⟩, ⟨11, [], []⟩, ⟨12, [], []⟩, ⟨13, [0], []⟩, ⟨14, [], []⟩, ⟨15, [], []⟩, ⟨16, [1], [1]⟩, ⟨17, [1, 2], [1, 2]⟩, ⟨18, [0], []⟩, ⟨19, [], []⟩, ⟨20, [], []⟩, ⟨21, [3], [3]⟩, ⟨22, [3, 4], [3, 4]⟩, ⟨23, [2, 4], []⟩, ⟨24, [], []⟩, ⟨25, [], []⟩]]) (notIn []) rfl rfl (by kernel_rfl) (And.intro h0 (And.intro h1 (And.intro h2 (And.intro h2 (And.intro (F26v1_ok (m + 7) (b789) (l790) z1020 h3) (And.intro h2 (And.intro h2 (And.intro (F58v1_ok (m + 7) (b789) (l790) z1021 h4) (And.intro h2 (And.intro h2 (And.intro h5 (And.intro h5 (And.intro h5 (And.intro h5 (And.intro h6 (And.intro h5 (And.intro (decide_eq_true h7) (And.intro h5 (And.intro h5 (And.intro h5 (And.intro h5 (And.intro h8 (And.intro h5 (And.intro (decide_eq_true h9) (And.intro h5 (And.intro h10 (And.intro h5 (And.intro (Eq.refl ([⟨0, [0], []⟩, ⟨1, [], []⟩, ⟨2, [0], []⟩, ⟨3, [], []⟩, ⟨4, [], []⟩, ⟨5, [], []⟩, ⟨6, [0], []⟩, ⟨7, [], []⟩, ⟨8, [0], []⟩, ⟨9, [], []⟩, ⟨10, [], []⟩, ⟨11, [], []⟩, ⟨12, [], []⟩, ⟨13, [0], []⟩, ⟨14, [], []⟩, ⟨15, [], []⟩, ⟨16, [1], [1]⟩, ⟨17, [1, 2], [1, 2]⟩, ⟨18, [0], []⟩, ⟨19, [], []⟩, ⟨20, [], []⟩, ⟨21, [3], [3]⟩, ⟨22, [3, 4], [3, 4]⟩, ⟨23, [2, 4], []⟩, ⟨24, [], []⟩, ⟨25, [], []⟩] : List Foot)) True.intro))))))))))))))))))))))))))))
                · skip
                  cases h
            · skip
              cases h
        · skip
          cases h
          exact call_pathL (gs := [.a, .an (i64 z905) [], .a, .an (i64 z1019) [], .t, .a, .t, .an (i64 z1020) [], .t, .a, .t, .an (i64 z1021) [], .t, .t, .f, .f, .f, .f, .f, .f, .f, .f, .f, .f, .f, .f, .ft [⟨0, [0], []⟩, ⟨1, [], []⟩, ⟨2, [0], []⟩, ⟨3, [], []⟩, ⟨4, [], []⟩, ⟨5, [], []⟩, ⟨6, [0], []⟩, ⟨7, [], []⟩, ⟨8, [0], []⟩, ⟨9, [], []⟩, ⟨10, [], []⟩, ⟨11, [], []⟩, ⟨12, [], []⟩, ⟨13, [], []⟩, ⟨14, [], []⟩, ⟨15, [], []⟩, ⟨16, [], []⟩, ⟨17, [], []⟩, ⟨18, [], []⟩, ⟨19, [], []⟩, ⟨20, [], []⟩, ⟨21, [], []⟩, ⟨22, [], []⟩, ⟨23, [], []⟩, ⟨24, [], []⟩, ⟨25, [], []⟩]]) (notIn []) rfl rfl (by kernel_rfl) (And.intro h0 (And.intro h1 (And.intro h2 (And.intro h2 (And.intro (F26v1_ok (m + 7) (b789) (l790) z1020 h3) (And.intro h2 (And.intro h2 (And.intro (F58v1_ok (m + 7) (b789) (l790) z1021 h4) (And.intro h2 (And.intro h2 (And.intro (Bool.eq_false_iff.mpr h5) (And.intro (Bool.eq_false_iff.mpr h5) (And.intro (Bool.eq_false_iff.mpr h5) (And.intro (Bool.eq_false_iff.mpr h5) (And.intro (Bool.eq_false_iff.mpr h5) (And.intro (Bool.eq_false_iff.mpr h5) (And.intro (Bool.eq_false_iff.mpr h5) (And.intro (Bool.eq_false_iff.mpr h5) (And.intro (Bool.eq_false_iff.mpr h5) (And.intro (Bool.eq_false_iff.mpr h5) (And.intro (Bool.eq_false_iff.mpr h5) (And.intro (Bool.eq_false_iff.mpr h5) (And.intro (Eq.refl ([⟨0, [0], []⟩, ⟨1, [], []⟩, ⟨2, [0], []⟩, ⟨3, [], []⟩, ⟨4, [], []⟩, ⟨5, [], []⟩, ⟨6, [0], []⟩, ⟨7, [], []⟩, ⟨8, [0], []⟩, ⟨9, [], []⟩, ⟨10, [], []⟩, ⟨11, [], []⟩, ⟨12, [], []⟩, ⟨13, [], []⟩, ⟨14, [], []⟩, ⟨15, [], []⟩, ⟨16, [], []⟩, ⟨17, [], []⟩, ⟨18, [], []⟩, ⟨19, [], []⟩, ⟨20, [], []⟩, ⟨21, [], []⟩, ⟨22, [], []⟩, ⟨23, [], []⟩, ⟨24, [], []⟩, ⟨25, [], []⟩] : List Foot)) True.intro)))))))))))))))))))))))
      · skip
        cases h
        exact call_pathL (gs := [.a, .an (i64 z905) [], .a, .an (i64 z1019) [], .f, .f, .f, .f, .f, .f, .a, .a, .a, .a, .a, .a, .a, .a, .a, .a, .a, .a, .ft [⟨0, [0], []⟩, ⟨1, [], []⟩, ⟨2, [0], []⟩, ⟨3, [], []⟩, ⟨4, [], []⟩, ⟨5, [], []⟩, ⟨6, [], []⟩, ⟨7, [], []⟩, ⟨8, [], []⟩, ⟨9, [], []⟩, ⟨10, [], []⟩, ⟨11, [], []⟩, ⟨12, [], []⟩, ⟨13, [], []⟩, ⟨14, [], []⟩, ⟨15, [], []⟩, ⟨16, [], []⟩, ⟨17, [], []⟩, ⟨18, [], []⟩, ⟨19, [], []⟩, ⟨20, [], []⟩, ⟨21, [], []⟩, ⟨22, [], []⟩, ⟨23, [], []⟩, ⟨24, [], []⟩, ⟨25, [], []⟩]]) (notIn []) rfl rfl (by kernel_rfl) (And.intro h0 (And.intro h1 (And.intro (Bool.eq_false_iff.mpr h2) (And.intro (Bool.eq_false_iff.mpr h2) (And.intro (Bool.eq_false_iff.mpr h2) (And.intro (Bool.eq_false_iff.mpr h2) (And.intro (Bool.eq_false_iff.mpr h2) (And.intro (Bool.eq_false_iff.mpr h2) (And.intro (Eq.refl ([⟨0, [0], []⟩, ⟨1, [], []⟩, ⟨2, [0], []⟩, ⟨3, [], []⟩, ⟨4, [], []⟩, ⟨5, [], []⟩, ⟨6, [], []⟩, ⟨7, [], []⟩, ⟨8, [], []⟩, ⟨9, [], []⟩, ⟨10, [], []⟩, ⟨11, [], []⟩, ⟨12, [], []⟩, ⟨13, [], []⟩, ⟨14, [], []⟩, ⟨15, [], []⟩, ⟨16, [], []⟩, ⟨17, [], []⟩, ⟨18, [], []⟩, ⟨19, [], []⟩, ⟨20, [], []⟩, ⟨21, [], []⟩, ⟨22, [], []⟩, ⟨23, [], []⟩, ⟨24, [], []⟩, ⟨25, [], []⟩] : List Foot)) True.intro)))))))))
/-! ## 25 -/
inductive A25 where
  | a0 (b1509 : Bool)
@[reducible] def A25.out : A25 → V × Store
  | .a0 b1509 => (vb b1509, [])
def F25 : Option A25 :=
  (F24v1 (false) ([[i64 0, i64 0], [i64 16, i64 0]]) (2) (5)).bind fun r => match r with
  | .a0 b1506 =>
   (F23v1 (false) ([[i64 0, i64 0], [i64 16, i64 0]])).bind fun r => match r with
   | .a0 z1507 =>
    if (z1507 == 16) = true then
     bnd (F26v1 (false) ([[i64 0, i64 0], [i64 16, i64 0]])) fun z1508 =>
     if (z1508 == 1) = true then
      some (A25.a0 (false))
     else
      some (A25.a0 (false))
    else
     some (A25.a0 (false))
  | .a1 b1510 k1511 l1512 =>
   (F23v1 (false) ([[i64 0, i64 0], [i64 16, i64 0]])).bind fun r => match r with
   | .a0 z1513 =>
    if (z1513 == 16) = true then
     bnd (F26v1 (false) ([[i64 0, i64 0], [i64 16, i64 0]])) fun z1514 =>
     if (z1514 == 1) = true then
      if ((↑k1511 : Int) == 2) = true then
       if (0 : Int) ≤ (0 : Int) ∧ (0 : Int) < (↑k1511 : Int) then
        ((l1512[(0 : Nat)]?).bind W34.dec).bind fun e1515 =>
        if (e1515.c0 == 2) = true then
         if (0 : Int) ≤ (1 : Int) ∧ (1 : Int) < (↑k1511 : Int) then
          ((l1512[(1 : Nat)]?).bind W34.dec).bind fun e1516 =>
          if (e1516.c0 == 5) = true then
           (F24v1 (false) ([[i64 0, i64 0], [i64 16, i64 0]]) (5) (5)).bind fun r => match r with
           | .a0 b1517 =>
            (F39 (0) (0) (8) (0) (9) (4)).bind fun r => match r with
            | .a0 z1518 z1519 =>
             some (A25.a0 (z1518 == 8 && (z1519 == 0 && true)))
           | .a1 b1520 k1521 l1522 =>
            if ((↑k1521 : Int) == 0) = true then
             (F39 (0) (0) (8) (0) (9) (4)).bind fun r => match r with
             | .a0 z1523 z1524 =>
              some (A25.a0 (z1523 == 8 && (z1524 == 0 && true)))
            else
             some (A25.a0 (false))
          else
           some (A25.a0 (false))
         else
          none -- none
        else
         some (A25.a0 (false))
       else
        none -- none
      else
       some (A25.a0 (false))
     else
      some (A25.a0 (false))
    else
     some (A25.a0 (false))
theorem F25_ok (m : Nat) (r : A25) (h : F25 = some r) : call Try.prog X O0 100000 (m + 7) 25 ([]) ([]) = some r.out := by
  unfold F25 at h
  obtain ⟨r0, h0, h⟩ := Option.bind_eq_some_iff.mp h
  have h0 := F24v1_ok (m + 0) (false) ([[i64 0, i64 0], [i64 16, i64 0]]) (2) (5) r0 h0
  cases r0 with
  | a0 b1506 =>
    obtain ⟨r1, h1, h⟩ := Option.bind_eq_some_iff.mp h
    have h1 := F23v1_ok (m + 1) (false) ([[i64 0, i64 0], [i64 16, i64 0]]) r1 h1
    cases r1 with
    | a0 z1507 =>
      rcases ite_eq h with ⟨h2, h⟩ | ⟨h2, h⟩
      · skip
        obtain ⟨z1508, h3, h⟩ := bnd_eq h
        rcases ite_eq h with ⟨h4, h⟩ | ⟨h4, h⟩
        · skip
          cases h
          exact call_pathL (gs := [.a, .a, .a, .an (V.agg [vb b1506, V.nilS]) [], .a, .a, .a, .an (i64 z1507) [], .t, .a, .t, .a, .an (i64 z1508) [], .t, .t, .t, .t, .a, .t, .t, .t, .a, .a, .a, .a, .a, .a, .a, .a, .a, .a, .a, .a, .a, .a, .a, .a, .a, .a, .a, .a, .a, .a, .a, .a, .a, .a]) (notIn []) rfl rfl (by kernel_rfl) (And.intro h0 (And.intro h1 (And.intro h2 (And.intro h2 (And.intro (F26v1_ok (m + 5) (false) ([[i64 0, i64 0], [i64 16, i64 0]]) z1508 h3) (And.intro h2 (And.intro h2 (And.intro h4 (And.intro h4 (And.intro h4 (And.intro h4 (And.intro h4 True.intro))))))))))))
        · skip
          cases h
          exact call_pathL (gs := [.a, .a, .a, .an (V.agg [vb b1506, V.nilS]) [], .a, .a, .a, .an (i64 z1507) [], .t, .a, .t, .a, .an (i64 z1508) [], .t, .t, .f, .f, .f, .f, .f, .a, .a, .a, .a, .a, .a, .a, .a, .a, .a, .a, .a, .a, .a, .a, .a, .a, .a, .a, .a, .a, .a, .a, .a, .a, .a]) (notIn []) rfl rfl (by kernel_rfl) (And.intro h0 (And.intro h1 (And.intro h2 (And.intro h2 (And.intro (F26v1_ok (m + 5) (false) ([[i64 0, i64 0], [i64 16, i64 0]]) z1508 h3) (And.intro h2 (And.intro h2 (And.intro (Bool.eq_false_iff.mpr h4) (And.intro (Bool.eq_false_iff.mpr h4) (And.intro (Bool.eq_false_iff.mpr h4) (And.intro (Bool.eq_false_iff.mpr h4) (And.intro (Bool.eq_false_iff.mpr h4) True.intro))))))))))))
      · skip
        cases h
        exact call_pathL (gs := [.a, .a, .a, .an (V.agg [vb b1506, V.nilS]) [], .a, .a, .a, .an (i64 z1507) [], .f, .f, .f, .f, .a, .a, .a, .a, .a, .a, .a, .a, .a, .a, .a, .a, .a, .a, .a, .a, .a, .a, .a, .a, .a, .a, .a, .a, .a, .a, .a, .a, .a, .a, .a]) (notIn []) rfl rfl (by kernel_rfl) (And.intro h0 (And.intro h1 (And.intro (Bool.eq_false_iff.mpr h2) (And.intro (Bool.eq_false_iff.mpr h2) (And.intro (Bool.eq_false_iff.mpr h2) (And.intro (Bool.eq_false_iff.mpr h2) True.intro))))))
  | a1 b1510 k1511 l1512 =>
    obtain ⟨r1, h1, h⟩ := Option.bind_eq_some_iff.mp h
    have h1 := F23v1_ok (m + 1) (false) ([[i64 0, i64 0], [i64 16, i64 0]]) r1 h1
    cases r1 with
    | a0 z1513 =>
      rcases ite_eq h with ⟨h2, h⟩ | ⟨h2, h⟩
      · skip
        obtain ⟨z1514, h3, h⟩ := bnd_eq h
        rcases ite_eq h with ⟨h4, h⟩ | ⟨h4, h⟩
        · skip
          rcases ite_eq h with ⟨h5, h⟩ | ⟨h5, h⟩
          · skip
            rcases ite_eq h with ⟨h6, h⟩ | ⟨h6, h⟩
            · skip
              obtain ⟨e1515, h7, h⟩ := Option.bind_eq_some_iff.mp h
              rcases ite_eq h with ⟨h8, h⟩ | ⟨h8, h⟩
              · skip
                rcases ite_eq h with ⟨h9, h⟩ | ⟨h9, h⟩
                · skip
                  obtain ⟨e1516, h10, h⟩ := Option.bind_eq_some_iff.mp h
                  rcases ite_eq h with ⟨h11, h⟩ | ⟨h11, h⟩
                  · skip
                    obtain ⟨r12, h12, h⟩ := Option.bind_eq_some_iff.mp h
                    have h12 := F24v1_ok (m + 0) (false) ([[i64 0, i64 0], [i64 16, i64 0]]) (5) (5) r12 h12
                    cases r12 with
                    | a0 b1517 =>
                      obtain ⟨r13, h13, h⟩ := Option.bind_eq_some_iff.mp h
                      have h13 := F39_ok (m + 1) (0) (0) (8) (0) (9) (4) r13 h13
                      cases r13 with
                      | a0 z1518 z1519 =>
                        cases h
                        exact call_pathL (gs := [.a, .a, .a, .an (V.agg [vb b1510, V.hs 0 0 k1511]) [Ob.cells true true 2 l1512], .a, .a, .a, .an (i64 z1513) [], .t, .a, .t, .a, .an (i64 z1514) [], .t, .t, .t, .t, .a, .t, .t, .t, .t, .t, .a, .t, .t, .t, .t, .el (W34.cells e1515), .t, .t, .t, .t, .a, .t, .t, .t, .t, .el (W34.cells e1516), .t, .t, .t, .a, .t, .a, .an (V.agg [vb b1517, V.nilS]) [], .t, .t, .t, .t, .a, .a, .a, .an (V.agg [i64 z1518, i64 z1519]) [], .a, .a, .a]) (notIn []) rfl rfl (by kernel_rfl) (And.intro h0 (And.intro h1 (And.intro h2 (And.intro h2 (And.intro (F26v1_ok (m + 5) (false) ([[i64 0, i64 0], [i64 16, i64 0]]) z1514 h3) (And.intro h2 (And.intro h2 (And.intro h4 (And.intro h4 (And.intro h4 (And.intro h4 (And.intro h4 (And.intro h5 (And.intro h5 (And.intro h5 (And.intro (decide_eq_true h6) (And.intro h5 (And.intro h5 (And.intro (W34.dec_ok h7) (And.intro h5 (And.intro h5 (And.intro h8 (And.intro h8 (And.intro h8 (And.intro (decide_eq_true h9) (And.intro h8 (And.intro h8 (And.intro (W34.dec_ok h10) (And.intro h8 (And.intro h8 (And.intro h11 (And.intro h11 (And.intro h12 (And.intro h11 (And.intro h11 (And.intro h11 (And.intro h11 (And.intro h13 True.intro))))))))))))))))))))))))))))))))))))))
                    | a1 b1520 k1521 l1522 =>
                      rcases ite_eq h with ⟨h13, h⟩ | ⟨h13, h⟩
                      · skip
                        obtain ⟨r14, h14, h⟩ := Option.bind_eq_some_iff.mp h
                        have h14 := F39_ok (m + 1) (0) (0) (8) (0) (9) (4) r14 h14
                        cases r14 with
                        | a0 z1523 z1524 =>
                          cases h
                          exact call_pathL (gs := [.a, .a, .a, .an (V.agg [vb b1510, V.hs 0 0 k1511]) [Ob.cells true true 2 l1512], .a, .a, .a, .an (i64 z1513) [], .t, .a, .t, .a, .an (i64 z1514) [], .t, .t, .t, .t, .a, .t, .t, .t, .t, .t, .a, .t, .t, .t, .t, .el (W34.cells e1515), .t, .t, .t, .t, .a, .t, .t, .t, .t, .el (W34.cells e1516), .t, .t, .t, .a, .t, .a, .an (V.agg [vb b1520, V.hs 0 0 k1521]) [Ob.cells true true 2 l1522], .t, .t, .t, .t, .t, .t, .t, .an (V.agg [i64 z1523, i64 z1524]) [], .t, .t, .t]) (notIn []) rfl rfl (by kernel_rfl) (And.intro h0 (And.intro h1 (And.intro h2 (And.intro h2 (And.intro (F26v1_ok (m + 5) (false) ([[i64 0, i64 0], [i64 16, i64 0]]) z1514 h3) (And.intro h2 (And.intro h2 (And.intro h4 (And.intro h4 (And.intro h4 (And.intro h4 (And.intro h4 (And.intro h5 (And.intro h5 (And.intro h5 (And.intro (decide_eq_true h6) (And.intro h5 (And.intro h5 (And.intro (W34.dec_ok h7) (And.intro h5 (And.intro h5 (And.intro h8 (And.intro h8 (And.intro h8 (And.intro (decide_eq_true h9) (And.intro h8 (And.intro h8 (And.intro (W34.dec_ok h10) (And.intro h8 (And.intro h8 (And.intro h11 (And.intro h11 (And.intro h12 (And.intro h11 (And.intro h11 (And.intro h11 (And.intro h11 (And.intro h13 (And.intro h13 (And.intro h13 (And.intro h14 (And.intro h13 (And.intro h13 (And.intro h13 True.intro))))))))))))))))))))))))))))))))))))))))))))
                      · skip
                        cases h
                        exact call_pathL (gs := [.a, .a, .a, .an (V.agg [vb b1510, V.hs 0 0 k1511]) [Ob.cells true true 2 l1512], .a, .a, .a, .an (i64 z1513) [], .t, .a, .t, .a, .an (i64 z1514) [], .t, .t, .t, .t, .a, .t, .t, .t, .t, .t, .a, .t, .t, .t, .t, .el (W34.cells e1515), .t, .t, .t, .t, .a, .t, .t, .t, .t, .el (W34.cells e1516), .t, .t, .t, .a, .t, .a, .an (V.agg [vb b1520, V.hs 0 0 k1521]) [Ob.cells true true 2 l1522], .t, .t, .t, .t, .f, .f, .f, .f, .f, .f]) (notIn []) rfl rfl (by kernel_rfl) (And.intro h0 (And.intro h1 (And.intro h2 (And.intro h2 (And.intro (F26v1_ok (m + 5) (false) ([[i64 0, i64 0], [i64 16, i64 0]]) z1514 h3) (And.intro h2 (And.intro h2 (And.intro h4 (And.intro h4 (And.intro h4 (And.intro h4 (And.intro h4 (And.intro h5 (And.intro h5 (And.intro h5 (And.intro (decide_eq_true h6) (And.intro h5 (And.intro h5 (And.intro (W34.dec_ok h7) (And.intro h5 (And.intro h5 (And.intro h8 (And.intro h8 (And.intro h8 (And.intro (decide_eq_true h9) (And.intro h8 (And.intro h8 (And.intro (W34.dec_ok h10) (And.intro h8 (And.intro h8 (And.intro h11 (And.intro h11 (And.intro h12 (And.intro h11 (And.intro h11 (And.intro h11 (And.intro h11 (And.intro (Bool.eq_false_iff.mpr h13) (And.intro (Bool.eq_false_iff.mpr h13) (And.intro (Bool.eq_false_iff.mpr h13) (And.intro (Bool.eq_false_iff.mpr h13) (And.intro (Bool.eq_false_iff.mpr h13) (And.intro (Bool.eq_false_iff.mpr h13) True.intro)))))))))))))))))))))))))))))))))))))))))))
                  · skip
                    cases h
                    exact call_pathL (gs := [.a, .a, .a, .an (V.agg [vb b1510, V.hs 0 0 k1511]) [Ob.cells true true 2 l1512], .a, .a, .a, .an (i64 z1513) [], .t, .a, .t, .a, .an (i64 z1514) [], .t, .t, .t, .t, .a, .t, .t, .t, .t, .t, .a, .t, .t, .t, .t, .el (W34.cells e1515), .t, .t, .t, .t, .a, .t, .t, .t, .t, .el (W34.cells e1516), .t, .t, .f, .f, .f, .f, .f, .f, .a, .a, .a, .a, .a, .a]) (notIn []) rfl rfl (by kernel_rfl) (And.intro h0 (And.intro h1 (And.intro h2 (And.intro h2 (And.intro (F26v1_ok (m + 5) (false) ([[i64 0, i64 0], [i64 16, i64 0]]) z1514 h3) (And.intro h2 (And.intro h2 (And.intro h4 (And.intro h4 (And.intro h4 (And.intro h4 (And.intro h4 (And.intro h5 (And.intro h5 (And.intro h5 (And.intro (decide_eq_true h6) (And.intro h5 (And.intro h5 (And.intro (W34.dec_ok h7) (And.intro h5 (And.intro h5 (And.intro h8 (And.intro h8 (And.intro h8 (And.intro (decide_eq_true h9) (And.intro h8 (And.intro h8 (And.intro (W34.dec_ok h10) (And.intro h8 (And.intro h8 (And.intro (Bool.eq_false_iff.mpr h11) (And.intro (Bool.eq_false_iff.mpr h11) (And.intro (Bool.eq_false_iff.mpr h11) (And.intro (Bool.eq_false_iff.mpr h11) (And.intro (Bool.eq_false_iff.mpr h11) (And.intro (Bool.eq_false_iff.mpr h11) True.intro))))))))))))))))))))))))))))))))))))
                · skip
                  cases h
              · skip
                cases h
                exact call_pathL (gs := [.a, .a, .a, .an (V.agg [vb b1510, V.hs 0 0 k1511]) [Ob.cells true true 2 l1512], .a, .a, .a, .an (i64 z1513) [], .t, .a, .t, .a, .an (i64 z1514) [], .t, .t, .t, .t, .a, .t, .t, .t, .t, .t, .a, .t, .t, .t, .t, .el (W34.cells e1515), .t, .t, .f, .f, .f, .f, .f, .f, .f, .a, .a, .a, .a, .a, .a, .a, .a, .a, .a, .a, .a]) (notIn []) rfl rfl (by kernel_rfl) (And.intro h0 (And.intro h1 (And.intro h2 (And.intro h2 (And.intro (F26v1_ok (m + 5) (false) ([[i64 0, i64 0], [i64 16, i64 0]]) z1514 h3) (And.intro h2 (And.intro h2 (And.intro h4 (And.intro h4 (And.intro h4 (And.intro h4 (And.intro h4 (And.intro h5 (And.intro h5 (And.intro h5 (And.intro (decide_eq_true h6) (And.intro h5 (And.intro h5 (And.intro (W34.dec_ok h7) (And.intro h5 (And.intro h5 (And.intro (Bool.eq_false_iff.mpr h8) (And.intro (Bool.eq_false_iff.mpr h8) (And.intro (Bool.eq_false_iff.mpr h8) (And.intro (Bool.eq_false_iff.mpr h8) (And.intro (Bool.eq_false_iff.mpr h8) (And.intro (Bool.eq_false_iff.mpr h8) (And.intro (Bool.eq_false_iff.mpr h8) True.intro))))))))))))))))))))))))))))
            · skip
              cases h
          · skip
            cases h
            exact call_pathL (gs := [.a, .a, .a, .an (V.agg [vb b1510, V.hs 0 0 k1511]) [Ob.cells true true 2 l1512], .a, .a, .a, .an (i64 z1513) [], .t, .a, .t, .a, .an (i64 z1514) [], .t, .t, .t, .t, .a, .t, .t, .t, .f, .f, .f, .f, .f, .f, .f, .a, .a, .a, .a, .a, .a, .a, .a, .a, .a, .a, .a, .a, .a, .a, .a, .a, .a, .a]) (notIn []) rfl rfl (by kernel_rfl) (And.intro h0 (And.intro h1 (And.intro h2 (And.intro h2 (And.intro (F26v1_ok (m + 5) (false) ([[i64 0, i64 0], [i64 16, i64 0]]) z1514 h3) (And.intro h2 (And.intro h2 (And.intro h4 (And.intro h4 (And.intro h4 (And.intro h4 (And.intro h4 (And.intro (Bool.eq_false_iff.mpr h5) (And.intro (Bool.eq_false_iff.mpr h5) (And.intro (Bool.eq_false_iff.mpr h5) (And.intro (Bool.eq_false_iff.mpr h5) (And.intro (Bool.eq_false_iff.mpr h5) (And.intro (Bool.eq_false_iff.mpr h5) (And.intro (Bool.eq_false_iff.mpr h5) True.intro)))))))))))))))))))
        · skip
          cases h
          exact call_pathL (gs := [.a, .a, .a, .an (V.agg [vb b1510, V.hs 0 0 k1511]) [Ob.cells true true 2 l1512], .a, .a, .a, .an (i64 z1513) [], .t, .a, .t, .a, .an (i64 z1514) [], .t, .t, .f, .f, .f, .f, .f, .a, .a, .a, .a, .a, .a, .a, .a, .a, .a, .a, .a, .a, .a, .a, .a, .a, .a, .a, .a, .a, .a, .a, .a, .a, .a]) (notIn []) rfl rfl (by kernel_rfl) (And.intro h0 (And.intro h1 (And.intro h2 (And.intro h2 (And.intro (F26v1_ok (m + 5) (false) ([[i64 0, i64 0], [i64 16, i64 0]]) z1514 h3) (And.intro h2 (And.intro h2 (And.intro (Bool.eq_false_iff.mpr h4) (And.intro (Bool.eq_false_iff.mpr h4) (And.intro (Bool.eq_false_iff.mpr h4) (And.intro (Bool.eq_false_iff.mpr h4) (And.intro (Bool.eq_false_iff.mpr h4) True.intro))))))))))))
      · skip
        cases h
        exact call_pathL (gs := [.a, .a, .a, .an (V.agg [vb b1510, V.hs 0 0 k1511]) [Ob.cells true true 2 l1512], .a, .a, .a, .an (i64 z1513) [], .f, .f, .f, .f, .a, .a, .a, .a, .a, .a, .a, .a, .a, .a, .a, .a, .a, .a, .a, .a, .a, .a, .a, .a, .a, .a, .a, .a, .a, .a, .a, .a, .a, .a, .a]) (notIn []) rfl rfl (by kernel_rfl) (And.intro h0 (And.intro h1 (And.intro (Bool.eq_false_iff.mpr h2) (And.intro (Bool.eq_false_iff.mpr h2) (And.intro (Bool.eq_false_iff.mpr h2) (And.intro (Bool.eq_false_iff.mpr h2) True.intro))))))
/-! ## 10 -/
inductive A10 where
  | a0 (b1526 : Bool)
@[reducible] def A10.out : A10 → V × Store
  | .a0 b1526 => (vb b1526, [])
def F10 (l0 : List (List V)) (z1 : Int) (z2 : Int) (b3 : Bool) (l4 : List (List V)) (z5 : Int) (z6 : Int) (z7 : Int) (z8 : Int) (z9 : Int) (z10 : Int) : Option A10 :=
  (F22 (l0) (0)).bind fun r => match r with
  | .a0 b173 l174 z175 =>
   if (↑(List.length l4) : Int) > 12 then
    if (0 : Int) ≤ (0 : Int) ∧ (0 : Int) ≤ (12 : Int) ∧ (12 : Int) ≤ (↑(List.length l4) : Int) then
     (F38 (b173) (z1) (z2)).bind fun r => match r with
     | .a0 b787 =>
      if (b787) = true then
       (F38 (b173) (w64 (↑(BitVec.toNat (BitVec.ofInt (IntKind.bits IntKind.i64) z1 &&& BitVec.ofInt (IntKind.bits IntKind.i64) 4194303)) : Int)) (w64 (↑(BitVec.toNat (BitVec.ofInt (IntKind.bits IntKind.i64) z2 &&& BitVec.ofInt (IntKind.bits IntKind.i64) 8388607)) : Int))).bind fun r => match r with
       | .a0 b788 =>
        if (b788) = true then
         (F38v1 (b3) (List.take 12 l4) (z1) (z2)).bind fun r => match r with
         | .a0 b1495 =>
          if (b1495) = true then
           (F38v1 (b3) (List.take 12 l4) (0) (z2)).bind fun r => match r with
           | .a0 b1496 =>
            if (b1496) = true then
             (F39 (z5) (z6) (z7) (z8) (z9) (z10)).bind fun r => match r with
             | .a0 z1497 z1498 =>
              (F40 (z5) (z6) (z7) (z8) (z9) (z10)).bind fun r => match r with
              | .a0 z1499 z1500 =>
               if (z1497 == z1499 && (z1498 == z1500 && true)) = true then
                (F39 (z5) (z6) (z7) (z8) (w64 (↑(BitVec.toNat (BitVec.ofInt (IntKind.bits IntKind.i64) z9 &&& BitVec.ofInt (IntKind.bits IntKind.i64) 65535)) : Int)) (w64 (↑(BitVec.toNat (BitVec.ofInt (IntKind.bits IntKind.i64) z10 &&& BitVec.ofInt (IntKind.bits IntKind.i64) 65535)) : Int))).bind fun r => match r with
                | .a0 z1501 z1502 =>
                 (F40 (z5) (z6) (z7) (z8) (w64 (↑(BitVec.toNat (BitVec.ofInt (IntKind.bits IntKind.i64) z9 &&& BitVec.ofInt (IntKind.bits IntKind.i64) 65535)) : Int)) (w64 (↑(BitVec.toNat (BitVec.ofInt (IntKind.bits IntKind.i64) z10 &&& BitVec.ofInt (IntKind.bits IntKind.i64) 65535)) : Int))).bind fun r => match r with
                 | .a0 z1503 z1504 =>
                  if (z1501 == z1503 && (z1502 == z1504 && true)) = true then
                   (F25).bind fun r => match r with
                   | .a0 b1525 =>
                    some (A10.a0 (b1525))
                  else
                   none -- false
               else
                none -- false
            else
             none -- false
          else
           none -- false
        else
         none -- false
      else
       none -- false
    else
     none -- none
   else
    (F38 (b173) (z1) (z2)).bind fun r => match r with
    | .a0 b1527 =>
     if (b1527) = true then
      (F38 (b173) (w64 (↑(BitVec.toNat (BitVec.ofInt (IntKind.bits IntKind.i64) z1 &&& BitVec.ofInt (IntKind.bits IntKind.i64) 4194303)) : Int)) (w64 (↑(BitVec.toNat (BitVec.ofInt (IntKind.bits IntKind.i64) z2 &&& BitVec.ofInt (IntKind.bits IntKind.i64) 8388607)) : Int))).bind fun r => match r with
      | .a0 b1528 =>
       if (b1528) = true then
        (F38v1 (b3) (l4) (z1) (z2)).bind fun r => match r with
        | .a0 b1529 =>
         if (b1529) = true then
          (F38v1 (b3) (l4) (0) (z2)).bind fun r => match r with
          | .a0 b1530 =>
           if (b1530) = true then
            (F39 (z5) (z6) (z7) (z8) (z9) (z10)).bind fun r => match r with
            | .a0 z1531 z1532 =>
             (F40 (z5) (z6) (z7) (z8) (z9) (z10)).bind fun r => match r with
             | .a0 z1533 z1534 =>
              if (z1531 == z1533 && (z1532 == z1534 && true)) = true then
               (F39 (z5) (z6) (z7) (z8) (w64 (↑(BitVec.toNat (BitVec.ofInt (IntKind.bits IntKind.i64) z9 &&& BitVec.ofInt (IntKind.bits IntKind.i64) 65535)) : Int)) (w64 (↑(BitVec.toNat (BitVec.ofInt (IntKind.bits IntKind.i64) z10 &&& BitVec.ofInt (IntKind.bits IntKind.i64) 65535)) : Int))).bind fun r => match r with
               | .a0 z1535 z1536 =>
                (F40 (z5) (z6) (z7) (z8) (w64 (↑(BitVec.toNat (BitVec.ofInt (IntKind.bits IntKind.i64) z9 &&& BitVec.ofInt (IntKind.bits IntKind.i64) 65535)) : Int)) (w64 (↑(BitVec.toNat (BitVec.ofInt (IntKind.bits IntKind.i64) z10 &&& BitVec.ofInt (IntKind.bits IntKind.i64) 65535)) : Int))).bind fun r => match r with
                | .a0 z1537 z1538 =>
                 if (z1535 == z1537 && (z1536 == z1538 && true)) = true then
                  (F25).bind fun r => match r with
                  | .a0 b1539 =>
                   some (A10.a0 (b1539))
                 else
                  none -- false
              else
               none -- false
           else
            none -- false
         else
          none -- false
       else
        none -- false
     else
      none -- false
  | .a1 b1540 k1541 l1542 z1543 l1544 =>
   if (↑(List.length l4) : Int) > 12 then
    if (0 : Int) ≤ (0 : Int) ∧ (0 : Int) ≤ (12 : Int) ∧ (12 : Int) ≤ (↑(List.length l4) : Int) then
     if 0 + k1541 ≤ List.length l1544 then
      (F38v1 (b1540) (List.take k1541 l1544) (z1) (z2)).bind fun r => match r with
      | .a0 b1545 =>
       if (b1545) = true then
        (F38v1 (b1540) (List.take k1541 l1544) (w64 (↑(BitVec.toNat (BitVec.ofInt (IntKind.bits IntKind.i64) z1 &&& BitVec.ofInt (IntKind.bits IntKind.i64) 4194303)) : Int)) (w64 (↑(BitVec.toNat (BitVec.ofInt (IntKind.bits IntKind.i64) z2 &&& BitVec.ofInt (IntKind.bits IntKind.i64) 8388607)) : Int))).bind fun r => match r with
        | .a0 b1546 =>
         if (b1546) = true then
          (F38v1 (b3) (List.take 12 l4) (z1) (z2)).bind fun r => match r with
          | .a0 b1547 =>
           if (b1547) = true then
            (F38v1 (b3) (List.take 12 l4) (0) (z2)).bind fun r => match r with
            | .a0 b1548 =>
             if (b1548) = true then
              (F39 (z5) (z6) (z7) (z8) (z9) (z10)).bind fun r => match r with
              | .a0 z1549 z1550 =>
               (F40 (z5) (z6) (z7) (z8) (z9) (z10)).bind fun r => match r with
               | .a0 z1551 z1552 =>
                if (z1549 == z1551 && (z1550 == z1552 && true)) = true then
                 (F39 (z5) (z6) (z7) (z8) (w64 (↑(BitVec.toNat (BitVec.ofInt (IntKind.bits IntKind.i64) z9 &&& BitVec.ofInt (IntKind.bits IntKind.i64) 65535)) : Int)) (w64 (↑(BitVec.toNat (BitVec.ofInt (IntKind.bits IntKind.i64) z10 &&& BitVec.ofInt (IntKind.bits IntKind.i64) 65535)) : Int))).bind fun r => match r with
                 | .a0 z1553 z1554 =>
                  (F40 (z5) (z6) (z7) (z8) (w64 (↑(BitVec.toNat (BitVec.ofInt (IntKind.bits IntKind.i64) z9 &&& BitVec.ofInt (IntKind.bits IntKind.i64) 65535)) : Int)) (w64 (↑(BitVec.toNat (BitVec.ofInt (IntKind.bits IntKind.i64) z10 &&& BitVec.ofInt (IntKind.bits IntKind.i64) 65535)) : Int))).bind fun r => match r with
                  | .a0 z1555 z1556 =>
                   if (z1553 == z1555 && (z1554 == z1556 && true)) = true then
                    (F25).bind fun r => match r with
                    | .a0 b1557 =>
                     some (A10.a0 (b1557))
                   else
                    none -- false
                else
                 none -- false
             else
              none -- false
           else
            none -- false
         else
          none -- false
       else
        none -- false
     else
      none -- none
    else
     none -- none
   else
    if 0 + k1541 ≤ List.length l1544 then
     (F38v1 (b1540) (List.take k1541 l1544) (z1) (z2)).bind fun r => match r with
     | .a0 b1558 =>
      if (b1558) = true then
       (F38v1 (b1540) (List.take k1541 l1544) (w64 (↑(BitVec.toNat (BitVec.ofInt (IntKind.bits IntKind.i64) z1 &&& BitVec.ofInt (IntKind.bits IntKind.i64) 4194303)) : Int)) (w64 (↑(BitVec.toNat (BitVec.ofInt (IntKind.bits IntKind.i64) z2 &&& BitVec.ofInt (IntKind.bits IntKind.i64) 8388607)) : Int))).bind fun r => match r with
       | .a0 b1559 =>
        if (b1559) = true then
         (F38v1 (b3) (l4) (z1) (z2)).bind fun r => match r with
         | .a0 b1560 =>
          if (b1560) = true then
           (F38v1 (b3) (l4) (0) (z2)).bind fun r => match r with
           | .a0 b1561 =>
            if (b1561) = true then
             (F39 (z5) (z6) (z7) (z8) (z9) (z10)).bind fun r => match r with
             | .a0 z1562 z1563 =>
              (F40 (z5) (z6) (z7) (z8) (z9) (z10)).bind fun r => match r with
              | .a0 z1564 z1565 =>
               if (z1562 == z1564 && (z1563 == z1565 && true)) = true then
                (F39 (z5) (z6) (z7) (z8) (w64 (↑(BitVec.toNat (BitVec.ofInt (IntKind.bits IntKind.i64) z9 &&& BitVec.ofInt (IntKind.bits IntKind.i64) 65535)) : Int)) (w64 (↑(BitVec.toNat (BitVec.ofInt (IntKind.bits IntKind.i64) z10 &&& BitVec.ofInt (IntKind.bits IntKind.i64) 65535)) : Int))).bind fun r => match r with
                | .a0 z1566 z1567 =>
                 (F40 (z5) (z6) (z7) (z8) (w64 (↑(BitVec.toNat (BitVec.ofInt (IntKind.bits IntKind.i64) z9 &&& BitVec.ofInt (IntKind.bits IntKind.i64) 65535)) : Int)) (w64 (↑(BitVec.toNat (BitVec.ofInt (IntKind.bits IntKind.i64) z10 &&& BitVec.ofInt (IntKind.bits IntKind.i64) 65535)) : Int))).bind fun r => match r with
                 | .a0 z1568 z1569 =>
                  if (z1566 == z1568 && (z1567 == z1569 && true)) = true then
                   (F25).bind fun r => match r with
                   | .a0 b1570 =>
                    some (A10.a0 (b1570))
                  else
                   none -- false
               else
                none -- false
            else
             none -- false
          else
           none -- false
        else
         none -- false
      else
       none -- false
    else
     none -- none
theorem F10_ok (m : Nat) (l0 : List (List V)) (z1 : Int) (z2 : Int) (b3 : Bool) (l4 : List (List V)) (z5 : Int) (z6 : Int) (z7 : Int) (z8 : Int) (z9 : Int) (z10 : Int) (r : A10) (h : F10 l0 z1 z2 b3 l4 z5 z6 z7 z8 z9 z10 = some r) : call Try.prog X O0 100000 (m + 10) 10 ([V.list 1 l0, i64 z1, i64 z2, V.agg [vb b3, V.list 2 l4], V.agg [i64 z5, i64 z6], V.agg [i64 z7, i64 z8], i64 z9, i64 z10]) ([]) = some r.out := by
  unfold F10 at h
  obtain ⟨r0, h0, h⟩ := Option.bind_eq_some_iff.mp h
  have h0 := F22_ok (m + 5) (l0) (0) r0 h0
  cases r0 with
  | a0 b173 l174 z175 =>
    rcases ite_eq h with ⟨h1, h⟩ | ⟨h1, h⟩
    · skip
      rcases ite_eq h with ⟨h2, h⟩ | ⟨h2, h⟩
      · skip
        obtain ⟨r3, h3, h⟩ := Option.bind_eq_some_iff.mp h
        have h3 := F38_ok (m + 5) (b173) (z1) (z2) r3 h3
        cases r3 with
        | a0 b787 =>
          rcases ite_eq h with ⟨h4, h⟩ | ⟨h4, h⟩
          · skip
            obtain ⟨r5, h5, h⟩ := Option.bind_eq_some_iff.mp h
            have h5 := F38_ok (m + 5) (b173) (w64 (↑(BitVec.toNat (BitVec.ofInt (IntKind.bits IntKind.i64) z1 &&& BitVec.ofInt (IntKind.bits IntKind.i64) 4194303)) : Int)) (w64 (↑(BitVec.toNat (BitVec.ofInt (IntKind.bits IntKind.i64) z2 &&& BitVec.ofInt (IntKind.bits IntKind.i64) 8388607)) : Int)) r5 h5
            cases r5 with
            | a0 b788 =>
              rcases ite_eq h with ⟨h6, h⟩ | ⟨h6, h⟩
              · skip
                obtain ⟨r7, h7, h⟩ := Option.bind_eq_some_iff.mp h
                have h7 := F38v1_ok (m + 0) (b3) (List.take 12 l4) (z1) (z2) r7 h7
                cases r7 with
                | a0 b1495 =>
                  rcases ite_eq h with ⟨h8, h⟩ | ⟨h8, h⟩
                  · skip
                    obtain ⟨r9, h9, h⟩ := Option.bind_eq_some_iff.mp h
                    have h9 := F38v1_ok (m + 0) (b3) (List.take 12 l4) (0) (z2) r9 h9
                    cases r9 with
                    | a0 b1496 =>
                      rcases ite_eq h with ⟨h10, h⟩ | ⟨h10, h⟩
                      · skip
                        obtain ⟨r11, h11, h⟩ := Option.bind_eq_some_iff.mp h
                        have h11 := F39_ok (m + 4) (z5) (z6) (z7) (z8) (z9) (z10) r11 h11
                        cases r11 with
                        | a0 z1497 z1498 =>
                          obtain ⟨r12, h12, h⟩ := Option.bind_eq_some_iff.mp h
                          have h12 := F40_ok (m + 2) (z5) (z6) (z7) (z8) (z9) (z10) r12 h12
                          cases r12 with
                          | a0 z1499 z1500 =>
                            rcases ite_eq h with ⟨h13, h⟩ | ⟨h13, h⟩
                            · skip
                              obtain ⟨r14, h14, h⟩ := Option.bind_eq_some_iff.mp h
                              have h14 := F39_ok (m + 4) (z5) (z6) (z7) (z8) (w64 (↑(BitVec.toNat (BitVec.ofInt (IntKind.bits IntKind.i64) z9 &&& BitVec.ofInt (IntKind.bits IntKind.i64) 65535)) : Int)) (w64 (↑(BitVec.toNat (BitVec.ofInt (IntKind.bits IntKind.i64) z10 &&& BitVec.ofInt (IntKind.bits IntKind.i64) 65535)) : Int)) r14 h14
                              cases r14 with
                              | a0 z1501 z1502 =>
                                obtain ⟨r15, h15, h⟩ := Option.bind_eq_some_iff.mp h
                                have h15 := F40_ok (m + 2) (z5) (z6) (z7) (z8) (w64 (↑(BitVec.toNat (BitVec.ofInt (IntKind.bits IntKind.i64) z9 &&& BitVec.ofInt (IntKind.bits IntKind.i64) 65535)) : Int)) (w64 (↑(BitVec.toNat (BitVec.ofInt (IntKind.bits IntKind.i64) z10 &&& BitVec.ofInt (IntKind.bits IntKind.i64) 65535)) : Int)) r15 h15
                                cases r15 with
                                | a0 z1503 z1504 =>
                                  rcases ite_eq h with ⟨h16, h⟩ | ⟨h16, h⟩
                                  · skip
                                    obtain ⟨r17, h17, h⟩ := Option.bind_eq_some_iff.mp h
                                    have h17 := F25_ok (m + 2) r17 h17
                                    cases r17 with
                                    | a0 b1525 =>
                                      cases h
                                      exact call_pathL (gs := [.an (V.agg [vb b173, V.nilS]) [Ob.cells true false 2 [[V.list 1 l174, i64 z175]]], .a, .a, .t, .a, .t, .a, .a, .an (vb b787) [], .t, .a, .t, .t, .t, .t, .t, .an (vb b788) [], .t, .t, .a, .t, .t, .t, .an (vb b1495) [], .t, .t, .a, .t, .t, .an (vb b1496) [], .t, .t, .a, .t, .a, .t, .t, .t, .an (V.agg [i64 z1497, i64 z1498]) [], .t, .a, .t, .a, .t, .t, .t, .an (V.agg [i64 z1499, i64 z1500]) [], .t, .t, .t, .a, .t, .a, .t, .t, .t, .t, .t, .an (V.agg [i64 z1501, i64 z1502]) [], .t, .a, .t, .a, .t, .t, .t, .t, .t, .an (V.agg [i64 z1503, i64 z1504]) [], .t, .t, .t, .an (vb b1525) [], .t, .ft [⟨0, [5], []⟩, ⟨1, [], []⟩, ⟨2, [], []⟩, ⟨3, [], []⟩, ⟨4, [], []⟩, ⟨5, [5], []⟩, ⟨6, [], []⟩, ⟨7, [], []⟩, ⟨8, [], []⟩, ⟨9, [], []⟩, ⟨10, [], []⟩, ⟨11, [], []⟩, ⟨12, [], []⟩, ⟨13, [0], []⟩, ⟨14, [], []⟩, ⟨15, [], []⟩, ⟨16, [], []⟩, ⟨17, [], []⟩, ⟨18, [], []⟩, ⟨19, [0], []⟩, ⟨20, [], []⟩, ⟨21, [], []⟩, ⟨22, [], []⟩, ⟨23, [], []⟩, ⟨24, [1], []⟩, ⟨25, [2], []⟩, ⟨26, [], []⟩, ⟨27, [], []⟩, ⟨28, [], []⟩, ⟨29, [1], []⟩, ⟨30, [2], []⟩, ⟨31, [], []⟩, ⟨32, [], []⟩, ⟨33, [], []⟩, ⟨34, [], []⟩, ⟨35, [], []⟩, ⟨36, [], []⟩, ⟨37, [1], []⟩, ⟨38, [2], []⟩, ⟨39, [], []⟩, ⟨40, [], []⟩, ⟨41, [], []⟩, ⟨42, [], []⟩, ⟨43, [], []⟩, ⟨44, [1], []⟩, ⟨45, [2], []⟩, ⟨46, [], []⟩, ⟨47, [], []⟩, ⟨48, [], []⟩, ⟨49, [], []⟩, ⟨50, [], []⟩, ⟨51, [], []⟩, ⟨52, [], []⟩, ⟨53, [], []⟩, ⟨54, [], []⟩, ⟨55, [], []⟩, ⟨56, [], []⟩]]) (notIn []) rfl rfl (by kernel_rfl) (And.intro h0 (And.intro (decide_eq_true h1) (And.intro (decide_eq_true h2) (And.intro h3 (And.intro h4 (And.intro h4 (And.intro h4 (And.intro h4 (And.intro h4 (And.intro h4 (And.intro h5 (And.intro h4 (And.intro h6 (And.intro h6 (And.intro h6 (And.intro h6 (And.intro h7 (And.intro h6 (And.intro h8 (And.intro h8 (And.intro h8 (And.intro h9 (And.intro h8 (And.intro h10 (And.intro h10 (And.intro h10 (And.intro h10 (And.intro h10 (And.intro h11 (And.intro h10 (And.intro h10 (And.intro h10 (And.intro h10 (And.intro h10 (And.intro h12 (And.intro h10 (And.intro h10 (And.intro h13 (And.intro h13 (And.intro h13 (And.intro h13 (And.intro h13 (And.intro h13 (And.intro h13 (And.intro h14 (And.intro h13 (And.intro h13 (And.intro h13 (And.intro h13 (And.intro h13 (And.intro h13 (And.intro h13 (And.intro h15 (And.intro h13 (And.intro h13 (And.intro h16 (And.intro h17 (And.intro h16 (And.intro (Eq.refl ([⟨0, [5], []⟩, ⟨1, [], []⟩, ⟨2, [], []⟩, ⟨3, [], []⟩, ⟨4, [], []⟩, ⟨5, [5], []⟩, ⟨6, [], []⟩, ⟨7, [], []⟩, ⟨8, [], []⟩, ⟨9, [], []⟩, ⟨10, [], []⟩, ⟨11, [], []⟩, ⟨12, [], []⟩, ⟨13, [0], []⟩, ⟨14, [], []⟩, ⟨15, [], []⟩, ⟨16, [], []⟩, ⟨17, [], []⟩, ⟨18, [], []⟩, ⟨19, [0], []⟩, ⟨20, [], []⟩, ⟨21, [], []⟩, ⟨22, [], []⟩, ⟨23, [], []⟩, ⟨24, [1], []⟩, ⟨25, [2], []⟩, ⟨26, [], []⟩, ⟨27, [], []⟩, ⟨28, [], []⟩, ⟨29, [1], []⟩, ⟨30, [2], []⟩, ⟨31, [], []⟩, ⟨32, [], []⟩, ⟨33, [], []⟩, ⟨34, [], []⟩, ⟨35, [], []⟩, ⟨36, [], []⟩, ⟨37, [1], []⟩, ⟨38, [2], []⟩, ⟨39, [], []⟩, ⟨40, [], []⟩, ⟨41, [], []⟩, ⟨42, [], []⟩, ⟨43, [], []⟩, ⟨44, [1], []⟩, ⟨45, [2], []⟩, ⟨46, [], []⟩, ⟨47, [], []⟩, ⟨48, [], []⟩, ⟨49, [], []⟩, ⟨50, [], []⟩, ⟨51, [], []⟩, ⟨52, [], []⟩, ⟨53, [], []⟩, ⟨54, [], []⟩, ⟨55, [], []⟩, ⟨56, [], []⟩] : List Foot)) True.intro)))))))))))))))))))))))))))))))))))))))))))))))))))))))))))
                                  · skip
                                    cases h
                            · skip
                              cases h
                      · skip
                        cases h
                  · skip
                    cases h
              · skip
                cases h
          · skip
            cases h
      · skip
        cases h
    · skip
      obtain ⟨r2, h2, h⟩ := Option.bind_eq_some_iff.mp h
      have h2 := F38_ok (m + 5) (b173) (z1) (z2) r2 h2
      cases r2 with
      | a0 b1527 =>
        rcases ite_eq h with ⟨h3, h⟩ | ⟨h3, h⟩
        · skip
          obtain ⟨r4, h4, h⟩ := Option.bind_eq_some_iff.mp h
          have h4 := F38_ok (m + 5) (b173) (w64 (↑(BitVec.toNat (BitVec.ofInt (IntKind.bits IntKind.i64) z1 &&& BitVec.ofInt (IntKind.bits IntKind.i64) 4194303)) : Int)) (w64 (↑(BitVec.toNat (BitVec.ofInt (IntKind.bits IntKind.i64) z2 &&& BitVec.ofInt (IntKind.bits IntKind.i64) 8388607)) : Int)) r4 h4
          cases r4 with
          | a0 b1528 =>
            rcases ite_eq h with ⟨h5, h⟩ | ⟨h5, h⟩
            · skip
              obtain ⟨r6, h6, h⟩ := Option.bind_eq_some_iff.mp h
              have h6 := F38v1_ok (m + 0) (b3) (l4) (z1) (z2) r6 h6
              cases r6 with
              | a0 b1529 =>
                rcases ite_eq h with ⟨h7, h⟩ | ⟨h7, h⟩
                · skip
                  obtain ⟨r8, h8, h⟩ := Option.bind_eq_some_iff.mp h
                  have h8 := F38v1_ok (m + 0) (b3) (l4) (0) (z2) r8 h8
                  cases r8 with
                  | a0 b1530 =>
                    rcases ite_eq h with ⟨h9, h⟩ | ⟨h9, h⟩
                    · skip
                      obtain ⟨r10, h10, h⟩ := Option.bind_eq_some_iff.mp h
                      have h10 := F39_ok (m + 4) (z5) (z6) (z7) (z8) (z9) (z10) r10 h10
                      cases r10 with
                      | a0 z1531 z1532 =>
                        obtain ⟨r11, h11, h⟩ := Option.bind_eq_some_iff.mp h
                        have h11 := F40_ok (m + 2) (z5) (z6) (z7) (z8) (z9) (z10) r11 h11
                        cases r11 with
                        | a0 z1533 z1534 =>
                          rcases ite_eq h with ⟨h12, h⟩ | ⟨h12, h⟩
                          · skip
                            obtain ⟨r13, h13, h⟩ := Option.bind_eq_some_iff.mp h
                            have h13 := F39_ok (m + 4) (z5) (z6) (z7) (z8) (w64 (↑(BitVec.toNat (BitVec.ofInt (IntKind.bits IntKind.i64) z9 &&& BitVec.ofInt (IntKind.bits IntKind.i64) 65535)) : Int)) (w64 (↑(BitVec.toNat (BitVec.ofInt (IntKind.bits IntKind.i64) z10 &&& BitVec.ofInt (IntKind.bits IntKind.i64) 65535)) : Int)) r13 h13
                            cases r13 with
                            | a0 z1535 z1536 =>
                              obtain ⟨r14, h14, h⟩ := Option.bind_eq_some_iff.mp h
                              have h14 := F40_ok (m + 2) (z5) (z6) (z7) (z8) (w64 (↑(BitVec.toNat (BitVec.ofInt (IntKind.bits IntKind.i64) z9 &&& BitVec.ofInt (IntKind.bits IntKind.i64) 65535)) : Int)) (w64 (↑(BitVec.toNat (BitVec.ofInt (IntKind.bits IntKind.i64) z10 &&& BitVec.ofInt (IntKind.bits IntKind.i64) 65535)) : Int)) r14 h14
                              cases r14 with
                              | a0 z1537 z1538 =>
                                rcases ite_eq h with ⟨h15, h⟩ | ⟨h15, h⟩
                                · skip
                                  obtain ⟨r16, h16, h⟩ := Option.bind_eq_some_iff.mp h
                                  have h16 := F25_ok (m + 2) r16 h16
                                  cases r16 with
                                  | a0 b1539 =>
                                    cases h
                                    exact call_pathL (gs := [.an (V.agg [vb b173, V.nilS]) [Ob.cells true false 2 [[V.list 1 l174, i64 z175]]], .a, .a, .f, .a, .an (vb b1527) [], .t, .a, .t, .t, .t, .t, .t, .an (vb b1528) [], .t, .t, .a, .t, .t, .t, .an (vb b1529) [], .t, .t, .a, .t, .t, .an (vb b1530) [], .t, .t, .a, .t, .a, .t, .t, .t, .an (V.agg [i64 z1531, i64 z1532]) [], .t, .a, .t, .a, .t, .t, .t, .an (V.agg [i64 z1533, i64 z1534]) [], .t, .t, .t, .a, .t, .a, .t, .t, .t, .t, .t, .an (V.agg [i64 z1535, i64 z1536]) [], .t, .a, .t, .a, .t, .t, .t, .t, .t, .an (V.agg [i64 z1537, i64 z1538]) [], .t, .t, .t, .an (vb b1539) [], .t, .ft [⟨0, [5], []⟩, ⟨1, [], []⟩, ⟨2, [], []⟩, ⟨3, [], []⟩, ⟨4, [], []⟩, ⟨5, [5], []⟩, ⟨6, [], []⟩, ⟨7, [], []⟩, ⟨8, [], []⟩, ⟨9, [], []⟩, ⟨10, [], []⟩, ⟨11, [], []⟩, ⟨12, [], []⟩, ⟨13, [0], []⟩, ⟨14, [], []⟩, ⟨15, [], []⟩, ⟨16, [], []⟩, ⟨17, [], []⟩, ⟨18, [], []⟩, ⟨19, [0], []⟩, ⟨20, [], []⟩, ⟨21, [], []⟩, ⟨22, [], []⟩, ⟨23, [], []⟩, ⟨24, [1], []⟩, ⟨25, [2], []⟩, ⟨26, [], []⟩, ⟨27, [], []⟩, ⟨28, [], []⟩, ⟨29, [1], []⟩, ⟨30, [2], []⟩, ⟨31, [], []⟩, ⟨32, [], []⟩, ⟨33, [], []⟩, ⟨34, [], []⟩, ⟨35, [], []⟩, ⟨36, [], []⟩, ⟨37, [1], []⟩, ⟨38, [2], []⟩, ⟨39, [], []⟩, ⟨40, [], []⟩, ⟨41, [], []⟩, ⟨42, [], []⟩, ⟨43, [], []⟩, ⟨44, [1], []⟩, ⟨45, [2], []⟩, ⟨46, [], []⟩, ⟨47, [], []⟩, ⟨48, [], []⟩, ⟨49, [], []⟩, ⟨50, [], []⟩, ⟨51, [], []⟩, ⟨52, [], []⟩, ⟨53, [], []⟩, ⟨54, [], []⟩, ⟨55, [], []⟩, ⟨56, [], []⟩]]) (notIn []) rfl rfl (by kernel_rfl) (And.intro h0 (And.intro (decide_eq_false h1) (And.intro h2 (And.intro h3 (And.intro h3 (And.intro h3 (And.intro h3 (And.intro h3 (And.intro h3 (And.intro h4 (And.intro h3 (And.intro h5 (And.intro h5 (And.intro h5 (And.intro h5 (And.intro h6 (And.intro h5 (And.intro h7 (And.intro h7 (And.intro h7 (And.intro h8 (And.intro h7 (And.intro h9 (And.intro h9 (And.intro h9 (And.intro h9 (And.intro h9 (And.intro h10 (And.intro h9 (And.intro h9 (And.intro h9 (And.intro h9 (And.intro h9 (And.intro h11 (And.intro h9 (And.intro h9 (And.intro h12 (And.intro h12 (And.intro h12 (And.intro h12 (And.intro h12 (And.intro h12 (And.intro h12 (And.intro h13 (And.intro h12 (And.intro h12 (And.intro h12 (And.intro h12 (And.intro h12 (And.intro h12 (And.intro h12 (And.intro h14 (And.intro h12 (And.intro h12 (And.intro h15 (And.intro h16 (And.intro h15 (And.intro (Eq.refl ([⟨0, [5], []⟩, ⟨1, [], []⟩, ⟨2, [], []⟩, ⟨3, [], []⟩, ⟨4, [], []⟩, ⟨5, [5], []⟩, ⟨6, [], []⟩, ⟨7, [], []⟩, ⟨8, [], []⟩, ⟨9, [], []⟩, ⟨10, [], []⟩, ⟨11, [], []⟩, ⟨12, [], []⟩, ⟨13, [0], []⟩, ⟨14, [], []⟩, ⟨15, [], []⟩, ⟨16, [], []⟩, ⟨17, [], []⟩, ⟨18, [], []⟩, ⟨19, [0], []⟩, ⟨20, [], []⟩, ⟨21, [], []⟩, ⟨22, [], []⟩, ⟨23, [], []⟩, ⟨24, [1], []⟩, ⟨25, [2], []⟩, ⟨26, [], []⟩, ⟨27, [], []⟩, ⟨28, [], []⟩, ⟨29, [1], []⟩, ⟨30, [2], []⟩, ⟨31, [], []⟩, ⟨32, [], []⟩, ⟨33, [], []⟩, ⟨34, [], []⟩, ⟨35, [], []⟩, ⟨36, [], []⟩, ⟨37, [1], []⟩, ⟨38, [2], []⟩, ⟨39, [], []⟩, ⟨40, [], []⟩, ⟨41, [], []⟩, ⟨42, [], []⟩, ⟨43, [], []⟩, ⟨44, [1], []⟩, ⟨45, [2], []⟩, ⟨46, [], []⟩, ⟨47, [], []⟩, ⟨48, [], []⟩, ⟨49, [], []⟩, ⟨50, [], []⟩, ⟨51, [], []⟩, ⟨52, [], []⟩, ⟨53, [], []⟩, ⟨54, [], []⟩, ⟨55, [], []⟩, ⟨56, [], []⟩] : List Foot)) True.intro))))))))))))))))))))))))))))))))))))))))))))))))))))))))))
                                · skip
                                  cases h
                          · skip
                            cases h
                    · skip
                      cases h
                · skip
                  cases h
            · skip
              cases h
        · skip
          cases h
  | a1 b1540 k1541 l1542 z1543 l1544 =>
    rcases ite_eq h with ⟨h1, h⟩ | ⟨h1, h⟩
    · skip
      rcases ite_eq h with ⟨h2, h⟩ | ⟨h2, h⟩
      · skip
        rcases ite_eq h with ⟨h3, h⟩ | ⟨h3, h⟩
        · skip
          obtain ⟨r4, h4, h⟩ := Option.bind_eq_some_iff.mp h
          have h4 := F38v1_ok (m + 0) (b1540) (List.take k1541 l1544) (z1) (z2) r4 h4
          cases r4 with
          | a0 b1545 =>
            rcases ite_eq h with ⟨h5, h⟩ | ⟨h5, h⟩
            · skip
              obtain ⟨r6, h6, h⟩ := Option.bind_eq_some_iff.mp h
              have h6 := F38v1_ok (m + 0) (b1540) (List.take k1541 l1544) (w64 (↑(BitVec.toNat (BitVec.ofInt (IntKind.bits IntKind.i64) z1 &&& BitVec.ofInt (IntKind.bits IntKind.i64) 4194303)) : Int)) (w64 (↑(BitVec.toNat (BitVec.ofInt (IntKind.bits IntKind.i64) z2 &&& BitVec.ofInt (IntKind.bits IntKind.i64) 8388607)) : Int)) r6 h6
              cases r6 with
              | a0 b1546 =>
                rcases ite_eq h with ⟨h7, h⟩ | ⟨h7, h⟩
                · skip
                  obtain ⟨r8, h8, h⟩ := Option.bind_eq_some_iff.mp h
                  have h8 := F38v1_ok (m + 0) (b3) (List.take 12 l4) (z1) (z2) r8 h8
                  cases r8 with
                  | a0 b1547 =>
                    rcases ite_eq h with ⟨h9, h⟩ | ⟨h9, h⟩
                    · skip
                      obtain ⟨r10, h10, h⟩ := Option.bind_eq_some_iff.mp h
                      have h10 := F38v1_ok (m + 0) (b3) (List.take 12 l4) (0) (z2) r10 h10
                      cases r10 with
                      | a0 b1548 =>
                        rcases ite_eq h with ⟨h11, h⟩ | ⟨h11, h⟩
                        · skip
                          obtain ⟨r12, h12, h⟩ := Option.bind_eq_some_iff.mp h
                          have h12 := F39_ok (m + 4) (z5) (z6) (z7) (z8) (z9) (z10) r12 h12
                          cases r12 with
                          | a0 z1549 z1550 =>
                            obtain ⟨r13, h13, h⟩ := Option.bind_eq_some_iff.mp h
                            have h13 := F40_ok (m + 2) (z5) (z6) (z7) (z8) (z9) (z10) r13 h13
                            cases r13 with
                            | a0 z1551 z1552 =>
                              rcases ite_eq h with ⟨h14, h⟩ | ⟨h14, h⟩
                              · skip
                                obtain ⟨r15, h15, h⟩ := Option.bind_eq_some_iff.mp h
                                have h15 := F39_ok (m + 4) (z5) (z6) (z7) (z8) (w64 (↑(BitVec.toNat (BitVec.ofInt (IntKind.bits IntKind.i64) z9 &&& BitVec.ofInt (IntKind.bits IntKind.i64) 65535)) : Int)) (w64 (↑(BitVec.toNat (BitVec.ofInt (IntKind.bits IntKind.i64) z10 &&& BitVec.ofInt (IntKind.bits IntKind.i64) 65535)) : Int)) r15 h15
                                cases r15 with
                                | a0 z1553 z1554 =>
                                  obtain ⟨r16, h16, h⟩ := Option.bind_eq_some_iff.mp h
                                  have h16 := F40_ok (m + 2) (z5) (z6) (z7) (z8) (w64 (↑(BitVec.toNat (BitVec.ofInt (IntKind.bits IntKind.i64) z9 &&& BitVec.ofInt (IntKind.bits IntKind.i64) 65535)) : Int)) (w64 (↑(BitVec.toNat (BitVec.ofInt (IntKind.bits IntKind.i64) z10 &&& BitVec.ofInt (IntKind.bits IntKind.i64) 65535)) : Int)) r16 h16
                                  cases r16 with
                                  | a0 z1555 z1556 =>
                                    rcases ite_eq h with ⟨h17, h⟩ | ⟨h17, h⟩
                                    · skip
                                      obtain ⟨r18, h18, h⟩ := Option.bind_eq_some_iff.mp h
                                      have h18 := F25_ok (m + 2) r18 h18
                                      cases r18 with
                                      | a0 b1557 =>
                                        cases h
                                        exact call_pathL (gs := [.an (V.agg [vb b1540, V.hs 1 0 k1541]) [Ob.cells true false 2 [[V.list 1 l1542, i64 z1543]], Ob.cells true true 2 l1544], .a, .a, .t, .a, .t, .a, .a, .t, .an (vb b1545) [], .t, .a, .t, .t, .t, .t, .t, .t, .an (vb b1546) [], .t, .t, .a, .t, .t, .t, .an (vb b1547) [], .t, .t, .a, .t, .t, .an (vb b1548) [], .t, .t, .a, .t, .a, .t, .t, .t, .an (V.agg [i64 z1549, i64 z1550]) [], .t, .a, .t, .a, .t, .t, .t, .an (V.agg [i64 z1551, i64 z1552]) [], .t, .t, .t, .a, .t, .a, .t, .t, .t, .t, .t, .an (V.agg [i64 z1553, i64 z1554]) [], .t, .a, .t, .a, .t, .t, .t, .t, .t, .an (V.agg [i64 z1555, i64 z1556]) [], .t, .t, .t, .an (vb b1557) [], .t, .ft [⟨0, [5], []⟩, ⟨1, [], []⟩, ⟨2, [], []⟩, ⟨3, [4], []⟩, ⟨4, [], []⟩, ⟨5, [5], []⟩, ⟨6, [], []⟩, ⟨7, [], []⟩, ⟨8, [], []⟩, ⟨9, [], []⟩, ⟨10, [4], []⟩, ⟨11, [], []⟩, ⟨12, [], []⟩, ⟨13, [0], []⟩, ⟨14, [], []⟩, ⟨15, [], []⟩, ⟨16, [], []⟩, ⟨17, [], []⟩, ⟨18, [], []⟩, ⟨19, [0], []⟩, ⟨20, [], []⟩, ⟨21, [], []⟩, ⟨22, [], []⟩, ⟨23, [], []⟩, ⟨24, [1], []⟩, ⟨25, [2], []⟩, ⟨26, [], []⟩, ⟨27, [], []⟩, ⟨28, [], []⟩, ⟨29, [1], []⟩, ⟨30, [2], []⟩, ⟨31, [], []⟩, ⟨32, [], []⟩, ⟨33, [], []⟩, ⟨34, [], []⟩, ⟨35, [], []⟩, ⟨36, [], []⟩, ⟨37, [1], []⟩, ⟨38, [2], []⟩, ⟨39, [], []⟩, ⟨40, [], []⟩, ⟨41, [], []⟩, ⟨42, [], []⟩, ⟨43, [], []⟩, ⟨44, [1], []⟩, ⟨45, [2], []⟩, ⟨46, [], []⟩, ⟨47, [], []⟩, ⟨48, [], []⟩, ⟨49, [], []⟩, ⟨50, [], []⟩, ⟨51, [], []⟩, ⟨52, [], []⟩, ⟨53, [], []⟩, ⟨54, [], []⟩, ⟨55, [], []⟩, ⟨56, [], []⟩]]) (notIn []) rfl rfl (by kernel_rfl) (And.intro h0 (And.intro (decide_eq_true h1) (And.intro (decide_eq_true h2) (And.intro (decide_eq_true h3) (And.intro h4 (And.intro h5 (And.intro h5 (And.intro h5 (And.intro h5 (And.intro h5 (And.intro h5 (And.intro (decide_eq_true h3) (And.intro h6 (And.intro h5 (And.intro h7 (And.intro h7 (And.intro h7 (And.intro h7 (And.intro h8 (And.intro h7 (And.intro h9 (And.intro h9 (And.intro h9 (And.intro h10 (And.intro h9 (And.intro h11 (And.intro h11 (And.intro h11 (And.intro h11 (And.intro h11 (And.intro h12 (And.intro h11 (And.intro h11 (And.intro h11 (And.intro h11 (And.intro h11 (And.intro h13 (And.intro h11 (And.intro h11 (And.intro h14 (And.intro h14 (And.intro h14 (And.intro h14 (And.intro h14 (And.intro h14 (And.intro h14 (And.intro h15 (And.intro h14 (And.intro h14 (And.intro h14 (And.intro h14 (And.intro h14 (And.intro h14 (And.intro h14 (And.intro h16 (And.intro h14 (And.intro h14 (And.intro h17 (And.intro h18 (And.intro h17 (And.intro (Eq.refl ([⟨0, [5], []⟩, ⟨1, [], []⟩, ⟨2, [], []⟩, ⟨3, [4], []⟩, ⟨4, [], []⟩, ⟨5, [5], []⟩, ⟨6, [], []⟩, ⟨7, [], []⟩, ⟨8, [], []⟩, ⟨9, [], []⟩, ⟨10, [4], []⟩, ⟨11, [], []⟩, ⟨12, [], []⟩, ⟨13, [0], []⟩, ⟨14, [], []⟩, ⟨15, [], []⟩, ⟨16, [], []⟩, ⟨17, [], []⟩, ⟨18, [], []⟩, ⟨19, [0], []⟩, ⟨20, [], []⟩, ⟨21, [], []⟩, ⟨22, [], []⟩, ⟨23, [], []⟩, ⟨24, [1], []⟩, ⟨25, [2], []⟩, ⟨26, [], []⟩, ⟨27, [], []⟩, ⟨28, [], []⟩, ⟨29, [1], []⟩, ⟨30, [2], []⟩, ⟨31, [], []⟩, ⟨32, [], []⟩, ⟨33, [], []⟩, ⟨34, [], []⟩, ⟨35, [], []⟩, ⟨36, [], []⟩, ⟨37, [1], []⟩, ⟨38, [2], []⟩, ⟨39, [], []⟩, ⟨40, [], []⟩, ⟨41, [], []⟩, ⟨42, [], []⟩, ⟨43, [], []⟩, ⟨44, [1], []⟩, ⟨45, [2], []⟩, ⟨46, [], []⟩, ⟨47, [], []⟩, ⟨48, [], []⟩, ⟨49, [], []⟩, ⟨50, [], []⟩, ⟨51, [], []⟩, ⟨52, [], []⟩, ⟨53, [], []⟩, ⟨54, [], []⟩, ⟨55, [], []⟩, ⟨56, [], []⟩] : List Foot)) True.intro)))))))))))))))))))))))))))))))))))))))))))))))))))))))))))))
                                    · skip
                                      cases h
                              · skip
                                cases h
                        · skip
                          cases h
                    · skip
                      cases h
                · skip
                  cases h
            · skip
              cases h
        · skip
          cases h
      · skip
        cases h
    · skip
      rcases ite_eq h with ⟨h2, h⟩ | ⟨h2, h⟩
      · skip
        obtain ⟨r3, h3, h⟩ := Option.bind_eq_some_iff.mp h
        have h3 := F38v1_ok (m + 0) (b1540) (List.take k1541 l1544) (z1) (z2) r3 h3
        cases r3 with
        | a0 b1558 =>
          rcases ite_eq h with ⟨h4, h⟩ | ⟨h4, h⟩
          · skip
            obtain ⟨r5, h5, h⟩ := Option.bind_eq_some_iff.mp h
            have h5 := F38v1_ok (m + 0) (b1540) (List.take k1541 l1544) (w64 (↑(BitVec.toNat (BitVec.ofInt (IntKind.bits IntKind.i64) z1 &&& BitVec.ofInt (IntKind.bits IntKind.i64) 4194303)) : Int)) (w64 (↑(BitVec.toNat (BitVec.ofInt (IntKind.bits IntKind.i64) z2 &&& BitVec.ofInt (IntKind.bits IntKind.i64) 8388607)) : Int)) r5 h5
            cases r5 with
            | a0 b1559 =>
              rcases ite_eq h with ⟨h6, h⟩ | ⟨h6, h⟩
              · skip
                obtain ⟨r7, h7, h⟩ := Option.bind_eq_some_iff.mp h
                have h7 := F38v1_ok (m + 0) (b3) (l4) (z1) (z2) r7 h7
                cases r7 with
                | a0 b1560 =>
                  rcases ite_eq h with ⟨h8, h⟩ | ⟨h8, h⟩
                  · skip
                    obtain ⟨r9, h9, h⟩ := Option.bind_eq_some_iff.mp h
                    have h9 := F38v1_ok (m + 0) (b3) (l4) (0) (z2) r9 h9
                    cases r9 with
                    | a0 b1561 =>
                      rcases ite_eq h with ⟨h10, h⟩ | ⟨h10, h⟩
                      · skip
                        obtain ⟨r11, h11, h⟩ := Option.bind_eq_some_iff.mp h
                        have h11 := F39_ok (m + 4) (z5) (z6) (z7) (z8) (z9) (z10) r11 h11
                        cases r11 with
                        | a0 z1562 z1563 =>
                          obtain ⟨r12, h12, h⟩ := Option.bind_eq_some_iff.mp h
                          have h12 := F40_ok (m + 2) (z5) (z6) (z7) (z8) (z9) (z10) r12 h12
                          cases r12 with
                          | a0 z1564 z1565 =>
                            rcases ite_eq h with ⟨h13, h⟩ | ⟨h13, h⟩
                            · skip
                              obtain ⟨r14, h14, h⟩ := Option.bind_eq_some_iff.mp h
                              have h14 := F39_ok (m + 4) (z5) (z6) (z7) (z8) (w64 (↑(BitVec.toNat (BitVec.ofInt (IntKind.bits IntKind.i64) z9 &&& BitVec.ofInt (IntKind.bits IntKind.i64) 65535)) : Int)) (w64 (↑(BitVec.toNat (BitVec.ofInt (IntKind.bits IntKind.i64) z10 &&& BitVec.ofInt (IntKind.bits IntKind.i64) 65535)) : Int)) r14 h14
                              cases r14 with
                              | a0 z1566 z1567 =>
                                obtain ⟨r15, h15, h⟩ := Option.bind_eq_some_iff.mp h
                                have h15 := F40_ok (m + 2) (z5) (z6) (z7) (z8) (w64 (↑(BitVec.toNat (BitVec.ofInt (IntKind.bits IntKind.i64) z9 &&& BitVec.ofInt (IntKind.bits IntKind.i64) 65535)) : Int)) (w64 (↑(BitVec.toNat (BitVec.ofInt (IntKind.bits IntKind.i64) z10 &&& BitVec.ofInt (IntKind.bits IntKind.i64) 65535)) : Int)) r15 h15
                                cases r15 with
                                | a0 z1568 z1569 =>
                                  rcases ite_eq h with ⟨h16, h⟩ | ⟨h16, h⟩
                                  · skip
                                    obtain ⟨r17, h17, h⟩ := Option.bind_eq_some_iff.mp h
                                    have h17 := F25_ok (m + 2) r17 h17
                                    cases r17 with
                                    | a0 b1570 =>
                                      cases h
                                      exact call_pathL (gs := [.an (V.agg [vb b1540, V.hs 1 0 k1541]) [Ob.cells true false 2 [[V.list 1 l1542, i64 z1543]], Ob.cells true true 2 l1544], .a, .a, .f, .a, .t, .an (vb b1558) [], .t, .a, .t, .t, .t, .t, .t, .t, .an (vb b1559) [], .t, .t, .a, .t, .t, .t, .an (vb b1560) [], .t, .t, .a, .t, .t, .an (vb b1561) [], .t, .t, .a, .t, .a, .t, .t, .t, .an (V.agg [i64 z1562, i64 z1563]) [], .t, .a, .t, .a, .t, .t, .t, .an (V.agg [i64 z1564, i64 z1565]) [], .t, .t, .t, .a, .t, .a, .t, .t, .t, .t, .t, .an (V.agg [i64 z1566, i64 z1567]) [], .t, .a, .t, .a, .t, .t, .t, .t, .t, .an (V.agg [i64 z1568, i64 z1569]) [], .t, .t, .t, .an (vb b1570) [], .t, .ft [⟨0, [5], []⟩, ⟨1, [], []⟩, ⟨2, [], []⟩, ⟨3, [4], []⟩, ⟨4, [], []⟩, ⟨5, [5], []⟩, ⟨6, [], []⟩, ⟨7, [], []⟩, ⟨8, [], []⟩, ⟨9, [], []⟩, ⟨10, [4], []⟩, ⟨11, [], []⟩, ⟨12, [], []⟩, ⟨13, [0], []⟩, ⟨14, [], []⟩, ⟨15, [], []⟩, ⟨16, [], []⟩, ⟨17, [], []⟩, ⟨18, [], []⟩, ⟨19, [0], []⟩, ⟨20, [], []⟩, ⟨21, [], []⟩, ⟨22, [], []⟩, ⟨23, [], []⟩, ⟨24, [1], []⟩, ⟨25, [2], []⟩, ⟨26, [], []⟩, ⟨27, [], []⟩, ⟨28, [], []⟩, ⟨29, [1], []⟩, ⟨30, [2], []⟩, ⟨31, [], []⟩, ⟨32, [], []⟩, ⟨33, [], []⟩, ⟨34, [], []⟩, ⟨35, [], []⟩, ⟨36, [], []⟩, ⟨37, [1], []⟩, ⟨38, [2], []⟩, ⟨39, [], []⟩, ⟨40, [], []⟩, ⟨41, [], []⟩, ⟨42, [], []⟩, ⟨43, [], []⟩, ⟨44, [1], []⟩, ⟨45, [2], []⟩, ⟨46, [], []⟩, ⟨47, [], []⟩, ⟨48, [], []⟩, ⟨49, [], []⟩, ⟨50, [], []⟩, ⟨51, [], []⟩, ⟨52, [], []⟩, ⟨53, [], []⟩, ⟨54, [], []⟩, ⟨55, [], []⟩, ⟨56, [], []⟩]]) (notIn []) rfl rfl (by kernel_rfl) (And.intro h0 (And.intro (decide_eq_false h1) (And.intro (decide_eq_true h2) (And.intro h3 (And.intro h4 (And.intro h4 (And.intro h4 (And.intro h4 (And.intro h4 (And.intro h4 (And.intro (decide_eq_true h2) (And.intro h5 (And.intro h4 (And.intro h6 (And.intro h6 (And.intro h6 (And.intro h6 (And.intro h7 (And.intro h6 (And.intro h8 (And.intro h8 (And.intro h8 (And.intro h9 (And.intro h8 (And.intro h10 (And.intro h10 (And.intro h10 (And.intro h10 (And.intro h10 (And.intro h11 (And.intro h10 (And.intro h10 (And.intro h10 (And.intro h10 (And.intro h10 (And.intro h12 (And.intro h10 (And.intro h10 (And.intro h13 (And.intro h13 (And.intro h13 (And.intro h13 (And.intro h13 (And.intro h13 (And.intro h13 (And.intro h14 (And.intro h13 (And.intro h13 (And.intro h13 (And.intro h13 (And.intro h13 (And.intro h13 (And.intro h13 (And.intro h15 (And.intro h13 (And.intro h13 (And.intro h16 (And.intro h17 (And.intro h16 (And.intro (Eq.refl ([⟨0, [5], []⟩, ⟨1, [], []⟩, ⟨2, [], []⟩, ⟨3, [4], []⟩, ⟨4, [], []⟩, ⟨5, [5], []⟩, ⟨6, [], []⟩, ⟨7, [], []⟩, ⟨8, [], []⟩, ⟨9, [], []⟩, ⟨10, [4], []⟩, ⟨11, [], []⟩, ⟨12, [], []⟩, ⟨13, [0], []⟩, ⟨14, [], []⟩, ⟨15, [], []⟩, ⟨16, [], []⟩, ⟨17, [], []⟩, ⟨18, [], []⟩, ⟨19, [0], []⟩, ⟨20, [], []⟩, ⟨21, [], []⟩, ⟨22, [], []⟩, ⟨23, [], []⟩, ⟨24, [1], []⟩, ⟨25, [2], []⟩, ⟨26, [], []⟩, ⟨27, [], []⟩, ⟨28, [], []⟩, ⟨29, [1], []⟩, ⟨30, [2], []⟩, ⟨31, [], []⟩, ⟨32, [], []⟩, ⟨33, [], []⟩, ⟨34, [], []⟩, ⟨35, [], []⟩, ⟨36, [], []⟩, ⟨37, [1], []⟩, ⟨38, [2], []⟩, ⟨39, [], []⟩, ⟨40, [], []⟩, ⟨41, [], []⟩, ⟨42, [], []⟩, ⟨43, [], []⟩, ⟨44, [1], []⟩, ⟨45, [2], []⟩, ⟨46, [], []⟩, ⟨47, [], []⟩, ⟨48, [], []⟩, ⟨49, [], []⟩, ⟨50, [], []⟩, ⟨51, [], []⟩, ⟨52, [], []⟩, ⟨53, [], []⟩, ⟨54, [], []⟩, ⟨55, [], []⟩, ⟨56, [], []⟩] : List Foot)) True.intro))))))))))))))))))))))))))))))))))))))))))))))))))))))))))))
                                  · skip
                                    cases h
                            · skip
                              cases h
                      · skip
                        cases h
                  · skip
                    cases h
              · skip
                cases h
          · skip
            cases h
      · skip
        cases h
end Go.Proofs.Ythohhdcngdmbeaa.H
