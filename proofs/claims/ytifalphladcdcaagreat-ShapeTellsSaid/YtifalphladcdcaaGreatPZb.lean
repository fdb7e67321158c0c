/- What the functions compute, and that they do so over the machine of plain values (printed by this session's program wip/vm/Walk.lean). No condition beyond those stated. -/
import Derived.Test.YtifalphladcdcaaGreatWk
import Derived.Test.YtifalphladcdcaaGreatPZa
set_option linter.unusedVariables false
set_option linter.unusedSimpArgs false
namespace Go.Proofs.YtifalphladcdcaaGreat.H
open Go Go.VM
set_option maxRecDepth 100000
/-! ## F13 -/
noncomputable abbrev B13 : Code := (Tryz.f13.body).getD .skip
inductive N13_2 where
  | s0 (z1289 : Int) (l1290 : List (List V)) (z1291 : Int) (z1292 : Int) (z1293 : Int) (k1294 : Nat) (k1295 : Nat) (k1296 : Nat) (b1297 : Bool) (z1298 : Int) (z1299 : Int) (z1300 : Int) (z1301 : Int) (z1302 : Int) (z1303 : Int) (z1304 : Int) (z1305 : Int) (z1306 : Int) (z1307 : Int) (z1308 : Int) (z1309 : Int) (z1310 : Int) (z1311 : Int) (z1312 : Int) (k1313 : Nat) (b1314 : Bool) (k1315 : Nat) (z1316 : Int) (z1317 : Int) (z1318 : Int) (z1319 : Int) (z1320 : Int) (k1321 : Nat) (l1322 : List (List V)) (l1323 : List (List V)) (l1324 : List (List V)) (l1325 : List (List V)) (l1326 : List (List V)) (l1327 : List (List V))
  | e0 (l1331 : List (List V)) (z1332 : Int) (z1333 : Int) (z1334 : Int) (k1335 : Nat) (k1336 : Nat) (k1337 : Nat) (b1338 : Bool) (z1339 : Int) (z1340 : Int) (z1341 : Int) (z1342 : Int) (z1343 : Int) (z1344 : Int) (z1345 : Int) (z1346 : Int) (z1347 : Int) (z1348 : Int) (z1349 : Int) (z1350 : Int) (z1351 : Int) (z1352 : Int) (z1353 : Int) (k1354 : Nat) (b1355 : Bool) (k1356 : Nat) (z1357 : Int) (z1358 : Int) (z1359 : Int) (z1360 : Int) (z1361 : Int) (k1362 : Nat) (l1363 : List (List V)) (l1364 : List (List V)) (l1365 : List (List V)) (l1366 : List (List V)) (l1367 : List (List V)) (l1368 : List (List V))
@[reducible] def N13_2.out : N13_2 → VX × S
  | .s0 z1289 l1290 z1291 z1292 z1293 k1294 k1295 k1296 b1297 z1298 z1299 z1300 z1301 z1302 z1303 z1304 z1305 z1306 z1307 z1308 z1309 z1310 z1311 z1312 k1313 b1314 k1315 z1316 z1317 z1318 z1319 z1320 k1321 l1322 l1323 l1324 l1325 l1326 l1327 => (VX.normal, { T := V.ptr 0 0 0 :: U :: V.ptr 1 0 0 :: V.ptr 2 0 0 :: un 5 (i64 z1289 :: un 145 []), σ := [Ob.cells true false 2 [[V.list 1 l1290, i64 z1291]], Ob.cells true false 32 [[i64 0, i64 0, V.hs 3 0 0, V.hs 4 0 0, V.hs 5 0 0, vb false, i64 0, i64 0, u8 0, u8 0, u8 0, u8 0, u8 0, u8 0, u8 0, u8 0, i64 0, i64 0, i64 0, i64 0, i64 0, V.hs 6 0 0, vb false, V.hs 7 0 0, u8 0, u8 0, u8 0, u8 0, i64 0, V.hs 8 0 0, V.hs 9 0 0, V.hs 10 0 0]], Ob.cells true false 32 [[i64 z1292, i64 z1293, V.hs 11 0 k1294, V.hs 12 0 k1295, V.hs 13 0 k1296, vb b1297, i64 z1298, i64 z1299, u8 z1300, u8 z1301, u8 z1302, u8 z1303, u8 z1304, u8 z1305, u8 z1306, u8 z1307, i64 z1308, i64 z1309, i64 z1310, i64 z1311, i64 z1312, V.hs 14 0 k1313, vb b1314, V.hs 15 0 k1315, u8 z1316, u8 z1317, u8 z1318, u8 z1319, i64 z1320, V.hs 16 0 k1321, V.hs 17 0 0, V.hs 18 0 0]], Ob.cells true true 7 [], Ob.cells true true 7 [], Ob.cells true true 8 [], Ob.cells true true 10 [], Ob.cells true true 7 [], Ob.cells true true 1 [], Ob.cells true true 7 [], Ob.cells true true 7 [], Ob.cells true true 7 l1322, Ob.cells true true 7 l1323, Ob.cells true true 8 l1324, Ob.cells true true 10 l1325, Ob.cells true true 7 l1326, Ob.cells true true 1 l1327, Ob.cells true true 7 [], Ob.cells true true 7 []] })
  | .e0 l1331 z1332 z1333 z1334 k1335 k1336 k1337 b1338 z1339 z1340 z1341 z1342 z1343 z1344 z1345 z1346 z1347 z1348 z1349 z1350 z1351 z1352 z1353 k1354 b1355 k1356 z1357 z1358 z1359 z1360 z1361 k1362 l1363 l1364 l1365 l1366 l1367 l1368 => (VX.exit 2, { T := V.ptr 0 0 0 :: U :: V.ptr 1 0 0 :: V.ptr 2 0 0 :: un 151 [], σ := [Ob.cells true false 2 [[V.list 1 l1331, i64 z1332]], Ob.cells true false 32 [[i64 0, i64 0, V.hs 3 0 0, V.hs 4 0 0, V.hs 5 0 0, vb false, i64 0, i64 0, u8 0, u8 0, u8 0, u8 0, u8 0, u8 0, u8 0, u8 0, i64 0, i64 0, i64 0, i64 0, i64 0, V.hs 6 0 0, vb false, V.hs 7 0 0, u8 0, u8 0, u8 0, u8 0, i64 0, V.hs 8 0 0, V.hs 9 0 0, V.hs 10 0 0]], Ob.cells true false 32 [[i64 z1333, i64 z1334, V.hs 11 0 k1335, V.hs 12 0 k1336, V.hs 13 0 k1337, vb b1338, i64 z1339, i64 z1340, u8 z1341, u8 z1342, u8 z1343, u8 z1344, u8 z1345, u8 z1346, u8 z1347, u8 z1348, i64 z1349, i64 z1350, i64 z1351, i64 z1352, i64 z1353, V.hs 14 0 k1354, vb b1355, V.hs 15 0 k1356, u8 z1357, u8 z1358, u8 z1359, u8 z1360, i64 z1361, V.hs 16 0 k1362, V.hs 17 0 0, V.hs 18 0 0]], Ob.cells true true 7 [], Ob.cells true true 7 [], Ob.cells true true 8 [], Ob.cells true true 10 [], Ob.cells true true 7 [], Ob.cells true true 1 [], Ob.cells true true 7 [], Ob.cells true true 7 [], Ob.cells true true 7 l1363, Ob.cells true true 7 l1364, Ob.cells true true 8 l1365, Ob.cells true true 10 l1366, Ob.cells true true 7 l1367, Ob.cells true true 1 l1368, Ob.cells true true 7 [], Ob.cells true true 7 []] })
def N13_2.ex (g : N13_2 → Prop) : Prop := (∃ (z1289 : Int) (l1290 : List (List V)) (z1291 : Int) (z1292 : Int) (z1293 : Int) (k1294 : Nat) (k1295 : Nat) (k1296 : Nat) (b1297 : Bool) (z1298 : Int) (z1299 : Int) (z1300 : Int) (z1301 : Int) (z1302 : Int) (z1303 : Int) (z1304 : Int) (z1305 : Int) (z1306 : Int) (z1307 : Int) (z1308 : Int) (z1309 : Int) (z1310 : Int) (z1311 : Int) (z1312 : Int) (k1313 : Nat) (b1314 : Bool) (k1315 : Nat) (z1316 : Int) (z1317 : Int) (z1318 : Int) (z1319 : Int) (z1320 : Int) (k1321 : Nat) (l1322 : List (List V)) (l1323 : List (List V)) (l1324 : List (List V)) (l1325 : List (List V)) (l1326 : List (List V)) (l1327 : List (List V)), g (.s0 z1289 l1290 z1291 z1292 z1293 k1294 k1295 k1296 b1297 z1298 z1299 z1300 z1301 z1302 z1303 z1304 z1305 z1306 z1307 z1308 z1309 z1310 z1311 z1312 k1313 b1314 k1315 z1316 z1317 z1318 z1319 z1320 k1321 l1322 l1323 l1324 l1325 l1326 l1327)) ∨ (∃ (l1331 : List (List V)) (z1332 : Int) (z1333 : Int) (z1334 : Int) (k1335 : Nat) (k1336 : Nat) (k1337 : Nat) (b1338 : Bool) (z1339 : Int) (z1340 : Int) (z1341 : Int) (z1342 : Int) (z1343 : Int) (z1344 : Int) (z1345 : Int) (z1346 : Int) (z1347 : Int) (z1348 : Int) (z1349 : Int) (z1350 : Int) (z1351 : Int) (z1352 : Int) (z1353 : Int) (k1354 : Nat) (b1355 : Bool) (k1356 : Nat) (z1357 : Int) (z1358 : Int) (z1359 : Int) (z1360 : Int) (z1361 : Int) (k1362 : Nat) (l1363 : List (List V)) (l1364 : List (List V)) (l1365 : List (List V)) (l1366 : List (List V)) (l1367 : List (List V)) (l1368 : List (List V)), g (.e0 l1331 z1332 z1333 z1334 k1335 k1336 k1337 b1338 z1339 z1340 z1341 z1342 z1343 z1344 z1345 z1346 z1347 z1348 z1349 z1350 z1351 z1352 z1353 k1354 b1355 k1356 z1357 z1358 z1359 z1360 z1361 k1362 l1363 l1364 l1365 l1366 l1367 l1368))
theorem N13_2.ok (g : N13_2 → Prop) : N13_2.ex g ↔ ∃ b, g b := ⟨fun h => match h with
  | .inl ⟨_, _, _, _, _, _, _, _, _, _, _, _, _, _, _, _, _, _, _, _, _, _, _, _, _, _, _, _, _, _, _, _, _, _, _, _, _, _, _, h⟩ => ⟨_, h⟩
  | .inr (⟨_, _, _, _, _, _, _, _, _, _, _, _, _, _, _, _, _, _, _, _, _, _, _, _, _, _, _, _, _, _, _, _, _, _, _, _, _, _, h⟩) => ⟨_, h⟩, fun ⟨b, h⟩ => match b, h with
  | .s0 _ _ _ _ _ _ _ _ _ _ _ _ _ _ _ _ _ _ _ _ _ _ _ _ _ _ _ _ _ _ _ _ _ _ _ _ _ _ _, h => .inl ⟨_, _, _, _, _, _, _, _, _, _, _, _, _, _, _, _, _, _, _, _, _, _, _, _, _, _, _, _, _, _, _, _, _, _, _, _, _, _, _, h⟩
  | .e0 _ _ _ _ _ _ _ _ _ _ _ _ _ _ _ _ _ _ _ _ _ _ _ _ _ _ _ _ _ _ _ _ _ _ _ _ _ _, h => .inr (⟨_, _, _, _, _, _, _, _, _, _, _, _, _, _, _, _, _, _, _, _, _, _, _, _, _, _, _, _, _, _, _, _, _, _, _, _, _, _, h⟩)⟩
abbrev E13_2 : Ent (VX × S) := ⟨N13_2, N13_2.out, N13_2.ex, N13_2.ok⟩
noncomputable def D13_2 (z1289 : Int) (l1290 : List (List V)) (z1291 : Int) (z1292 : Int) (z1293 : Int) (k1294 : Nat) (k1295 : Nat) (k1296 : Nat) (b1297 : Bool) (z1298 : Int) (z1299 : Int) (z1300 : Int) (z1301 : Int) (z1302 : Int) (z1303 : Int) (z1304 : Int) (z1305 : Int) (z1306 : Int) (z1307 : Int) (z1308 : Int) (z1309 : Int) (z1310 : Int) (z1311 : Int) (z1312 : Int) (k1313 : Nat) (b1314 : Bool) (k1315 : Nat) (z1316 : Int) (z1317 : Int) (z1318 : Int) (z1319 : Int) (z1320 : Int) (k1321 : Nat) (l1322 : List (List V)) (l1323 : List (List V)) (l1324 : List (List V)) (l1325 : List (List V)) (l1326 : List (List V)) (l1327 : List (List V)) : PT N13_2 :=
  .test (z1289 > 0)
   (fun h0 =>
   .auto 1 <|
   .ask E47 (F47_ok (1) (5) (l1290) (z1291)) fun (r : A47) => match r with
   | .a0 z1610 l1611 z1612 =>
    .auto 1 <|
    .test (0 + k1321 ≤ List.length l1327 ∧ (k1321 + 1) * 8 ≤ 140737488355328 ∧ k1321 + 1 ≤ 140737488355328)
     (fun h1 =>
     .auto 1 <|
     .ret (N13_2.s0 (w64 (z1289 - 1)) (l1611) (z1612) (z1292) (z1293) (k1294) (k1295) (k1296) (b1297) (z1298) (z1299) (z1300) (z1301) (z1302) (z1303) (z1304) (z1305) (z1306) (z1307) (z1308) (z1309) (z1310) (z1311) (z1312) (k1313) (b1314) (k1315) (z1316) (z1317) (z1318) (z1319) (z1320) (k1321 + 1) (l1322) (l1323) (l1324) (l1325) (l1326) (List.take k1321 l1327 ++ [[i64 z1610]]))
     )
     (fun _ => .fail) -- none
   )
   (fun h0 =>
   .ret (N13_2.e0 (l1290) (z1291) (z1292) (z1293) (k1294) (k1295) (k1296) (b1297) (z1298) (z1299) (z1300) (z1301) (z1302) (z1303) (z1304) (z1305) (z1306) (z1307) (z1308) (z1309) (z1310) (z1311) (z1312) (k1313) (b1314) (k1315) (z1316) (z1317) (z1318) (z1319) (z1320) (k1321) (l1322) (l1323) (l1324) (l1325) (l1326) (l1327))
   )
noncomputable def S13_2 : N13_2 → PT N13_2
  | .s0 z1289 l1290 z1291 z1292 z1293 k1294 k1295 k1296 b1297 z1298 z1299 z1300 z1301 z1302 z1303 z1304 z1305 z1306 z1307 z1308 z1309 z1310 z1311 z1312 k1313 b1314 k1315 z1316 z1317 z1318 z1319 z1320 k1321 l1322 l1323 l1324 l1325 l1326 l1327 => D13_2 z1289 l1290 z1291 z1292 z1293 k1294 k1295 k1296 b1297 z1298 z1299 z1300 z1301 z1302 z1303 z1304 z1305 z1306 z1307 z1308 z1309 z1310 z1311 z1312 k1313 b1314 k1315 z1316 z1317 z1318 z1319 z1320 k1321 l1322 l1323 l1324 l1325 l1326 l1327
  | _ => .fail
def N13_2.off : N13_2 → Bool
  | .s0 _ _ _ _ _ _ _ _ _ _ _ _ _ _ _ _ _ _ _ _ _ _ _ _ _ _ _ _ _ _ _ _ _ _ _ _ _ _ _ => false
  | _ => true
noncomputable def L13_2 (n : Nat) (b : N13_2) : Option N13_2 := PT.loop (S13_2) N13_2.off n b
theorem L13_2_ok : ∀ (n : Nat) (b : N13_2), N13_2.off b = false → ∀ c, L13_2 n b = some c → loopP Tryz.prog X CC 13 (1) 18446744073709551616 B13 2 n (E13_2.out b).2 = some (E13_2.out c) :=
  loop_ok (E := E13_2) (step := S13_2) (L := notIn []) (fun b hb => by cases b <;> first | (cases hb; done) | (intro x; kernel_rfl)) (fun b => by cases b <;> rfl)
noncomputable def N13_2.nx (n : Nat) (c : N13_2) : Option N13_2 := match N13_2.off c with
  | true => some c
  | false => L13_2 n c
theorem L13_2_s0 (n : Nat) (z1289 : Int) (l1290 : List (List V)) (z1291 : Int) (z1292 : Int) (z1293 : Int) (k1294 : Nat) (k1295 : Nat) (k1296 : Nat) (b1297 : Bool) (z1298 : Int) (z1299 : Int) (z1300 : Int) (z1301 : Int) (z1302 : Int) (z1303 : Int) (z1304 : Int) (z1305 : Int) (z1306 : Int) (z1307 : Int) (z1308 : Int) (z1309 : Int) (z1310 : Int) (z1311 : Int) (z1312 : Int) (k1313 : Nat) (b1314 : Bool) (k1315 : Nat) (z1316 : Int) (z1317 : Int) (z1318 : Int) (z1319 : Int) (z1320 : Int) (k1321 : Nat) (l1322 : List (List V)) (l1323 : List (List V)) (l1324 : List (List V)) (l1325 : List (List V)) (l1326 : List (List V)) (l1327 : List (List V)) : L13_2 (n + 1) (.s0 z1289 l1290 z1291 z1292 z1293 k1294 k1295 k1296 b1297 z1298 z1299 z1300 z1301 z1302 z1303 z1304 z1305 z1306 z1307 z1308 z1309 z1310 z1311 z1312 k1313 b1314 k1315 z1316 z1317 z1318 z1319 z1320 k1321 l1322 l1323 l1324 l1325 l1326 l1327) = (D13_2 z1289 l1290 z1291 z1292 z1293 k1294 k1295 k1296 b1297 z1298 z1299 z1300 z1301 z1302 z1303 z1304 z1305 z1306 z1307 z1308 z1309 z1310 z1311 z1312 k1313 b1314 k1315 z1316 z1317 z1318 z1319 z1320 k1321 l1322 l1323 l1324 l1325 l1326 l1327).ev (N13_2.nx n) := rfl
theorem N13_2.nx_s0 (n : Nat) (z1289 : Int) (l1290 : List (List V)) (z1291 : Int) (z1292 : Int) (z1293 : Int) (k1294 : Nat) (k1295 : Nat) (k1296 : Nat) (b1297 : Bool) (z1298 : Int) (z1299 : Int) (z1300 : Int) (z1301 : Int) (z1302 : Int) (z1303 : Int) (z1304 : Int) (z1305 : Int) (z1306 : Int) (z1307 : Int) (z1308 : Int) (z1309 : Int) (z1310 : Int) (z1311 : Int) (z1312 : Int) (k1313 : Nat) (b1314 : Bool) (k1315 : Nat) (z1316 : Int) (z1317 : Int) (z1318 : Int) (z1319 : Int) (z1320 : Int) (k1321 : Nat) (l1322 : List (List V)) (l1323 : List (List V)) (l1324 : List (List V)) (l1325 : List (List V)) (l1326 : List (List V)) (l1327 : List (List V)) : N13_2.nx n (.s0 z1289 l1290 z1291 z1292 z1293 k1294 k1295 k1296 b1297 z1298 z1299 z1300 z1301 z1302 z1303 z1304 z1305 z1306 z1307 z1308 z1309 z1310 z1311 z1312 k1313 b1314 k1315 z1316 z1317 z1318 z1319 z1320 k1321 l1322 l1323 l1324 l1325 l1326 l1327) = L13_2 n (.s0 z1289 l1290 z1291 z1292 z1293 k1294 k1295 k1296 b1297 z1298 z1299 z1300 z1301 z1302 z1303 z1304 z1305 z1306 z1307 z1308 z1309 z1310 z1311 z1312 k1313 b1314 k1315 z1316 z1317 z1318 z1319 z1320 k1321 l1322 l1323 l1324 l1325 l1326 l1327) := rfl
theorem N13_2.nx_e0 (n : Nat) (l1331 : List (List V)) (z1332 : Int) (z1333 : Int) (z1334 : Int) (k1335 : Nat) (k1336 : Nat) (k1337 : Nat) (b1338 : Bool) (z1339 : Int) (z1340 : Int) (z1341 : Int) (z1342 : Int) (z1343 : Int) (z1344 : Int) (z1345 : Int) (z1346 : Int) (z1347 : Int) (z1348 : Int) (z1349 : Int) (z1350 : Int) (z1351 : Int) (z1352 : Int) (z1353 : Int) (k1354 : Nat) (b1355 : Bool) (k1356 : Nat) (z1357 : Int) (z1358 : Int) (z1359 : Int) (z1360 : Int) (z1361 : Int) (k1362 : Nat) (l1363 : List (List V)) (l1364 : List (List V)) (l1365 : List (List V)) (l1366 : List (List V)) (l1367 : List (List V)) (l1368 : List (List V)) : N13_2.nx n (.e0 l1331 z1332 z1333 z1334 k1335 k1336 k1337 b1338 z1339 z1340 z1341 z1342 z1343 z1344 z1345 z1346 z1347 z1348 z1349 z1350 z1351 z1352 z1353 k1354 b1355 k1356 z1357 z1358 z1359 z1360 z1361 k1362 l1363 l1364 l1365 l1366 l1367 l1368) = some (.e0 l1331 z1332 z1333 z1334 k1335 k1336 k1337 b1338 z1339 z1340 z1341 z1342 z1343 z1344 z1345 z1346 z1347 z1348 z1349 z1350 z1351 z1352 z1353 k1354 b1355 k1356 z1357 z1358 z1359 z1360 z1361 k1362 l1363 l1364 l1365 l1366 l1367 l1368) := rfl
inductive N13_r21 where
  | e0 (l1209 : List (List V)) (z1210 : Int) (z1211 : Int) (z1212 : Int) (k1213 : Nat) (k1214 : Nat) (k1215 : Nat) (b1216 : Bool) (z1217 : Int) (z1218 : Int) (z1219 : Int) (z1220 : Int) (z1221 : Int) (z1222 : Int) (z1223 : Int) (z1224 : Int) (z1225 : Int) (z1226 : Int) (z1227 : Int) (z1228 : Int) (z1229 : Int) (z1230 : Int) (z1231 : Int) (k1232 : Nat) (b1233 : Bool) (l1234 : List (List V)) (l1235 : List (List V)) (l1236 : List (List V)) (l1237 : List (List V))
@[reducible] def N13_r21.out : N13_r21 → VX × S
  | .e0 l1209 z1210 z1211 z1212 k1213 k1214 k1215 b1216 z1217 z1218 z1219 z1220 z1221 z1222 z1223 z1224 z1225 z1226 z1227 z1228 z1229 z1230 z1231 k1232 b1233 l1234 l1235 l1236 l1237 => (VX.normal, { T := V.ptr 0 0 0 :: U :: V.ptr 1 0 0 :: V.ptr 2 0 0 :: un 151 [], σ := [Ob.cells true false 2 [[V.list 1 l1209, i64 z1210]], Ob.cells true false 32 [[i64 0, i64 0, V.hs 3 0 0, V.hs 4 0 0, V.hs 5 0 0, vb false, i64 0, i64 0, u8 0, u8 0, u8 0, u8 0, u8 0, u8 0, u8 0, u8 0, i64 0, i64 0, i64 0, i64 0, i64 0, V.hs 6 0 0, vb false, V.hs 7 0 0, u8 0, u8 0, u8 0, u8 0, i64 0, V.hs 8 0 0, V.hs 9 0 0, V.hs 10 0 0]], Ob.cells true false 32 [[i64 z1211, i64 z1212, V.hs 11 0 k1213, V.hs 12 0 k1214, V.hs 13 0 k1215, vb b1216, i64 z1217, i64 z1218, u8 z1219, u8 z1220, u8 z1221, u8 z1222, u8 z1223, u8 z1224, u8 z1225, u8 z1226, i64 z1227, i64 z1228, i64 z1229, i64 z1230, i64 z1231, V.hs 14 0 k1232, vb b1233, V.hs 15 0 0, u8 0, u8 0, u8 0, u8 0, i64 0, V.hs 16 0 0, V.hs 17 0 0, V.hs 18 0 0]], Ob.cells true true 7 [], Ob.cells true true 7 [], Ob.cells true true 8 [], Ob.cells true true 10 [], Ob.cells true true 7 [], Ob.cells true true 1 [], Ob.cells true true 7 [], Ob.cells true true 7 [], Ob.cells true true 7 l1234, Ob.cells true true 7 l1235, Ob.cells true true 8 l1236, Ob.cells true true 10 l1237, Ob.cells true true 7 [], Ob.cells true true 1 [], Ob.cells true true 7 [], Ob.cells true true 7 []] })
def N13_r21.ex (g : N13_r21 → Prop) : Prop := (∃ (l1209 : List (List V)) (z1210 : Int) (z1211 : Int) (z1212 : Int) (k1213 : Nat) (k1214 : Nat) (k1215 : Nat) (b1216 : Bool) (z1217 : Int) (z1218 : Int) (z1219 : Int) (z1220 : Int) (z1221 : Int) (z1222 : Int) (z1223 : Int) (z1224 : Int) (z1225 : Int) (z1226 : Int) (z1227 : Int) (z1228 : Int) (z1229 : Int) (z1230 : Int) (z1231 : Int) (k1232 : Nat) (b1233 : Bool) (l1234 : List (List V)) (l1235 : List (List V)) (l1236 : List (List V)) (l1237 : List (List V)), g (.e0 l1209 z1210 z1211 z1212 k1213 k1214 k1215 b1216 z1217 z1218 z1219 z1220 z1221 z1222 z1223 z1224 z1225 z1226 z1227 z1228 z1229 z1230 z1231 k1232 b1233 l1234 l1235 l1236 l1237))
theorem N13_r21.ok (g : N13_r21 → Prop) : N13_r21.ex g ↔ ∃ b, g b := ⟨fun h => match h with
  | ⟨_, _, _, _, _, _, _, _, _, _, _, _, _, _, _, _, _, _, _, _, _, _, _, _, _, _, _, _, _, h⟩ => ⟨_, h⟩, fun ⟨b, h⟩ => match b, h with
  | .e0 _ _ _ _ _ _ _ _ _ _ _ _ _ _ _ _ _ _ _ _ _ _ _ _ _ _ _ _ _, h => ⟨_, _, _, _, _, _, _, _, _, _, _, _, _, _, _, _, _, _, _, _, _, _, _, _, _, _, _, _, _, h⟩⟩
abbrev E13_r21 : Ent (VX × S) := ⟨N13_r21, N13_r21.out, N13_r21.ex, N13_r21.ok⟩
noncomputable def D13_r21 (l1178 : List (List V)) (z1179 : Int) (z1180 : Int) (z1181 : Int) (k1182 : Nat) (k1183 : Nat) (k1184 : Nat) (b1185 : Bool) (z1186 : Int) (z1187 : Int) (z1188 : Int) (z1189 : Int) (z1190 : Int) (z1191 : Int) (z1192 : Int) (z1193 : Int) (z1194 : Int) (z1195 : Int) (z1196 : Int) (z1197 : Int) (z1198 : Int) (z1199 : Int) (z1200 : Int) (k1201 : Nat) (l1202 : List (List V)) (l1203 : List (List V)) (l1204 : List (List V)) (l1205 : List (List V)) : PT N13_r21 :=
  .ask E43 (F43_ok (3) (l1178) (z1179)) fun (r : A43) => match r with
  | .a0 z1556 l1557 z1558 =>
   .testB (z1556 == 0)
    (fun h0 =>
    .auto 4 <|
    .ret (N13_r21.e0 (l1557) (z1558) (z1180) (z1181) (k1182) (k1183) (k1184) (b1185) (z1186) (z1187) (z1188) (z1189) (z1190) (z1191) (z1192) (z1193) (z1194) (z1195) (z1196) (z1197) (z1198) (z1199) (z1200) (k1201) (true) (l1202) (l1203) (l1204) (l1205))
    )
    (fun h0 =>
    .auto 5 <|
    .ret (N13_r21.e0 (l1557) (z1558) (z1180) (z1181) (k1182) (k1183) (k1184) (b1185) (z1186) (z1187) (z1188) (z1189) (z1190) (z1191) (z1192) (z1193) (z1194) (z1195) (z1196) (z1197) (z1198) (z1199) (z1200) (k1201) (!b1185) (l1202) (l1203) (l1204) (l1205))
    )
noncomputable def J13_r21 (l1178 : List (List V)) (z1179 : Int) (z1180 : Int) (z1181 : Int) (k1182 : Nat) (k1183 : Nat) (k1184 : Nat) (b1185 : Bool) (z1186 : Int) (z1187 : Int) (z1188 : Int) (z1189 : Int) (z1190 : Int) (z1191 : Int) (z1192 : Int) (z1193 : Int) (z1194 : Int) (z1195 : Int) (z1196 : Int) (z1197 : Int) (z1198 : Int) (z1199 : Int) (z1200 : Int) (k1201 : Nat) (l1202 : List (List V)) (l1203 : List (List V)) (l1204 : List (List V)) (l1205 : List (List V)) : Option N13_r21 := (D13_r21 l1178 z1179 z1180 z1181 k1182 k1183 k1184 b1185 z1186 z1187 z1188 z1189 z1190 z1191 z1192 z1193 z1194 z1195 z1196 z1197 z1198 z1199 z1200 k1201 l1202 l1203 l1204 l1205).ev some
theorem J13_r21_ok (l1178 : List (List V)) (z1179 : Int) (z1180 : Int) (z1181 : Int) (k1182 : Nat) (k1183 : Nat) (k1184 : Nat) (b1185 : Bool) (z1186 : Int) (z1187 : Int) (z1188 : Int) (z1189 : Int) (z1190 : Int) (z1191 : Int) (z1192 : Int) (z1193 : Int) (z1194 : Int) (z1195 : Int) (z1196 : Int) (z1197 : Int) (z1198 : Int) (z1199 : Int) (z1200 : Int) (k1201 : Nat) (l1202 : List (List V)) (l1203 : List (List V)) (l1204 : List (List V)) (l1205 : List (List V)) : ∀ b, J13_r21 l1178 z1179 z1180 z1181 k1182 k1183 k1184 b1185 z1186 z1187 z1188 z1189 z1190 z1191 z1192 z1193 z1194 z1195 z1196 z1197 z1198 z1199 z1200 k1201 l1202 l1203 l1204 l1205 = some b → regP Tryz.prog X CC 13 (1) B13 21 ({ T := V.ptr 0 0 0 :: U :: V.ptr 1 0 0 :: V.ptr 2 0 0 :: un 151 [], σ := [Ob.cells true false 2 [[V.list 1 l1178, i64 z1179]], Ob.cells true false 32 [[i64 0, i64 0, V.hs 3 0 0, V.hs 4 0 0, V.hs 5 0 0, vb false, i64 0, i64 0, u8 0, u8 0, u8 0, u8 0, u8 0, u8 0, u8 0, u8 0, i64 0, i64 0, i64 0, i64 0, i64 0, V.hs 6 0 0, vb false, V.hs 7 0 0, u8 0, u8 0, u8 0, u8 0, i64 0, V.hs 8 0 0, V.hs 9 0 0, V.hs 10 0 0]], Ob.cells true false 32 [[i64 z1180, i64 z1181, V.hs 11 0 k1182, V.hs 12 0 k1183, V.hs 13 0 k1184, vb b1185, i64 z1186, i64 z1187, u8 z1188, u8 z1189, u8 z1190, u8 z1191, u8 z1192, u8 z1193, u8 z1194, u8 z1195, i64 z1196, i64 z1197, i64 z1198, i64 z1199, i64 z1200, V.hs 14 0 k1201, vb false, V.hs 15 0 0, u8 0, u8 0, u8 0, u8 0, i64 0, V.hs 16 0 0, V.hs 17 0 0, V.hs 18 0 0]], Ob.cells true true 7 [], Ob.cells true true 7 [], Ob.cells true true 8 [], Ob.cells true true 10 [], Ob.cells true true 7 [], Ob.cells true true 1 [], Ob.cells true true 7 [], Ob.cells true true 7 [], Ob.cells true true 7 l1202, Ob.cells true true 7 l1203, Ob.cells true true 8 l1204, Ob.cells true true 10 l1205, Ob.cells true true 7 [], Ob.cells true true 1 [], Ob.cells true true 7 [], Ob.cells true true 7 []] }) = some (E13_r21.out b) :=
  reg_ok (E := E13_r21) (fun x => by kernel_rfl)
inductive N13_c90 where
  | e0 (l1122 : List (List V)) (z1123 : Int) (z1124 : Int) (z1125 : Int) (k1126 : Nat) (k1127 : Nat) (k1128 : Nat) (b1129 : Bool) (z1130 : Int) (z1131 : Int) (z1132 : Int) (z1133 : Int) (z1134 : Int) (z1135 : Int) (z1136 : Int) (z1137 : Int) (z1138 : Int) (z1139 : Int) (z1140 : Int) (z1141 : Int) (z1142 : Int) (z1143 : Int) (z1144 : Int) (k1145 : Nat) (l1146 : List (List V)) (l1147 : List (List V)) (l1148 : List (List V)) (l1149 : List (List V))
@[reducible] def N13_c90.out : N13_c90 → VX × S
  | .e0 l1122 z1123 z1124 z1125 k1126 k1127 k1128 b1129 z1130 z1131 z1132 z1133 z1134 z1135 z1136 z1137 z1138 z1139 z1140 z1141 z1142 z1143 z1144 k1145 l1146 l1147 l1148 l1149 => (VX.normal, { T := V.ptr 0 0 0 :: U :: V.ptr 1 0 0 :: V.ptr 2 0 0 :: un 151 [], σ := [Ob.cells true false 2 [[V.list 1 l1122, i64 z1123]], Ob.cells true false 32 [[i64 0, i64 0, V.hs 3 0 0, V.hs 4 0 0, V.hs 5 0 0, vb false, i64 0, i64 0, u8 0, u8 0, u8 0, u8 0, u8 0, u8 0, u8 0, u8 0, i64 0, i64 0, i64 0, i64 0, i64 0, V.hs 6 0 0, vb false, V.hs 7 0 0, u8 0, u8 0, u8 0, u8 0, i64 0, V.hs 8 0 0, V.hs 9 0 0, V.hs 10 0 0]], Ob.cells true false 32 [[i64 z1124, i64 z1125, V.hs 11 0 k1126, V.hs 12 0 k1127, V.hs 13 0 k1128, vb b1129, i64 z1130, i64 z1131, u8 z1132, u8 z1133, u8 z1134, u8 z1135, u8 z1136, u8 z1137, u8 z1138, u8 z1139, i64 z1140, i64 z1141, i64 z1142, i64 z1143, i64 z1144, V.hs 14 0 k1145, vb false, V.hs 15 0 0, u8 0, u8 0, u8 0, u8 0, i64 0, V.hs 16 0 0, V.hs 17 0 0, V.hs 18 0 0]], Ob.cells true true 7 [], Ob.cells true true 7 [], Ob.cells true true 8 [], Ob.cells true true 10 [], Ob.cells true true 7 [], Ob.cells true true 1 [], Ob.cells true true 7 [], Ob.cells true true 7 [], Ob.cells true true 7 l1146, Ob.cells true true 7 l1147, Ob.cells true true 8 l1148, Ob.cells true true 10 l1149, Ob.cells true true 7 [], Ob.cells true true 1 [], Ob.cells true true 7 [], Ob.cells true true 7 []] })
def N13_c90.ex (g : N13_c90 → Prop) : Prop := (∃ (l1122 : List (List V)) (z1123 : Int) (z1124 : Int) (z1125 : Int) (k1126 : Nat) (k1127 : Nat) (k1128 : Nat) (b1129 : Bool) (z1130 : Int) (z1131 : Int) (z1132 : Int) (z1133 : Int) (z1134 : Int) (z1135 : Int) (z1136 : Int) (z1137 : Int) (z1138 : Int) (z1139 : Int) (z1140 : Int) (z1141 : Int) (z1142 : Int) (z1143 : Int) (z1144 : Int) (k1145 : Nat) (l1146 : List (List V)) (l1147 : List (List V)) (l1148 : List (List V)) (l1149 : List (List V)), g (.e0 l1122 z1123 z1124 z1125 k1126 k1127 k1128 b1129 z1130 z1131 z1132 z1133 z1134 z1135 z1136 z1137 z1138 z1139 z1140 z1141 z1142 z1143 z1144 k1145 l1146 l1147 l1148 l1149))
theorem N13_c90.ok (g : N13_c90 → Prop) : N13_c90.ex g ↔ ∃ b, g b := ⟨fun h => match h with
  | ⟨_, _, _, _, _, _, _, _, _, _, _, _, _, _, _, _, _, _, _, _, _, _, _, _, _, _, _, _, h⟩ => ⟨_, h⟩, fun ⟨b, h⟩ => match b, h with
  | .e0 _ _ _ _ _ _ _ _ _ _ _ _ _ _ _ _ _ _ _ _ _ _ _ _ _ _ _ _, h => ⟨_, _, _, _, _, _, _, _, _, _, _, _, _, _, _, _, _, _, _, _, _, _, _, _, _, _, _, _, h⟩⟩
abbrev E13_c90 : Ent (VX × S) := ⟨N13_c90, N13_c90.out, N13_c90.ex, N13_c90.ok⟩
noncomputable def D13_c90 (b1077 : Bool) (l1078 : List (List V)) (z1079 : Int) (z1080 : Int) (z1081 : Int) (k1082 : Nat) (k1083 : Nat) (k1084 : Nat) (b1085 : Bool) (z1086 : Int) (z1087 : Int) (z1088 : Int) (z1089 : Int) (z1090 : Int) (z1091 : Int) (z1092 : Int) (z1093 : Int) (z1094 : Int) (z1095 : Int) (z1096 : Int) (z1097 : Int) (z1098 : Int) (z1099 : Int) (z1100 : Int) (l1101 : List (List V)) (l1102 : List (List V)) (l1103 : List (List V)) : PT N13_c90 :=
  .testB (b1077)
   (fun h0 =>
   .ask E43 (F43_ok (5) (l1078) (z1079)) fun (r : A43) => match r with
   | .a0 z1510 l1511 z1512 =>
    .ask E49 (F49_ok (l1511) (z1512)) fun (r : A49) => match r with
    | .a0 z1513 z1514 z1515 z1516 l1517 z1518 =>
     .ask E43 (F43_ok (9) (l1517) (z1518)) fun (r : A43) => match r with
     | .a0 z1519 l1520 z1521 =>
      .ask E49 (F49_ok (l1520) (z1521)) fun (r : A49) => match r with
      | .a0 z1522 z1523 z1524 z1525 l1526 z1527 =>
       .auto 1 <|
       .ret (N13_c90.e0 (l1526) (z1527) (z1080) (z1081) (k1082) (k1083) (k1084) (b1085) (z1086) (z1087) (z1088) (z1089) (z1090) (z1091) (z1092) (z1093) (z1094) (z1095) (z1096) (z1097) (z1098) (z1099) (z1100) (2) (l1101) (l1102) (l1103) ([[i64 z1510, u8 z1513, u8 z1514, u8 z1515, u8 z1516, i64 1, i64 0, i64 0, i64 0, i64 0], [i64 (w64 (5 + z1519)), u8 z1522, u8 z1523, u8 z1524, u8 z1525, i64 0, i64 0, i64 0, i64 0, i64 0]]))
   )
   (fun h0 =>
   .ret (N13_c90.e0 (l1078) (z1079) (z1080) (z1081) (k1082) (k1083) (k1084) (b1085) (z1086) (z1087) (z1088) (z1089) (z1090) (z1091) (z1092) (z1093) (z1094) (z1095) (z1096) (z1097) (z1098) (z1099) (z1100) (0) (l1101) (l1102) (l1103) ([]))
   )
noncomputable def J13_c90 (b1077 : Bool) (l1078 : List (List V)) (z1079 : Int) (z1080 : Int) (z1081 : Int) (k1082 : Nat) (k1083 : Nat) (k1084 : Nat) (b1085 : Bool) (z1086 : Int) (z1087 : Int) (z1088 : Int) (z1089 : Int) (z1090 : Int) (z1091 : Int) (z1092 : Int) (z1093 : Int) (z1094 : Int) (z1095 : Int) (z1096 : Int) (z1097 : Int) (z1098 : Int) (z1099 : Int) (z1100 : Int) (l1101 : List (List V)) (l1102 : List (List V)) (l1103 : List (List V)) : Option N13_c90 := (D13_c90 b1077 l1078 z1079 z1080 z1081 k1082 k1083 k1084 b1085 z1086 z1087 z1088 z1089 z1090 z1091 z1092 z1093 z1094 z1095 z1096 z1097 z1098 z1099 z1100 l1101 l1102 l1103).ev some
theorem J13_c90_ok (b1077 : Bool) (l1078 : List (List V)) (z1079 : Int) (z1080 : Int) (z1081 : Int) (k1082 : Nat) (k1083 : Nat) (k1084 : Nat) (b1085 : Bool) (z1086 : Int) (z1087 : Int) (z1088 : Int) (z1089 : Int) (z1090 : Int) (z1091 : Int) (z1092 : Int) (z1093 : Int) (z1094 : Int) (z1095 : Int) (z1096 : Int) (z1097 : Int) (z1098 : Int) (z1099 : Int) (z1100 : Int) (l1101 : List (List V)) (l1102 : List (List V)) (l1103 : List (List V)) : ∀ b, J13_c90 b1077 l1078 z1079 z1080 z1081 k1082 k1083 k1084 b1085 z1086 z1087 z1088 z1089 z1090 z1091 z1092 z1093 z1094 z1095 z1096 z1097 z1098 z1099 z1100 l1101 l1102 l1103 = some b → condP Tryz.prog X CC 13 (1) 18446744073709551616 B13 90 ({ T := V.ptr 0 0 0 :: U :: V.ptr 1 0 0 :: V.ptr 2 0 0 :: un 86 (vb b1077 :: un 64 []), σ := [Ob.cells true false 2 [[V.list 1 l1078, i64 z1079]], Ob.cells true false 32 [[i64 0, i64 0, V.hs 3 0 0, V.hs 4 0 0, V.hs 5 0 0, vb false, i64 0, i64 0, u8 0, u8 0, u8 0, u8 0, u8 0, u8 0, u8 0, u8 0, i64 0, i64 0, i64 0, i64 0, i64 0, V.hs 6 0 0, vb false, V.hs 7 0 0, u8 0, u8 0, u8 0, u8 0, i64 0, V.hs 8 0 0, V.hs 9 0 0, V.hs 10 0 0]], Ob.cells true false 32 [[i64 z1080, i64 z1081, V.hs 11 0 k1082, V.hs 12 0 k1083, V.hs 13 0 k1084, vb b1085, i64 z1086, i64 z1087, u8 z1088, u8 z1089, u8 z1090, u8 z1091, u8 z1092, u8 z1093, u8 z1094, u8 z1095, i64 z1096, i64 z1097, i64 z1098, i64 z1099, i64 z1100, V.hs 14 0 0, vb false, V.hs 15 0 0, u8 0, u8 0, u8 0, u8 0, i64 0, V.hs 16 0 0, V.hs 17 0 0, V.hs 18 0 0]], Ob.cells true true 7 [], Ob.cells true true 7 [], Ob.cells true true 8 [], Ob.cells true true 10 [], Ob.cells true true 7 [], Ob.cells true true 1 [], Ob.cells true true 7 [], Ob.cells true true 7 [], Ob.cells true true 7 l1101, Ob.cells true true 7 l1102, Ob.cells true true 8 l1103, Ob.cells true true 10 [], Ob.cells true true 7 [], Ob.cells true true 1 [], Ob.cells true true 7 [], Ob.cells true true 7 []] }) = some (E13_c90.out b) :=
  cond_ok (E := E13_c90) (L := notIn []) (fun x => by kernel_rfl)
inductive N13_0 where
  | s0 (z282 : Int) (b283 : Bool) (z284 : Int) (z285 : Int) (l286 : List (List V)) (z287 : Int) (z288 : Int) (z289 : Int) (k290 : Nat) (l291 : List (List V))
  | e0 (l1006 : List (List V)) (z1007 : Int) (z1008 : Int) (z1009 : Int) (k1010 : Nat) (l1011 : List (List V))
@[reducible] def N13_0.out : N13_0 → VX × S
  | .s0 z282 b283 z284 z285 l286 z287 z288 z289 k290 l291 => (VX.normal, { T := V.ptr 0 0 0 :: U :: V.ptr 1 0 0 :: V.ptr 2 0 0 :: i64 z282 :: vb b283 :: i64 z284 :: i64 z285 :: un 147 [], σ := [Ob.cells true false 2 [[V.list 1 l286, i64 z287]], Ob.cells true false 32 [[i64 0, i64 0, V.hs 3 0 0, V.hs 4 0 0, V.hs 5 0 0, vb false, i64 0, i64 0, u8 0, u8 0, u8 0, u8 0, u8 0, u8 0, u8 0, u8 0, i64 0, i64 0, i64 0, i64 0, i64 0, V.hs 6 0 0, vb false, V.hs 7 0 0, u8 0, u8 0, u8 0, u8 0, i64 0, V.hs 8 0 0, V.hs 9 0 0, V.hs 10 0 0]], Ob.cells true false 32 [[i64 z288, i64 z289, V.hs 11 0 0, V.hs 12 0 0, V.hs 13 0 k290, vb false, i64 0, i64 0, u8 0, u8 0, u8 0, u8 0, u8 0, u8 0, u8 0, u8 0, i64 0, i64 0, i64 0, i64 0, i64 0, V.hs 14 0 0, vb false, V.hs 15 0 0, u8 0, u8 0, u8 0, u8 0, i64 0, V.hs 16 0 0, V.hs 17 0 0, V.hs 18 0 0]], Ob.cells true true 7 [], Ob.cells true true 7 [], Ob.cells true true 8 [], Ob.cells true true 10 [], Ob.cells true true 7 [], Ob.cells true true 1 [], Ob.cells true true 7 [], Ob.cells true true 7 [], Ob.cells true true 7 [], Ob.cells true true 7 [], Ob.cells true true 8 l291, Ob.cells true true 10 [], Ob.cells true true 7 [], Ob.cells true true 1 [], Ob.cells true true 7 [], Ob.cells true true 7 []] })
  | .e0 l1006 z1007 z1008 z1009 k1010 l1011 => (VX.exit 0, { T := V.ptr 0 0 0 :: U :: V.ptr 1 0 0 :: V.ptr 2 0 0 :: un 151 [], σ := [Ob.cells true false 2 [[V.list 1 l1006, i64 z1007]], Ob.cells true false 32 [[i64 0, i64 0, V.hs 3 0 0, V.hs 4 0 0, V.hs 5 0 0, vb false, i64 0, i64 0, u8 0, u8 0, u8 0, u8 0, u8 0, u8 0, u8 0, u8 0, i64 0, i64 0, i64 0, i64 0, i64 0, V.hs 6 0 0, vb false, V.hs 7 0 0, u8 0, u8 0, u8 0, u8 0, i64 0, V.hs 8 0 0, V.hs 9 0 0, V.hs 10 0 0]], Ob.cells true false 32 [[i64 z1008, i64 z1009, V.hs 11 0 0, V.hs 12 0 0, V.hs 13 0 k1010, vb false, i64 0, i64 0, u8 0, u8 0, u8 0, u8 0, u8 0, u8 0, u8 0, u8 0, i64 0, i64 0, i64 0, i64 0, i64 0, V.hs 14 0 0, vb false, V.hs 15 0 0, u8 0, u8 0, u8 0, u8 0, i64 0, V.hs 16 0 0, V.hs 17 0 0, V.hs 18 0 0]], Ob.cells true true 7 [], Ob.cells true true 7 [], Ob.cells true true 8 [], Ob.cells true true 10 [], Ob.cells true true 7 [], Ob.cells true true 1 [], Ob.cells true true 7 [], Ob.cells true true 7 [], Ob.cells true true 7 [], Ob.cells true true 7 [], Ob.cells true true 8 l1011, Ob.cells true true 10 [], Ob.cells true true 7 [], Ob.cells true true 1 [], Ob.cells true true 7 [], Ob.cells true true 7 []] })
def N13_0.ex (g : N13_0 → Prop) : Prop := (∃ (z282 : Int) (b283 : Bool) (z284 : Int) (z285 : Int) (l286 : List (List V)) (z287 : Int) (z288 : Int) (z289 : Int) (k290 : Nat) (l291 : List (List V)), g (.s0 z282 b283 z284 z285 l286 z287 z288 z289 k290 l291)) ∨ (∃ (l1006 : List (List V)) (z1007 : Int) (z1008 : Int) (z1009 : Int) (k1010 : Nat) (l1011 : List (List V)), g (.e0 l1006 z1007 z1008 z1009 k1010 l1011))
theorem N13_0.ok (g : N13_0 → Prop) : N13_0.ex g ↔ ∃ b, g b := ⟨fun h => match h with
  | .inl ⟨_, _, _, _, _, _, _, _, _, _, h⟩ => ⟨_, h⟩
  | .inr (⟨_, _, _, _, _, _, h⟩) => ⟨_, h⟩, fun ⟨b, h⟩ => match b, h with
  | .s0 _ _ _ _ _ _ _ _ _ _, h => .inl ⟨_, _, _, _, _, _, _, _, _, _, h⟩
  | .e0 _ _ _ _ _ _, h => .inr (⟨_, _, _, _, _, _, h⟩)⟩
abbrev E13_0 : Ent (VX × S) := ⟨N13_0, N13_0.out, N13_0.ex, N13_0.ok⟩
noncomputable def D13_0 (z282 : Int) (b283 : Bool) (z284 : Int) (z285 : Int) (l286 : List (List V)) (z287 : Int) (z288 : Int) (z289 : Int) (k290 : Nat) (l291 : List (List V)) : PT N13_0 :=
  .test (z285 > 0)
   (fun h0 =>
   .ask E44 (F44_ok (z282) (b283) (l286) (z287)) fun (r : A44) => match r with
   | .a0 b1440 k1441 l1442 z1443 l1444 =>
    .auto 1 <|
    .ask E45 (F45_ok (l1442) (z1443)) fun (r : A45) => match r with
    | .a0 z1445 z1446 z1447 z1448 z1449 l1450 z1451 =>
     .auto 4 <|
     .test (0 + k1441 ≤ List.length l1444)
      (fun h1 =>
      .auto 1 <|
      .test (0 + k290 ≤ List.length l291 ∧ (k290 + 1) * 80 ≤ 140737488355328 ∧ k290 + 1 ≤ 140737488355328)
       (fun h2 =>
       .auto 1 <|
       .ask E43 (F43_ok (6) (l1450) (z1451)) fun (r : A43) => match r with
       | .a0 z1452 l1453 z1454 =>
        .ret (N13_0.s0 (z282) (b283) (w64 (w64 (z284 + 1) + z1452)) (w64 (z285 - 1)) (l1453) (z1454) (z288) (z289) (k290 + 1) (List.take k290 l291 ++ [[i64 z284, vb b1440, V.list 2 (List.take k1441 l1444), i64 z1445, i64 z1446, i64 z1447, i64 z1448, i64 z1449]]))
       )
       (fun _ => .fail) -- none
      )
      (fun _ => .fail) -- none
   )
   (fun h0 =>
   .ret (N13_0.e0 (l286) (z287) (z288) (z289) (k290) (l291))
   )
noncomputable def S13_0 : N13_0 → PT N13_0
  | .s0 z282 b283 z284 z285 l286 z287 z288 z289 k290 l291 => D13_0 z282 b283 z284 z285 l286 z287 z288 z289 k290 l291
  | _ => .fail
def N13_0.off : N13_0 → Bool
  | .s0 _ _ _ _ _ _ _ _ _ _ => false
  | _ => true
noncomputable def L13_0 (n : Nat) (b : N13_0) : Option N13_0 := PT.loop (S13_0) N13_0.off n b
theorem L13_0_ok : ∀ (n : Nat) (b : N13_0), N13_0.off b = false → ∀ c, L13_0 n b = some c → loopP Tryz.prog X CC 13 (1) 18446744073709551616 B13 0 n (E13_0.out b).2 = some (E13_0.out c) :=
  loop_ok (E := E13_0) (step := S13_0) (L := notIn []) (fun b hb => by cases b <;> first | (cases hb; done) | (intro x; kernel_rfl)) (fun b => by cases b <;> rfl)
noncomputable def N13_0.nx (n : Nat) (c : N13_0) : Option N13_0 := match N13_0.off c with
  | true => some c
  | false => L13_0 n c
theorem L13_0_s0 (n : Nat) (z282 : Int) (b283 : Bool) (z284 : Int) (z285 : Int) (l286 : List (List V)) (z287 : Int) (z288 : Int) (z289 : Int) (k290 : Nat) (l291 : List (List V)) : L13_0 (n + 1) (.s0 z282 b283 z284 z285 l286 z287 z288 z289 k290 l291) = (D13_0 z282 b283 z284 z285 l286 z287 z288 z289 k290 l291).ev (N13_0.nx n) := rfl
theorem N13_0.nx_s0 (n : Nat) (z282 : Int) (b283 : Bool) (z284 : Int) (z285 : Int) (l286 : List (List V)) (z287 : Int) (z288 : Int) (z289 : Int) (k290 : Nat) (l291 : List (List V)) : N13_0.nx n (.s0 z282 b283 z284 z285 l286 z287 z288 z289 k290 l291) = L13_0 n (.s0 z282 b283 z284 z285 l286 z287 z288 z289 k290 l291) := rfl
theorem N13_0.nx_e0 (n : Nat) (l1006 : List (List V)) (z1007 : Int) (z1008 : Int) (z1009 : Int) (k1010 : Nat) (l1011 : List (List V)) : N13_0.nx n (.e0 l1006 z1007 z1008 z1009 k1010 l1011) = some (.e0 l1006 z1007 z1008 z1009 k1010 l1011) := rfl
inductive N13_c22 where
  | e0 (l1018 : List (List V)) (z1019 : Int) (z1020 : Int) (z1021 : Int) (k1022 : Nat) (k1023 : Nat) (k1024 : Nat) (l1025 : List (List V)) (l1026 : List (List V)) (l1027 : List (List V))
@[reducible] def N13_c22.out : N13_c22 → VX × S
  | .e0 l1018 z1019 z1020 z1021 k1022 k1023 k1024 l1025 l1026 l1027 => (VX.normal, { T := V.ptr 0 0 0 :: U :: V.ptr 1 0 0 :: V.ptr 2 0 0 :: un 151 [], σ := [Ob.cells true false 2 [[V.list 1 l1018, i64 z1019]], Ob.cells true false 32 [[i64 0, i64 0, V.hs 3 0 0, V.hs 4 0 0, V.hs 5 0 0, vb false, i64 0, i64 0, u8 0, u8 0, u8 0, u8 0, u8 0, u8 0, u8 0, u8 0, i64 0, i64 0, i64 0, i64 0, i64 0, V.hs 6 0 0, vb false, V.hs 7 0 0, u8 0, u8 0, u8 0, u8 0, i64 0, V.hs 8 0 0, V.hs 9 0 0, V.hs 10 0 0]], Ob.cells true false 32 [[i64 z1020, i64 z1021, V.hs 11 0 k1022, V.hs 12 0 k1023, V.hs 13 0 k1024, vb false, i64 0, i64 0, u8 0, u8 0, u8 0, u8 0, u8 0, u8 0, u8 0, u8 0, i64 0, i64 0, i64 0, i64 0, i64 0, V.hs 14 0 0, vb false, V.hs 15 0 0, u8 0, u8 0, u8 0, u8 0, i64 0, V.hs 16 0 0, V.hs 17 0 0, V.hs 18 0 0]], Ob.cells true true 7 [], Ob.cells true true 7 [], Ob.cells true true 8 [], Ob.cells true true 10 [], Ob.cells true true 7 [], Ob.cells true true 1 [], Ob.cells true true 7 [], Ob.cells true true 7 [], Ob.cells true true 7 l1025, Ob.cells true true 7 l1026, Ob.cells true true 8 l1027, Ob.cells true true 10 [], Ob.cells true true 7 [], Ob.cells true true 1 [], Ob.cells true true 7 [], Ob.cells true true 7 []] })
def N13_c22.ex (g : N13_c22 → Prop) : Prop := (∃ (l1018 : List (List V)) (z1019 : Int) (z1020 : Int) (z1021 : Int) (k1022 : Nat) (k1023 : Nat) (k1024 : Nat) (l1025 : List (List V)) (l1026 : List (List V)) (l1027 : List (List V)), g (.e0 l1018 z1019 z1020 z1021 k1022 k1023 k1024 l1025 l1026 l1027))
theorem N13_c22.ok (g : N13_c22 → Prop) : N13_c22.ex g ↔ ∃ b, g b := ⟨fun h => match h with
  | ⟨_, _, _, _, _, _, _, _, _, _, h⟩ => ⟨_, h⟩, fun ⟨b, h⟩ => match b, h with
  | .e0 _ _ _ _ _ _ _ _ _ _, h => ⟨_, _, _, _, _, _, _, _, _, _, h⟩⟩
abbrev E13_c22 : Ent (VX × S) := ⟨N13_c22, N13_c22.out, N13_c22.ex, N13_c22.ok⟩
noncomputable def D13_c22 (b70 : Bool) (l71 : List (List V)) (z72 : Int) (z73 : Int) (z74 : Int) : PT N13_c22 :=
  .testB (b70)
   (fun h0 =>
   .ask E43 (F43_ok (3) (l71) (z72)) fun (r : A43) => match r with
   | .a0 z1428 l1429 z1430 =>
    .ask E43 (F43_ok (2) (l1429) (z1430)) fun (r : A43) => match r with
    | .a0 z1431 l1432 z1433 =>
     .ask E43 (F43_ok (4) (l1432) (z1433)) fun (r : A43) => match r with
     | .a0 z1434 l1435 z1436 =>
      .ask E43 (F43_ok (3) (l1435) (z1436)) fun (r : A43) => match r with
      | .a0 z1437 l1438 z1439 =>
       .cut E13_0 (L13_0_ok 18446744073709551616 (.s0 (w64 (1 + z1428)) (z1431 == 0) (z1434) (w64 (1 + z1437)) (l1438) (z1439) (z73) (z74) (0) ([])) rfl) fun (r : N13_0) => match r with
       | .e0 l1455 z1456 z1457 z1458 k1459 l1460 =>
        .ret (N13_c22.e0 (l1455) (z1456) (z1457) (z1458) (0) (0) (k1459) ([]) ([]) (l1460))
       | _ => .fail
   )
   (fun h0 =>
   .ask E46 (F46_ok (1) (14) (l71) (z72)) fun (r : A46) => match r with
   | .a0 k1461 l1462 z1463 l1464 =>
    .ask E47 (F47_ok (1) (14) (l1462) (z1463)) fun (r : A47) => match r with
    | .a0 z1465 l1466 z1467 =>
     .auto 1 <|
     .test (0 + k1461 ≤ List.length l1464 ∧ (k1461 + 1) * 56 ≤ 140737488355328 ∧ k1461 + 1 ≤ 140737488355328)
      (fun h1 =>
      .auto 1 <|
      .ask E46 (F46_ok (1) (14) (l1466) (z1467)) fun (r : A46) => match r with
      | .a0 k1468 l1469 z1470 l1471 =>
       .ask E47 (F47_ok (1) (14) (l1469) (z1470)) fun (r : A47) => match r with
       | .a0 z1472 l1473 z1474 =>
        .auto 1 <|
        .test (0 + k1468 ≤ List.length l1471 ∧ (k1468 + 1) * 56 ≤ 140737488355328 ∧ k1468 + 1 ≤ 140737488355328)
         (fun h2 =>
         .auto 1 <|
         .ret (N13_c22.e0 (l1473) (z1474) (z73) (z74) (k1461 + 1) (k1468 + 1) (0) (List.take k1461 l1464 ++ [[i64 60, i64 z1465, i64 0, i64 0, i64 0, i64 0, i64 0]]) (List.take k1468 l1471 ++ [[i64 60, i64 z1472, i64 0, i64 0, i64 0, i64 0, i64 0]]) ([]))
         )
         (fun _ => .fail) -- none
      )
      (fun _ => .fail) -- none
   )
noncomputable def J13_c22 (b70 : Bool) (l71 : List (List V)) (z72 : Int) (z73 : Int) (z74 : Int) : Option N13_c22 := (D13_c22 b70 l71 z72 z73 z74).ev some
theorem J13_c22_ok (b70 : Bool) (l71 : List (List V)) (z72 : Int) (z73 : Int) (z74 : Int) : ∀ b, J13_c22 b70 l71 z72 z73 z74 = some b → condP Tryz.prog X CC 13 (1) 18446744073709551616 B13 22 ({ T := V.ptr 0 0 0 :: U :: V.ptr 1 0 0 :: V.ptr 2 0 0 :: un 18 (vb b70 :: un 132 []), σ := [Ob.cells true false 2 [[V.list 1 l71, i64 z72]], Ob.cells true false 32 [[i64 0, i64 0, V.hs 3 0 0, V.hs 4 0 0, V.hs 5 0 0, vb false, i64 0, i64 0, u8 0, u8 0, u8 0, u8 0, u8 0, u8 0, u8 0, u8 0, i64 0, i64 0, i64 0, i64 0, i64 0, V.hs 6 0 0, vb false, V.hs 7 0 0, u8 0, u8 0, u8 0, u8 0, i64 0, V.hs 8 0 0, V.hs 9 0 0, V.hs 10 0 0]], Ob.cells true false 32 [[i64 z73, i64 z74, V.hs 11 0 0, V.hs 12 0 0, V.hs 13 0 0, vb false, i64 0, i64 0, u8 0, u8 0, u8 0, u8 0, u8 0, u8 0, u8 0, u8 0, i64 0, i64 0, i64 0, i64 0, i64 0, V.hs 14 0 0, vb false, V.hs 15 0 0, u8 0, u8 0, u8 0, u8 0, i64 0, V.hs 16 0 0, V.hs 17 0 0, V.hs 18 0 0]], Ob.cells true true 7 [], Ob.cells true true 7 [], Ob.cells true true 8 [], Ob.cells true true 10 [], Ob.cells true true 7 [], Ob.cells true true 1 [], Ob.cells true true 7 [], Ob.cells true true 7 [], Ob.cells true true 7 [], Ob.cells true true 7 [], Ob.cells true true 8 [], Ob.cells true true 10 [], Ob.cells true true 7 [], Ob.cells true true 1 [], Ob.cells true true 7 [], Ob.cells true true 7 []] }) = some (E13_c22.out b) :=
  cond_ok (E := E13_c22) (L := notIn []) (fun x => by kernel_rfl)
inductive N13_c15 where
  | e0 (l62 : List (List V)) (z63 : Int) (z64 : Int) (z65 : Int)
@[reducible] def N13_c15.out : N13_c15 → VX × S
  | .e0 l62 z63 z64 z65 => (VX.normal, { T := V.ptr 0 0 0 :: U :: V.ptr 1 0 0 :: V.ptr 2 0 0 :: un 151 [], σ := [Ob.cells true false 2 [[V.list 1 l62, i64 z63]], Ob.cells true false 32 [[i64 0, i64 0, V.hs 3 0 0, V.hs 4 0 0, V.hs 5 0 0, vb false, i64 0, i64 0, u8 0, u8 0, u8 0, u8 0, u8 0, u8 0, u8 0, u8 0, i64 0, i64 0, i64 0, i64 0, i64 0, V.hs 6 0 0, vb false, V.hs 7 0 0, u8 0, u8 0, u8 0, u8 0, i64 0, V.hs 8 0 0, V.hs 9 0 0, V.hs 10 0 0]], Ob.cells true false 32 [[i64 z64, i64 z65, V.hs 11 0 0, V.hs 12 0 0, V.hs 13 0 0, vb false, i64 0, i64 0, u8 0, u8 0, u8 0, u8 0, u8 0, u8 0, u8 0, u8 0, i64 0, i64 0, i64 0, i64 0, i64 0, V.hs 14 0 0, vb false, V.hs 15 0 0, u8 0, u8 0, u8 0, u8 0, i64 0, V.hs 16 0 0, V.hs 17 0 0, V.hs 18 0 0]], Ob.cells true true 7 [], Ob.cells true true 7 [], Ob.cells true true 8 [], Ob.cells true true 10 [], Ob.cells true true 7 [], Ob.cells true true 1 [], Ob.cells true true 7 [], Ob.cells true true 7 [], Ob.cells true true 7 [], Ob.cells true true 7 [], Ob.cells true true 8 [], Ob.cells true true 10 [], Ob.cells true true 7 [], Ob.cells true true 1 [], Ob.cells true true 7 [], Ob.cells true true 7 []] })
def N13_c15.ex (g : N13_c15 → Prop) : Prop := (∃ (l62 : List (List V)) (z63 : Int) (z64 : Int) (z65 : Int), g (.e0 l62 z63 z64 z65))
theorem N13_c15.ok (g : N13_c15 → Prop) : N13_c15.ex g ↔ ∃ b, g b := ⟨fun h => match h with
  | ⟨_, _, _, _, h⟩ => ⟨_, h⟩, fun ⟨b, h⟩ => match b, h with
  | .e0 _ _ _ _, h => ⟨_, _, _, _, h⟩⟩
abbrev E13_c15 : Ent (VX × S) := ⟨N13_c15, N13_c15.out, N13_c15.ex, N13_c15.ok⟩
noncomputable def D13_c15 (b55 : Bool) (l56 : List (List V)) (z57 : Int) (z58 : Int) : PT N13_c15 :=
  .testB (b55)
   (fun h0 =>
   .ask E43 (F43_ok (5) (l56) (z57)) fun (r : A43) => match r with
   | .a0 z1421 l1422 z1423 =>
    .auto 1 <|
    .ret (N13_c15.e0 (l1422) (z1423) (z58) (w64 (2 + z1421)))
   )
   (fun h0 =>
   .ret (N13_c15.e0 (l56) (z57) (z58) (0))
   )
noncomputable def J13_c15 (b55 : Bool) (l56 : List (List V)) (z57 : Int) (z58 : Int) : Option N13_c15 := (D13_c15 b55 l56 z57 z58).ev some
theorem J13_c15_ok (b55 : Bool) (l56 : List (List V)) (z57 : Int) (z58 : Int) : ∀ b, J13_c15 b55 l56 z57 z58 = some b → condP Tryz.prog X CC 13 (1) 18446744073709551616 B13 15 ({ T := V.ptr 0 0 0 :: U :: V.ptr 1 0 0 :: V.ptr 2 0 0 :: un 11 (vb b55 :: un 139 []), σ := [Ob.cells true false 2 [[V.list 1 l56, i64 z57]], Ob.cells true false 32 [[i64 0, i64 0, V.hs 3 0 0, V.hs 4 0 0, V.hs 5 0 0, vb false, i64 0, i64 0, u8 0, u8 0, u8 0, u8 0, u8 0, u8 0, u8 0, u8 0, i64 0, i64 0, i64 0, i64 0, i64 0, V.hs 6 0 0, vb false, V.hs 7 0 0, u8 0, u8 0, u8 0, u8 0, i64 0, V.hs 8 0 0, V.hs 9 0 0, V.hs 10 0 0]], Ob.cells true false 32 [[i64 z58, i64 0, V.hs 11 0 0, V.hs 12 0 0, V.hs 13 0 0, vb false, i64 0, i64 0, u8 0, u8 0, u8 0, u8 0, u8 0, u8 0, u8 0, u8 0, i64 0, i64 0, i64 0, i64 0, i64 0, V.hs 14 0 0, vb false, V.hs 15 0 0, u8 0, u8 0, u8 0, u8 0, i64 0, V.hs 16 0 0, V.hs 17 0 0, V.hs 18 0 0]], Ob.cells true true 7 [], Ob.cells true true 7 [], Ob.cells true true 8 [], Ob.cells true true 10 [], Ob.cells true true 7 [], Ob.cells true true 1 [], Ob.cells true true 7 [], Ob.cells true true 7 [], Ob.cells true true 7 [], Ob.cells true true 7 [], Ob.cells true true 8 [], Ob.cells true true 10 [], Ob.cells true true 7 [], Ob.cells true true 1 [], Ob.cells true true 7 [], Ob.cells true true 7 []] }) = some (E13_c15.out b) :=
  cond_ok (E := E13_c15) (L := notIn []) (fun x => by kernel_rfl)
noncomputable def D13 (l38 : List (List V)) (z39 : Int) : PT A13 :=
  .ask E43 (F43_ok (4) (l38) (z39)) fun (r : A43) => match r with
  | .a0 z1418 l1419 z1420 =>
   .auto 2 <|
   .cut E13_c15 (J13_c15_ok (z1418 == 2) (l1419) (z1420) (z1418)) fun (r : N13_c15) => match r with
   | .e0 l1424 z1425 z1426 z1427 =>
    .auto 1 <|
    .cut E13_c22 (J13_c22_ok (z1426 == 3) (l1424) (z1425) (z1426) (z1427)) fun (r : N13_c22) => match r with
    | .e0 l1475 z1476 z1477 z1478 k1479 k1480 k1481 l1482 l1483 l1484 =>
     .ask E43 (F43_ok (3) (l1475) (z1476)) fun (r : A43) => match r with
     | .a0 z1485 l1486 z1487 =>
      .auto 1 <|
      .ask E43 (F43_ok (2) (l1486) (z1487)) fun (r : A43) => match r with
      | .a0 z1488 l1489 z1490 =>
       .auto 1 <|
       .ask E48 (F48_ok (l1489) (z1490)) fun (r : A48) => match r with
       | .a0 z1491 z1492 z1493 z1494 z1495 z1496 z1497 z1498 z1499 z1500 z1501 z1502 z1503 z1504 l1505 z1506 =>
        .auto 1 <|
        .ask E43 (F43_ok (3) (l1505) (z1506)) fun (r : A43) => match r with
        | .a0 z1507 l1508 z1509 =>
         .cut E13_c90 (J13_c90_ok (z1507 == 0) (l1508) (z1509) (z1477) (z1478) (k1479) (k1480) (k1481) (decide (z1485 > 0)) (z1488) (z1491) (z1492) (z1493) (z1494) (z1495) (z1496) (z1497) (z1498) (z1499) (z1500) (z1501) (z1502) (z1503) (z1504) (l1482) (l1483) (l1484)) fun (r : N13_c90) => match r with
         | .e0 l1528 z1529 z1530 z1531 k1532 k1533 k1534 b1535 z1536 z1537 z1538 z1539 z1540 z1541 z1542 z1543 z1544 z1545 z1546 z1547 z1548 z1549 z1550 k1551 l1552 l1553 l1554 l1555 =>
          .cut E13_r21 (J13_r21_ok (l1528) (z1529) (z1530) (z1531) (k1532) (k1533) (k1534) (b1535) (z1536) (z1537) (z1538) (z1539) (z1540) (z1541) (z1542) (z1543) (z1544) (z1545) (z1546) (z1547) (z1548) (z1549) (z1550) (k1551) (l1552) (l1553) (l1554) (l1555)) fun (r : N13_r21) => match r with
          | .e0 l1559 z1560 z1561 z1562 k1563 k1564 k1565 b1566 z1567 z1568 z1569 z1570 z1571 z1572 z1573 z1574 z1575 z1576 z1577 z1578 z1579 z1580 z1581 k1582 b1583 l1584 l1585 l1586 l1587 =>
           .auto 1 <|
           .testB (b1583)
            (fun h0 =>
            .ask E46 (F46_ok (0) (4) (l1559) (z1560)) fun (r : A46) => match r with
            | .a0 k1588 l1589 z1590 l1591 =>
             .ask E47 (F47_ok (1) (4) (l1589) (z1590)) fun (r : A47) => match r with
             | .a0 z1592 l1593 z1594 =>
              .auto 1 <|
              .test (0 + k1588 ≤ List.length l1591 ∧ (k1588 + 1) * 56 ≤ 140737488355328 ∧ k1588 + 1 ≤ 140737488355328)
               (fun h1 =>
               .auto 1 <|
               .ask E49 (F49_ok (l1593) (z1594)) fun (r : A49) => match r with
               | .a0 z1595 z1596 z1597 z1598 l1599 z1600 =>
                .auto 1 <|
                .ask E43 (F43_ok (2) (l1599) (z1600)) fun (r : A43) => match r with
                | .a0 z1601 l1602 z1603 =>
                 .auto 1 <|
                 .ask E43 (F43_ok (4) (l1602) (z1603)) fun (r : A43) => match r with
                 | .a0 z1604 l1605 z1606 =>
                  .ask E43 (F43_ok (2) (l1605) (z1606)) fun (r : A43) => match r with
                  | .a0 z1607 l1608 z1609 =>
                   .cut E13_2 (L13_2_ok 18446744073709551616 (.s0 (w64 (z1604 * z1607)) (l1608) (z1609) (z1561) (z1562) (k1563) (k1564) (k1565) (b1566) (z1567) (z1568) (z1569) (z1570) (z1571) (z1572) (z1573) (z1574) (z1575) (z1576) (z1577) (z1578) (z1579) (z1580) (z1581) (k1582) (b1583) (k1588 + 1) (z1595) (z1596) (z1597) (z1598) (z1601) (0) (l1584) (l1585) (l1586) (l1587) (List.take k1588 l1591 ++ [[i64 60, i64 z1592, i64 0, i64 0, i64 0, i64 0, i64 0]]) ([])) rfl) fun (r : N13_2) => match r with
                   | .e0 l1613 z1614 z1615 z1616 k1617 k1618 k1619 b1620 z1621 z1622 z1623 z1624 z1625 z1626 z1627 z1628 z1629 z1630 z1631 z1632 z1633 z1634 z1635 k1636 b1637 k1638 z1639 z1640 z1641 z1642 z1643 k1644 l1645 l1646 l1647 l1648 l1649 l1650 =>
                    .ask E43 (F43_ok (2) (l1613) (z1614)) fun (r : A43) => match r with
                    | .a0 z1651 l1652 z1653 =>
                     .testB (z1651 == 0)
                      (fun h2 =>
                      .ask E46 (F46_ok (0) (1) (l1652) (z1653)) fun (r : A46) => match r with
                      | .a0 k1654 l1655 z1656 l1657 =>
                       .ask E46 (F46_ok (0) (1) (l1655) (z1656)) fun (r : A46) => match r with
                       | .a0 k1658 l1659 z1660 l1661 =>
                        .auto 4 <|
                        .ret (A13.a0 (z1615) (z1616) (k1617) (k1618) (k1619) (b1620) (z1621) (z1622) (z1623) (z1624) (z1625) (z1626) (z1627) (z1628) (z1629) (z1630) (z1631) (z1632) (z1633) (z1634) (z1635) (k1636) (b1637) (k1638) (z1639) (z1640) (z1641) (z1642) (z1643) (k1644) (k1654) (k1658) (l1659) (z1660) (l1645) (l1646) (l1647) (l1648) (l1649) (l1650) (l1657) (l1661))
                      )
                      (fun h2 =>
                      .auto 2 <|
                      .ret (A13.a0 (z1615) (z1616) (k1617) (k1618) (k1619) (b1620) (z1621) (z1622) (z1623) (z1624) (z1625) (z1626) (z1627) (z1628) (z1629) (z1630) (z1631) (z1632) (z1633) (z1634) (z1635) (k1636) (b1637) (k1638) (z1639) (z1640) (z1641) (z1642) (z1643) (k1644) (0) (0) (l1652) (z1653) (l1645) (l1646) (l1647) (l1648) (l1649) (l1650) ([]) ([]))
                      )
                   | _ => .fail
               )
               (fun _ => .fail) -- none
            )
            (fun h0 =>
            .auto 2 <|
            .ret (A13.a0 (z1561) (z1562) (k1563) (k1564) (k1565) (b1566) (z1567) (z1568) (z1569) (z1570) (z1571) (z1572) (z1573) (z1574) (z1575) (z1576) (z1577) (z1578) (z1579) (z1580) (z1581) (k1582) (b1583) (0) (0) (0) (0) (0) (0) (0) (0) (0) (l1559) (z1560) (l1584) (l1585) (l1586) (l1587) ([]) ([]) ([]) ([]))
            )
noncomputable def F13 (l38 : List (List V)) (z39 : Int) : Option A13 := (D13 l38 z39).ev some
theorem F13_ok (l38 : List (List V)) (z39 : Int) : ∀ b, F13 l38 z39 = some b → UU 13 ([V.ptr 0 0 0]) ([Ob.cells true false 2 [[V.list 1 l38, i64 z39]]]) = some (A13.out b) :=
  fn_ok (E := E13) (L := notIn []) rfl rfl (fun x => by kernel_rfl)
/-! ## F229 -/
noncomputable def D229 (z2498 : Int) (z2499 : Int) (z2500 : Int) : PT (Bool) :=
  .test (z2498 ≥ z2499)
   (fun h0 =>
   .auto 3 <|
   .ret (decide (z2498 ≤ z2500))
   )
   (fun h0 =>
   .auto 3 <|
   .ret (false)
   )
@[reducible] def O229 (b2501 : Bool) : V × Store := (vb b2501, [])
noncomputable def F229 (z2498 : Int) (z2499 : Int) (z2500 : Int) : Bool := (D229 z2498 z2499 z2500).evT
theorem F229_ok (z2498 : Int) (z2499 : Int) (z2500 : Int) : UU 229 ([i64 z2498, i64 z2499, i64 z2500]) ([]) = some (O229 (F229 z2498 z2499 z2500)) :=
  fnT_ok (out := O229) (L := notIn []) rfl rfl (fun x => by kernel_rfl) (by simp [D229, PT.isT])
/-! ## F179 -/
noncomputable def D179 (z2494 : Int) (z2495 : Int) (z2496 : Int) (z2497 : Int) : PT (Bool) :=
  .auto 1 <|
  .tot O229 (F229_ok (z2494) (0) (65536)) fun b2502 =>
  .testB (b2502)
   (fun h0 =>
   .auto 4 <|
   .tot O229 (F229_ok (z2496) (0) (65536)) fun b2503 =>
   .auto 1 <|
   .testB (b2503)
    (fun h1 =>
    .auto 4 <|
    .tot O229 (F229_ok (z2495) (-131072) (196608)) fun b2504 =>
    .auto 1 <|
    .testB (b2504)
     (fun h2 =>
     .auto 4 <|
     .tot O229 (F229_ok (z2497) (-131072) (196608)) fun b2505 =>
     .auto 1 <|
     .ret (b2505)
     )
     (fun h2 =>
     .auto 4 <|
     .ret (false)
     )
    )
    (fun h1 =>
    .auto 9 <|
    .ret (false)
    )
   )
   (fun h0 =>
   .auto 14 <|
   .ret (false)
   )
@[reducible] def O179 (b2506 : Bool) : V × Store := (vb b2506, [])
noncomputable def F179 (z2494 : Int) (z2495 : Int) (z2496 : Int) (z2497 : Int) : Bool := (D179 z2494 z2495 z2496 z2497).evT
theorem F179_ok (z2494 : Int) (z2495 : Int) (z2496 : Int) (z2497 : Int) : UU 179 ([V.agg [i64 z2494, i64 z2495, i64 z2496, i64 z2497]]) ([]) = some (O179 (F179 z2494 z2495 z2496 z2497)) :=
  fnT_ok (out := O179) (L := notIn []) rfl rfl (fun x => by kernel_rfl) (by simp [D179, PT.isT])
/-! ## F114 -/
noncomputable abbrev B114 : Code := (Tryz.f114.body).getD .skip
inductive N114_r1 where
  | e0 (z2481 : Int) (b2482 : Bool) (z2483 : Int) (z2484 : Int) (z2485 : Int) (z2486 : Int)
@[reducible] def N114_r1.out : N114_r1 → VX × S
  | .e0 z2481 b2482 z2483 z2484 z2485 z2486 => (VX.normal, { T := U :: U :: U :: i64 z2481 :: un 5 (V.ptr 0 0 0 :: U :: vb b2482 :: un 31 []), σ := [Ob.cells true false 4 [[i64 z2483, i64 z2484, i64 z2485, i64 z2486]]] })
def N114_r1.ex (g : N114_r1 → Prop) : Prop := (∃ (z2481 : Int) (b2482 : Bool) (z2483 : Int) (z2484 : Int) (z2485 : Int) (z2486 : Int), g (.e0 z2481 b2482 z2483 z2484 z2485 z2486))
theorem N114_r1.ok (g : N114_r1 → Prop) : N114_r1.ex g ↔ ∃ b, g b := ⟨fun h => match h with
  | ⟨_, _, _, _, _, _, h⟩ => ⟨_, h⟩, fun ⟨b, h⟩ => match b, h with
  | .e0 _ _ _ _ _ _, h => ⟨_, _, _, _, _, _, h⟩⟩
abbrev E114_r1 : Ent (VX × S) := ⟨N114_r1, N114_r1.out, N114_r1.ex, N114_r1.ok⟩
noncomputable def D114_r1 (z2468 : Int) (z2469 : Int) (z2470 : Int) (z2471 : Int) (z2472 : Int) (z2473 : Int) (z2474 : Int) (z2475 : Int) : PT N114_r1 :=
  .test (z2470 < -1073741824)
   (fun h0 =>
   .auto 7 <|
   .ret (N114_r1.e0 (z2471) (true) (z2472) (z2473) (z2474) (z2475))
   )
   (fun h0 =>
   .auto 2 <|
   .test (z2470 > 1073741824)
    (fun h1 =>
    .auto 4 <|
    .ret (N114_r1.e0 (z2471) (true) (z2472) (z2473) (z2474) (z2475))
    )
    (fun h1 =>
    .auto 2 <|
    .test (z2468 > 0)
     (fun h2 =>
     .auto 5 <|
     .ret (N114_r1.e0 (z2471) (decide (z2470 ≤ z2469)) (z2472) (z2473) (z2474) (z2475))
     )
     (fun h2 =>
     .auto 5 <|
     .ret (N114_r1.e0 (z2471) (false) (z2472) (z2473) (z2474) (z2475))
     )
    )
   )
noncomputable def J114_r1 (z2468 : Int) (z2469 : Int) (z2470 : Int) (z2471 : Int) (z2472 : Int) (z2473 : Int) (z2474 : Int) (z2475 : Int) : Option N114_r1 := (D114_r1 z2468 z2469 z2470 z2471 z2472 z2473 z2474 z2475).ev some
theorem J114_r1_ok (z2468 : Int) (z2469 : Int) (z2470 : Int) (z2471 : Int) (z2472 : Int) (z2473 : Int) (z2474 : Int) (z2475 : Int) : ∀ b, J114_r1 z2468 z2469 z2470 z2471 z2472 z2473 z2474 z2475 = some b → regP Tryz.prog X CC 114 (0) B114 1 ({ T := i64 z2468 :: i64 z2469 :: i64 z2470 :: i64 z2471 :: un 5 (V.ptr 0 0 0 :: un 33 []), σ := [Ob.cells true false 4 [[i64 z2472, i64 z2473, i64 z2474, i64 z2475]]] }) = some (E114_r1.out b) :=
  reg_ok (E := E114_r1) (fun x => by kernel_rfl)
noncomputable def D114 (z2460 : Int) (z2461 : Int) (z2462 : Int) (z2463 : Int) (z2464 : Int) (z2465 : Int) (z2466 : Int) (z2467 : Int) : PT A114 :=
  .cut E114_r1 (J114_r1_ok (z2460) (z2461) (z2462) (z2463) (z2464) (z2465) (z2466) (z2467)) fun (r : N114_r1) => match r with
  | .e0 z2508 b2509 z2510 z2511 z2512 z2513 =>
   .testB (b2509)
    (fun h0 =>
    .ret (A114.a0 (false))
    )
    (fun h0 =>
    .testB (z2508 == 2)
     (fun h1 =>
     .auto 1 <|
     .tot O179 (F179_ok (z2510) (z2511) (z2512) (z2513)) fun b2514 =>
     .ret (A114.a0 (b2514))
     )
     (fun h1 =>
     .testB (z2508 == 0)
      (fun h2 =>
      .auto 7 <|
      .ret (A114.a0 (z2510 == 0 && (z2511 == 0 && (z2512 == 0 && (z2513 == 0 && true)))))
      )
      (fun h2 =>
      .auto 2 <|
      .testB (z2508 == 1)
       (fun h3 =>
       .auto 4 <|
       .ret (A114.a0 (z2510 == 0 && (z2511 == 0 && (z2512 == 0 && (z2513 == 0 && true)))))
       )
       (fun h3 =>
       .auto 3 <|
       .ret (A114.a0 (false))
       )
      )
     )
    )
noncomputable def F114 (z2460 : Int) (z2461 : Int) (z2462 : Int) (z2463 : Int) (z2464 : Int) (z2465 : Int) (z2466 : Int) (z2467 : Int) : Option A114 := (D114 z2460 z2461 z2462 z2463 z2464 z2465 z2466 z2467).ev some
theorem F114_ok (z2460 : Int) (z2461 : Int) (z2462 : Int) (z2463 : Int) (z2464 : Int) (z2465 : Int) (z2466 : Int) (z2467 : Int) : ∀ b, F114 z2460 z2461 z2462 z2463 z2464 z2465 z2466 z2467 = some b → UU 114 ([i64 z2460, i64 z2461, i64 z2462, i64 z2463, V.agg [i64 z2464, i64 z2465, i64 z2466, i64 z2467]]) ([]) = some (A114.out b) :=
  fn_ok (E := E114) (L := notIn []) rfl rfl (fun x => by kernel_rfl)
/-! ## F146 -/
noncomputable def D146 (b2516 : Bool) (l2517 : List (List V)) : PT (Bool) :=
  .auto 1 <|
  .ret ((↑(List.length l2517) : Int) == 0)
@[reducible] def O146 (b2518 : Bool) : V × Store := (vb b2518, [])
noncomputable def F146 (b2516 : Bool) (l2517 : List (List V)) : Bool := (D146 b2516 l2517).evT
theorem F146_ok (b2516 : Bool) (l2517 : List (List V)) : UU 146 ([V.agg [vb b2516, V.list 2 l2517]]) ([]) = some (O146 (F146 b2516 l2517)) :=
  fnT_ok (out := O146) (L := notIn []) rfl rfl (fun x => by kernel_rfl) (by simp [D146, PT.isT])
/-! ## F228 -/
noncomputable def D228 (z2530 : Int) : PT (Bool) :=
  .test (z2530 ≥ -67108864)
   (fun h0 =>
   .auto 2 <|
   .ret (decide (z2530 ≤ 67108864))
   )
   (fun h0 =>
   .auto 2 <|
   .ret (false)
   )
@[reducible] def O228 (b2531 : Bool) : V × Store := (vb b2531, [])
noncomputable def F228 (z2530 : Int) : Bool := (D228 z2530).evT
theorem F228_ok (z2530 : Int) : UU 228 ([i64 z2530]) ([]) = some (O228 (F228 z2530)) :=
  fnT_ok (out := O228) (L := notIn []) rfl rfl (fun x => by kernel_rfl) (by simp [D228, PT.isT])
/-! ## F227 -/
noncomputable def D227 (z2528 : Int) (z2529 : Int) : PT (Bool) :=
  .auto 1 <|
  .tot O228 (F228_ok (z2528)) fun b2532 =>
  .testB (!b2532)
   (fun h0 =>
   .auto 4 <|
   .ret (true)
   )
   (fun h0 =>
   .auto 3 <|
   .tot O228 (F228_ok (z2529)) fun b2534 =>
   .auto 2 <|
   .ret (!b2534)
   )
@[reducible] def O227 (b2533 : Bool) : V × Store := (vb b2533, [])
noncomputable def F227 (z2528 : Int) (z2529 : Int) : Bool := (D227 z2528 z2529).evT
theorem F227_ok (z2528 : Int) (z2529 : Int) : UU 227 ([V.agg [i64 z2528, i64 z2529]]) ([]) = some (O227 (F227 z2528 z2529)) :=
  fnT_ok (out := O227) (L := notIn []) rfl rfl (fun x => by kernel_rfl) (by simp [D227, PT.isT])
/-! ## F262 -/
noncomputable abbrev B262 : Code := (Tryz.f262.body).getD .skip
inductive N262_0 where
  | s0 (l2536 : List (List V)) (z2537 : Int) (z2538 : Int)
  | e0 (z2542 : Int)
  | e1
@[reducible] def N262_0.out : N262_0 → VX × S
  | .s0 l2536 z2537 z2538 => (VX.normal, { T := V.list 2 l2536 :: V.fn 227 [] :: un 5 (i64 z2537 :: i64 z2538 :: un 10 []), σ := [] })
  | .e0 z2542 => (VX.ret, { T := un 4 (i64 z2542 :: un 14 []), σ := [] })
  | .e1 => (VX.exit 0, { T := un 19 [], σ := [] })
def N262_0.ex (g : N262_0 → Prop) : Prop := (∃ (l2536 : List (List V)) (z2537 : Int) (z2538 : Int), g (.s0 l2536 z2537 z2538)) ∨ (∃ (z2542 : Int), g (.e0 z2542)) ∨ g .e1
theorem N262_0.ok (g : N262_0 → Prop) : N262_0.ex g ↔ ∃ b, g b := ⟨fun h => match h with
  | .inl ⟨_, _, _, h⟩ => ⟨_, h⟩
  | .inr (.inl ⟨_, h⟩) => ⟨_, h⟩
  | .inr (.inr (h)) => ⟨_, h⟩, fun ⟨b, h⟩ => match b, h with
  | .s0 _ _ _, h => .inl ⟨_, _, _, h⟩
  | .e0 _, h => .inr (.inl ⟨_, h⟩)
  | .e1, h => .inr (.inr (h))⟩
abbrev E262_0 : Ent (VX × S) := ⟨N262_0, N262_0.out, N262_0.ex, N262_0.ok⟩
noncomputable def D262_0 (l2536 : List (List V)) (z2537 : Int) (z2538 : Int) : PT N262_0 :=
  .test (z2538 < z2537)
   (fun h0 =>
   .test (0 ≤ z2538)
    (fun h1 =>
    .look RW28 (l2536[Int.toNat z2538]?) fun e2544 =>
    .tot O227 (F227_ok (e2544.c0) (e2544.c1)) fun b2545 =>
    .testB (b2545)
     (fun h2 =>
     .ret (N262_0.e0 (z2538))
     )
     (fun h2 =>
     .ret (N262_0.s0 (l2536) (z2537) (w64 (z2538 + 1)))
     )
    )
    (fun _ => .fail) -- none
   )
   (fun h0 =>
   .ret (N262_0.e1)
   )
noncomputable def S262_0 : N262_0 → PT N262_0
  | .s0 l2536 z2537 z2538 => D262_0 l2536 z2537 z2538
  | _ => .fail
def N262_0.off : N262_0 → Bool
  | .s0 _ _ _ => false
  | _ => true
noncomputable def L262_0 (n : Nat) (b : N262_0) : Option N262_0 := PT.loop (S262_0) N262_0.off n b
theorem L262_0_ok : ∀ (n : Nat) (b : N262_0), N262_0.off b = false → ∀ c, L262_0 n b = some c → loopP Tryz.prog X CC 262 (0) 18446744073709551616 B262 0 n (E262_0.out b).2 = some (E262_0.out c) :=
  loop_ok (E := E262_0) (step := S262_0) (L := notIn []) (fun b hb => by cases b <;> first | (cases hb; done) | (intro x; kernel_rfl)) (fun b => by cases b <;> rfl)
noncomputable def N262_0.nx (n : Nat) (c : N262_0) : Option N262_0 := match N262_0.off c with
  | true => some c
  | false => L262_0 n c
theorem L262_0_s0 (n : Nat) (l2536 : List (List V)) (z2537 : Int) (z2538 : Int) : L262_0 (n + 1) (.s0 l2536 z2537 z2538) = (D262_0 l2536 z2537 z2538).ev (N262_0.nx n) := rfl
theorem N262_0.nx_s0 (n : Nat) (l2536 : List (List V)) (z2537 : Int) (z2538 : Int) : N262_0.nx n (.s0 l2536 z2537 z2538) = L262_0 n (.s0 l2536 z2537 z2538) := rfl
theorem N262_0.nx_e0 (n : Nat) (z2542 : Int) : N262_0.nx n (.e0 z2542) = some (.e0 z2542) := rfl
theorem N262_0.nx_e1 (n : Nat) : N262_0.nx n (.e1) = some (.e1) := rfl
noncomputable def D262 (l2524 : List (List V)) : PT A262 :=
  .cut E262_0 (L262_0_ok 18446744073709551616 (.s0 (l2524) ((↑(List.length l2524) : Int)) (0)) rfl) fun (r : N262_0) => match r with
  | .e0 z2546 =>
   .ret (A262.a0 (z2546))
  | .e1 =>
   .ret (A262.a0 (-1))
  | _ => .fail
noncomputable def F262 (l2524 : List (List V)) : Option A262 := (D262 l2524).ev some
theorem F262_ok (l2524 : List (List V)) : ∀ b, F262 l2524 = some b → UU 262 ([V.list 2 l2524, V.fn 227 []]) ([]) = some (A262.out b) :=
  fn_ok (E := E262) (L := notIn []) rfl rfl (fun x => by kernel_rfl)
/-! ## F226 -/
noncomputable def D226 (l2523 : List (List V)) : PT A226 :=
  .ask E262 (F262_ok (l2523)) fun (r : A262) => match r with
  | .a0 z2547 =>
   .ret (A226.a0 (decide (z2547 ≥ 0)))
noncomputable def F226 (l2523 : List (List V)) : Option A226 := (D226 l2523).ev some
theorem F226_ok (l2523 : List (List V)) : ∀ b, F226 l2523 = some b → UU 226 ([V.list 2 l2523, V.fn 227 []]) ([]) = some (A226.out b) :=
  fn_ok (E := E226) (L := notIn []) rfl rfl (fun x => by kernel_rfl)
/-! ## F177 -/
noncomputable def D177 (b2520 : Bool) (l2521 : List (List V)) : PT A177 :=
  .auto 1 <|
  .testB ((↑(List.length l2521) : Int) == 0)
   (fun h0 =>
   .auto 1 <|
   .ret (A177.a0 (!b2520))
   )
   (fun h0 =>
   .test ((↑(List.length l2521) : Int) ≥ 4)
    (fun h1 =>
    .auto 2 <|
    .test ((↑(List.length l2521) : Int) ≤ 97)
     (fun h2 =>
     .auto 4 <|
     .testB (Int.tmod (↑(List.length l2521) : Int) 3 == 1)
      (fun h3 =>
      .auto 3 <|
      .ask E226 (F226_ok (l2521)) fun (r : A226) => match r with
      | .a0 b2549 =>
       .auto 2 <|
       .ret (A177.a0 (!b2549))
      )
      (fun h3 =>
      .auto 4 <|
      .ret (A177.a0 (false))
      )
     )
     (fun h2 =>
     .auto 8 <|
     .ret (A177.a0 (false))
     )
    )
    (fun h1 =>
    .auto 11 <|
    .ret (A177.a0 (false))
    )
   )
noncomputable def F177 (b2520 : Bool) (l2521 : List (List V)) : Option A177 := (D177 b2520 l2521).ev some
theorem F177_ok (b2520 : Bool) (l2521 : List (List V)) : ∀ b, F177 b2520 l2521 = some b → UU 177 ([V.agg [vb b2520, V.list 2 l2521]]) ([]) = some (A177.out b) :=
  fn_ok (E := E177) (L := notIn []) rfl rfl (fun x => by kernel_rfl)
/-! ## F178 -/
noncomputable def D178 (b2552 : Bool) (l2553 : List (List V)) (b2554 : Bool) (l2555 : List (List V)) : PT (Bool) :=
  .auto 2 <|
  .testB ((↑(List.length l2553) : Int) == (↑(List.length l2555) : Int))
   (fun h0 =>
   .auto 7 <|
   .ret (b2552 == b2554)
   )
   (fun h0 =>
   .auto 5 <|
   .ret (false)
   )
@[reducible] def O178 (b2556 : Bool) : V × Store := (vb b2556, [])
noncomputable def F178 (b2552 : Bool) (l2553 : List (List V)) (b2554 : Bool) (l2555 : List (List V)) : Bool := (D178 b2552 l2553 b2554 l2555).evT
theorem F178_ok (b2552 : Bool) (l2553 : List (List V)) (b2554 : Bool) (l2555 : List (List V)) : UU 178 ([V.agg [vb b2552, V.list 2 l2553], V.agg [vb b2554, V.list 2 l2555]]) ([]) = some (O178 (F178 b2552 l2553 b2554 l2555)) :=
  fnT_ok (out := O178) (L := notIn []) rfl rfl (fun x => by kernel_rfl) (by simp [D178, PT.isT])
/-! ## F112 -/
noncomputable abbrev B112 : Code := (Tryz.f112.body).getD .skip
inductive N112_0 where
  | s0 (l2558 : List (List V)) (z2559 : Int) (z2560 : Int) (z2561 : Int)
  | e0
  | e1 (l2562 : List (List V))
@[reducible] def N112_0.out : N112_0 → VX × S
  | .s0 l2558 z2559 z2560 z2561 => (VX.normal, { T := V.list 8 l2558 :: U :: U :: i64 z2559 :: U :: U :: V.list 8 l2558 :: i64 z2560 :: i64 z2561 :: un 41 [], σ := [] })
  | .e0 => (VX.ret, { T := U :: U :: vb false :: un 47 [], σ := [] })
  | .e1 l2562 => (VX.exit 0, { T := V.list 8 l2562 :: un 49 [], σ := [] })
def N112_0.ex (g : N112_0 → Prop) : Prop := (∃ (l2558 : List (List V)) (z2559 : Int) (z2560 : Int) (z2561 : Int), g (.s0 l2558 z2559 z2560 z2561)) ∨ g .e0 ∨ (∃ (l2562 : List (List V)), g (.e1 l2562))
theorem N112_0.ok (g : N112_0 → Prop) : N112_0.ex g ↔ ∃ b, g b := ⟨fun h => match h with
  | .inl ⟨_, _, _, _, h⟩ => ⟨_, h⟩
  | .inr (.inl h) => ⟨_, h⟩
  | .inr (.inr (⟨_, h⟩)) => ⟨_, h⟩, fun ⟨b, h⟩ => match b, h with
  | .s0 _ _ _ _, h => .inl ⟨_, _, _, _, h⟩
  | .e0, h => .inr (.inl h)
  | .e1 _, h => .inr (.inr (⟨_, h⟩))⟩
abbrev E112_0 : Ent (VX × S) := ⟨N112_0, N112_0.out, N112_0.ex, N112_0.ok⟩
noncomputable def D112_0 (l2558 : List (List V)) (z2559 : Int) (z2560 : Int) (z2561 : Int) : PT N112_0 :=
  .test (z2561 < z2560)
   (fun h0 =>
   .test (0 ≤ z2561)
    (fun h1 =>
    .look RW100 (l2558[Int.toNat z2561]?) fun e2565 =>
    .auto 4 <|
    .ask E114 (F114_ok (z2561) (z2559) (e2565.c0) (e2565.c3) (e2565.c4) (e2565.c5) (e2565.c6) (e2565.c7)) fun (r : A114) => match r with
    | .a0 b2566 =>
     .testB (!b2566)
      (fun h2 =>
      .auto 18 <|
      .ret (N112_0.e0)
      )
      (fun h2 =>
      .auto 3 <|
      .tot O146 (F146_ok (e2565.c1) (e2565.c2)) fun b2567 =>
      .auto 1 <|
      .testB (b2567)
       (fun h3 =>
       .auto 14 <|
       .ret (N112_0.e0)
       )
       (fun h3 =>
       .auto 3 <|
       .ask E177 (F177_ok (e2565.c1) (e2565.c2)) fun (r : A177) => match r with
       | .a0 b2568 =>
        .auto 2 <|
        .testB (!b2568)
         (fun h4 =>
         .auto 9 <|
         .ret (N112_0.e0)
         )
         (fun h4 =>
         .auto 5 <|
         .look RW100 (l2558[(0 : Nat)]?) fun e2569 =>
         .auto 3 <|
         .tot O178 (F178_ok (e2565.c1) (e2565.c2) (e2569.c1) (e2569.c2)) fun b2570 =>
         .auto 2 <|
         .testB (!b2570)
          (fun h5 =>
          .ret (N112_0.e0)
          )
          (fun h5 =>
          .auto 1 <|
          .ret (N112_0.s0 (l2558) (e2565.c0) (z2560) (w64 (z2561 + 1)))
          )
         )
       )
      )
    )
    (fun _ => .fail) -- none
   )
   (fun h0 =>
   .ret (N112_0.e1 (l2558))
   )
noncomputable def S112_0 : N112_0 → PT N112_0
  | .s0 l2558 z2559 z2560 z2561 => D112_0 l2558 z2559 z2560 z2561
  | _ => .fail
def N112_0.off : N112_0 → Bool
  | .s0 _ _ _ _ => false
  | _ => true
noncomputable def L112_0 (n : Nat) (b : N112_0) : Option N112_0 := PT.loop (S112_0) N112_0.off n b
theorem L112_0_ok : ∀ (n : Nat) (b : N112_0), N112_0.off b = false → ∀ c, L112_0 n b = some c → loopP Tryz.prog X CC 112 (0) 18446744073709551616 B112 0 n (E112_0.out b).2 = some (E112_0.out c) :=
  loop_ok (E := E112_0) (step := S112_0) (L := notIn []) (fun b hb => by cases b <;> first | (cases hb; done) | (intro x; kernel_rfl)) (fun b => by cases b <;> rfl)
noncomputable def N112_0.nx (n : Nat) (c : N112_0) : Option N112_0 := match N112_0.off c with
  | true => some c
  | false => L112_0 n c
theorem L112_0_s0 (n : Nat) (l2558 : List (List V)) (z2559 : Int) (z2560 : Int) (z2561 : Int) : L112_0 (n + 1) (.s0 l2558 z2559 z2560 z2561) = (D112_0 l2558 z2559 z2560 z2561).ev (N112_0.nx n) := rfl
theorem N112_0.nx_s0 (n : Nat) (l2558 : List (List V)) (z2559 : Int) (z2560 : Int) (z2561 : Int) : N112_0.nx n (.s0 l2558 z2559 z2560 z2561) = L112_0 n (.s0 l2558 z2559 z2560 z2561) := rfl
theorem N112_0.nx_e0 (n : Nat) : N112_0.nx n (.e0) = some (.e0) := rfl
theorem N112_0.nx_e1 (n : Nat) (l2562 : List (List V)) : N112_0.nx n (.e1 l2562) = some (.e1 l2562) := rfl
noncomputable def D112 (l2456 : List (List V)) : PT A112 :=
  .cut E112_0 (L112_0_ok 18446744073709551616 (.s0 (l2456) (0) ((↑(List.length l2456) : Int)) (0)) rfl) fun (r : N112_0) => match r with
  | .e0 =>
   .ret (A112.a0 (false))
  | .e1 l2571 =>
   .ret (A112.a0 (decide ((↑(List.length l2571) : Int) ≤ 32)))
  | _ => .fail
noncomputable def F112 (l2456 : List (List V)) : Option A112 := (D112 l2456).ev some
theorem F112_ok (l2456 : List (List V)) : ∀ b, F112 l2456 = some b → UU 112 ([V.list 8 l2456]) ([]) = some (A112.out b) :=
  fn_ok (E := E112) (L := notIn []) rfl rfl (fun x => by kernel_rfl)
/-! ## F56 -/
noncomputable abbrev B56 : Code := (Tryz.f56.body).getD .skip
inductive N56_0 where
  | s0 (l2647 : List (List V)) (z2648 : Int) (z2649 : Int) (z2650 : Int)
  | e0
  | e1 (l2651 : List (List V))
@[reducible] def N56_0.out : N56_0 → VX × S
  | .s0 l2647 z2648 z2649 z2650 => (VX.normal, { T := V.list 7 l2647 :: U :: U :: i64 z2648 :: U :: U :: V.list 7 l2647 :: i64 z2649 :: i64 z2650 :: un 30 [], σ := [] })
  | .e0 => (VX.ret, { T := U :: U :: vb false :: un 36 [], σ := [] })
  | .e1 l2651 => (VX.exit 0, { T := V.list 7 l2651 :: un 38 [], σ := [] })
def N56_0.ex (g : N56_0 → Prop) : Prop := (∃ (l2647 : List (List V)) (z2648 : Int) (z2649 : Int) (z2650 : Int), g (.s0 l2647 z2648 z2649 z2650)) ∨ g .e0 ∨ (∃ (l2651 : List (List V)), g (.e1 l2651))
theorem N56_0.ok (g : N56_0 → Prop) : N56_0.ex g ↔ ∃ b, g b := ⟨fun h => match h with
  | .inl ⟨_, _, _, _, h⟩ => ⟨_, h⟩
  | .inr (.inl h) => ⟨_, h⟩
  | .inr (.inr (⟨_, h⟩)) => ⟨_, h⟩, fun ⟨b, h⟩ => match b, h with
  | .s0 _ _ _ _, h => .inl ⟨_, _, _, _, h⟩
  | .e0, h => .inr (.inl h)
  | .e1 _, h => .inr (.inr (⟨_, h⟩))⟩
abbrev E56_0 : Ent (VX × S) := ⟨N56_0, N56_0.out, N56_0.ex, N56_0.ok⟩
noncomputable def D56_0 (l2647 : List (List V)) (z2648 : Int) (z2649 : Int) (z2650 : Int) : PT N56_0 :=
  .test (z2650 < z2649)
   (fun h0 =>
   .test (0 ≤ z2650)
    (fun h1 =>
    .look RW74 (l2647[Int.toNat z2650]?) fun e2654 =>
    .auto 4 <|
    .ask E114 (F114_ok (z2650) (z2648) (e2654.c0) (e2654.c2) (e2654.c3) (e2654.c4) (e2654.c5) (e2654.c6)) fun (r : A114) => match r with
    | .a0 b2655 =>
     .testB (!b2655)
      (fun h2 =>
      .auto 8 <|
      .ret (N56_0.e0)
      )
      (fun h2 =>
      .auto 4 <|
      .test (e2654.c1 < -67108864)
       (fun h3 =>
       .auto 4 <|
       .ret (N56_0.e0)
       )
       (fun h3 =>
       .auto 4 <|
       .test (e2654.c1 > 67108864)
        (fun h4 =>
        .ret (N56_0.e0)
        )
        (fun h4 =>
        .auto 1 <|
        .ret (N56_0.s0 (l2647) (e2654.c0) (z2649) (w64 (z2650 + 1)))
        )
       )
      )
    )
    (fun _ => .fail) -- none
   )
   (fun h0 =>
   .ret (N56_0.e1 (l2647))
   )
noncomputable def S56_0 : N56_0 → PT N56_0
  | .s0 l2647 z2648 z2649 z2650 => D56_0 l2647 z2648 z2649 z2650
  | _ => .fail
def N56_0.off : N56_0 → Bool
  | .s0 _ _ _ _ => false
  | _ => true
noncomputable def L56_0 (n : Nat) (b : N56_0) : Option N56_0 := PT.loop (S56_0) N56_0.off n b
theorem L56_0_ok : ∀ (n : Nat) (b : N56_0), N56_0.off b = false → ∀ c, L56_0 n b = some c → loopP Tryz.prog X CC 56 (0) 18446744073709551616 B56 0 n (E56_0.out b).2 = some (E56_0.out c) :=
  loop_ok (E := E56_0) (step := S56_0) (L := notIn []) (fun b hb => by cases b <;> first | (cases hb; done) | (intro x; kernel_rfl)) (fun b => by cases b <;> rfl)
noncomputable def N56_0.nx (n : Nat) (c : N56_0) : Option N56_0 := match N56_0.off c with
  | true => some c
  | false => L56_0 n c
theorem L56_0_s0 (n : Nat) (l2647 : List (List V)) (z2648 : Int) (z2649 : Int) (z2650 : Int) : L56_0 (n + 1) (.s0 l2647 z2648 z2649 z2650) = (D56_0 l2647 z2648 z2649 z2650).ev (N56_0.nx n) := rfl
theorem N56_0.nx_s0 (n : Nat) (l2647 : List (List V)) (z2648 : Int) (z2649 : Int) (z2650 : Int) : N56_0.nx n (.s0 l2647 z2648 z2649 z2650) = L56_0 n (.s0 l2647 z2648 z2649 z2650) := rfl
theorem N56_0.nx_e0 (n : Nat) : N56_0.nx n (.e0) = some (.e0) := rfl
theorem N56_0.nx_e1 (n : Nat) (l2651 : List (List V)) : N56_0.nx n (.e1 l2651) = some (.e1 l2651) := rfl
noncomputable def D56 (l2642 : List (List V)) : PT A56 :=
  .cut E56_0 (L56_0_ok 18446744073709551616 (.s0 (l2642) (0) ((↑(List.length l2642) : Int)) (0)) rfl) fun (r : N56_0) => match r with
  | .e0 =>
   .ret (A56.a0 (false))
  | .e1 l2656 =>
   .ret (A56.a0 (decide ((↑(List.length l2656) : Int) ≤ 32)))
  | _ => .fail
noncomputable def F56 (l2642 : List (List V)) : Option A56 := (D56 l2642).ev some
theorem F56_ok (l2642 : List (List V)) : ∀ b, F56 l2642 = some b → UU 56 ([V.list 7 l2642]) ([]) = some (A56.out b) :=
  fn_ok (E := E56) (L := notIn []) rfl rfl (fun x => by kernel_rfl)
/-! ## F53 -/
noncomputable abbrev B53 : Code := (Tryz.f53.body).getD .skip
inductive N53_r7 where
  | e0 (b2573 : Bool)
@[reducible] def N53_r7.out : N53_r7 → VX × S
  | .e0 b2573 => (VX.normal, { T := U :: U :: vb b2573 :: un 64 [], σ := [] })
def N53_r7.ex (g : N53_r7 → Prop) : Prop := (∃ (b2573 : Bool), g (.e0 b2573))
theorem N53_r7.ok (g : N53_r7 → Prop) : N53_r7.ex g ↔ ∃ b, g b := ⟨fun h => match h with
  | ⟨_, h⟩ => ⟨_, h⟩, fun ⟨b, h⟩ => match b, h with
  | .e0 _, h => ⟨_, h⟩⟩
abbrev E53_r7 : Ent (VX × S) := ⟨N53_r7, N53_r7.out, N53_r7.ex, N53_r7.ok⟩
noncomputable def D53_r7 (z2424 : Int) (z2425 : Int) (l2426 : List (List V)) (l2427 : List (List V)) (l2428 : List (List V)) (b2429 : Bool) (z2430 : Int) (z2431 : Int) (z2432 : Int) (z2433 : Int) (z2434 : Int) (z2435 : Int) (z2436 : Int) (z2437 : Int) (z2438 : Int) (z2439 : Int) (z2440 : Int) (z2441 : Int) (z2442 : Int) (z2443 : Int) (z2444 : Int) (l2445 : List (List V)) (b2446 : Bool) (l2447 : List (List V)) (z2448 : Int) (z2449 : Int) (z2450 : Int) (z2451 : Int) (z2452 : Int) (l2453 : List (List V)) (l2454 : List (List V)) (l2455 : List (List V)) : PT N53_r7 :=
  .auto 1 <|
  .testB ((↑(List.length l2426) : Int) == 0)
   (fun h0 =>
   .auto 5 <|
   .testB ((↑(List.length l2427) : Int) == 0)
    (fun h1 =>
    .auto 3 <|
    .ask E112 (F112_ok (l2428)) fun (r : A112) => match r with
    | .a0 b2758 =>
     .auto 1 <|
     .ret (N53_r7.e0 (b2758))
    )
    (fun h1 =>
    .auto 3 <|
    .ret (N53_r7.e0 (false))
    )
   )
   (fun h0 =>
   .auto 8 <|
   .ret (N53_r7.e0 (false))
   )
noncomputable def J53_r7 (z2424 : Int) (z2425 : Int) (l2426 : List (List V)) (l2427 : List (List V)) (l2428 : List (List V)) (b2429 : Bool) (z2430 : Int) (z2431 : Int) (z2432 : Int) (z2433 : Int) (z2434 : Int) (z2435 : Int) (z2436 : Int) (z2437 : Int) (z2438 : Int) (z2439 : Int) (z2440 : Int) (z2441 : Int) (z2442 : Int) (z2443 : Int) (z2444 : Int) (l2445 : List (List V)) (b2446 : Bool) (l2447 : List (List V)) (z2448 : Int) (z2449 : Int) (z2450 : Int) (z2451 : Int) (z2452 : Int) (l2453 : List (List V)) (l2454 : List (List V)) (l2455 : List (List V)) : Option N53_r7 := (D53_r7 z2424 z2425 l2426 l2427 l2428 b2429 z2430 z2431 z2432 z2433 z2434 z2435 z2436 z2437 z2438 z2439 z2440 z2441 z2442 z2443 z2444 l2445 b2446 l2447 z2448 z2449 z2450 z2451 z2452 l2453 l2454 l2455).ev some
theorem J53_r7_ok (z2424 : Int) (z2425 : Int) (l2426 : List (List V)) (l2427 : List (List V)) (l2428 : List (List V)) (b2429 : Bool) (z2430 : Int) (z2431 : Int) (z2432 : Int) (z2433 : Int) (z2434 : Int) (z2435 : Int) (z2436 : Int) (z2437 : Int) (z2438 : Int) (z2439 : Int) (z2440 : Int) (z2441 : Int) (z2442 : Int) (z2443 : Int) (z2444 : Int) (l2445 : List (List V)) (b2446 : Bool) (l2447 : List (List V)) (z2448 : Int) (z2449 : Int) (z2450 : Int) (z2451 : Int) (z2452 : Int) (l2453 : List (List V)) (l2454 : List (List V)) (l2455 : List (List V)) : ∀ b, J53_r7 z2424 z2425 l2426 l2427 l2428 b2429 z2430 z2431 z2432 z2433 z2434 z2435 z2436 z2437 z2438 z2439 z2440 z2441 z2442 z2443 z2444 l2445 b2446 l2447 z2448 z2449 z2450 z2451 z2452 l2453 l2454 l2455 = some b → regP Tryz.prog X CC 53 (0) B53 7 ({ T := U :: V.ptr 0 0 0 :: un 65 [], σ := [Ob.cells true false 32 [[i64 z2424, i64 z2425, V.list 7 l2426, V.list 7 l2427, V.list 8 l2428, vb b2429, i64 z2430, i64 z2431, u8 z2432, u8 z2433, u8 z2434, u8 z2435, u8 z2436, u8 z2437, u8 z2438, u8 z2439, i64 z2440, i64 z2441, i64 z2442, i64 z2443, i64 z2444, V.list 10 l2445, vb b2446, V.list 7 l2447, u8 z2448, u8 z2449, u8 z2450, u8 z2451, i64 z2452, V.list 1 l2453, V.list 7 l2454, V.list 7 l2455]]] }) = some (E53_r7.out b) :=
  reg_ok (E := E53_r7) (fun x => by kernel_rfl)
inductive N53_r4 where
  | e0 (b2358 : Bool) (z2359 : Int) (z2360 : Int) (l2361 : List (List V)) (l2362 : List (List V)) (l2363 : List (List V)) (b2364 : Bool) (z2365 : Int) (z2366 : Int) (z2367 : Int) (z2368 : Int) (z2369 : Int) (z2370 : Int) (z2371 : Int) (z2372 : Int) (z2373 : Int) (z2374 : Int) (z2375 : Int) (z2376 : Int) (z2377 : Int) (z2378 : Int) (z2379 : Int) (l2380 : List (List V)) (b2381 : Bool) (l2382 : List (List V)) (z2383 : Int) (z2384 : Int) (z2385 : Int) (z2386 : Int) (z2387 : Int) (l2388 : List (List V)) (l2389 : List (List V)) (l2390 : List (List V))
@[reducible] def N53_r4.out : N53_r4 → VX × S
  | .e0 b2358 z2359 z2360 l2361 l2362 l2363 b2364 z2365 z2366 z2367 z2368 z2369 z2370 z2371 z2372 z2373 z2374 z2375 z2376 z2377 z2378 z2379 l2380 b2381 l2382 z2383 z2384 z2385 z2386 z2387 l2388 l2389 l2390 => (VX.normal, { T := U :: V.ptr 0 0 0 :: un 10 (vb b2358 :: un 54 []), σ := [Ob.cells true false 32 [[i64 z2359, i64 z2360, V.list 7 l2361, V.list 7 l2362, V.list 8 l2363, vb b2364, i64 z2365, i64 z2366, u8 z2367, u8 z2368, u8 z2369, u8 z2370, u8 z2371, u8 z2372, u8 z2373, u8 z2374, i64 z2375, i64 z2376, i64 z2377, i64 z2378, i64 z2379, V.list 10 l2380, vb b2381, V.list 7 l2382, u8 z2383, u8 z2384, u8 z2385, u8 z2386, i64 z2387, V.list 1 l2388, V.list 7 l2389, V.list 7 l2390]]] })
def N53_r4.ex (g : N53_r4 → Prop) : Prop := (∃ (b2358 : Bool) (z2359 : Int) (z2360 : Int) (l2361 : List (List V)) (l2362 : List (List V)) (l2363 : List (List V)) (b2364 : Bool) (z2365 : Int) (z2366 : Int) (z2367 : Int) (z2368 : Int) (z2369 : Int) (z2370 : Int) (z2371 : Int) (z2372 : Int) (z2373 : Int) (z2374 : Int) (z2375 : Int) (z2376 : Int) (z2377 : Int) (z2378 : Int) (z2379 : Int) (l2380 : List (List V)) (b2381 : Bool) (l2382 : List (List V)) (z2383 : Int) (z2384 : Int) (z2385 : Int) (z2386 : Int) (z2387 : Int) (l2388 : List (List V)) (l2389 : List (List V)) (l2390 : List (List V)), g (.e0 b2358 z2359 z2360 l2361 l2362 l2363 b2364 z2365 z2366 z2367 z2368 z2369 z2370 z2371 z2372 z2373 z2374 z2375 z2376 z2377 z2378 z2379 l2380 b2381 l2382 z2383 z2384 z2385 z2386 z2387 l2388 l2389 l2390))
theorem N53_r4.ok (g : N53_r4 → Prop) : N53_r4.ex g ↔ ∃ b, g b := ⟨fun h => match h with
  | ⟨_, _, _, _, _, _, _, _, _, _, _, _, _, _, _, _, _, _, _, _, _, _, _, _, _, _, _, _, _, _, _, _, _, h⟩ => ⟨_, h⟩, fun ⟨b, h⟩ => match b, h with
  | .e0 _ _ _ _ _ _ _ _ _ _ _ _ _ _ _ _ _ _ _ _ _ _ _ _ _ _ _ _ _ _ _ _ _, h => ⟨_, _, _, _, _, _, _, _, _, _, _, _, _, _, _, _, _, _, _, _, _, _, _, _, _, _, _, _, _, _, _, _, _, h⟩⟩
abbrev E53_r4 : Ent (VX × S) := ⟨N53_r4, N53_r4.out, N53_r4.ex, N53_r4.ok⟩
noncomputable def D53_r4 (z2326 : Int) (z2327 : Int) (l2328 : List (List V)) (l2329 : List (List V)) (l2330 : List (List V)) (b2331 : Bool) (z2332 : Int) (z2333 : Int) (z2334 : Int) (z2335 : Int) (z2336 : Int) (z2337 : Int) (z2338 : Int) (z2339 : Int) (z2340 : Int) (z2341 : Int) (z2342 : Int) (z2343 : Int) (z2344 : Int) (z2345 : Int) (z2346 : Int) (l2347 : List (List V)) (b2348 : Bool) (l2349 : List (List V)) (z2350 : Int) (z2351 : Int) (z2352 : Int) (z2353 : Int) (z2354 : Int) (l2355 : List (List V)) (l2356 : List (List V)) (l2357 : List (List V)) : PT N53_r4 :=
  .auto 1 <|
  .testB (z2326 != 2)
   (fun h0 =>
   .auto 4 <|
   .ret (N53_r4.e0 (z2327 != 0) (z2326) (z2327) (l2328) (l2329) (l2330) (b2331) (z2332) (z2333) (z2334) (z2335) (z2336) (z2337) (z2338) (z2339) (z2340) (z2341) (z2342) (z2343) (z2344) (z2345) (z2346) (l2347) (b2348) (l2349) (z2350) (z2351) (z2352) (z2353) (z2354) (l2355) (l2356) (l2357))
   )
   (fun h0 =>
   .auto 3 <|
   .ret (N53_r4.e0 (false) (z2326) (z2327) (l2328) (l2329) (l2330) (b2331) (z2332) (z2333) (z2334) (z2335) (z2336) (z2337) (z2338) (z2339) (z2340) (z2341) (z2342) (z2343) (z2344) (z2345) (z2346) (l2347) (b2348) (l2349) (z2350) (z2351) (z2352) (z2353) (z2354) (l2355) (l2356) (l2357))
   )
noncomputable def J53_r4 (z2326 : Int) (z2327 : Int) (l2328 : List (List V)) (l2329 : List (List V)) (l2330 : List (List V)) (b2331 : Bool) (z2332 : Int) (z2333 : Int) (z2334 : Int) (z2335 : Int) (z2336 : Int) (z2337 : Int) (z2338 : Int) (z2339 : Int) (z2340 : Int) (z2341 : Int) (z2342 : Int) (z2343 : Int) (z2344 : Int) (z2345 : Int) (z2346 : Int) (l2347 : List (List V)) (b2348 : Bool) (l2349 : List (List V)) (z2350 : Int) (z2351 : Int) (z2352 : Int) (z2353 : Int) (z2354 : Int) (l2355 : List (List V)) (l2356 : List (List V)) (l2357 : List (List V)) : Option N53_r4 := (D53_r4 z2326 z2327 l2328 l2329 l2330 b2331 z2332 z2333 z2334 z2335 z2336 z2337 z2338 z2339 z2340 z2341 z2342 z2343 z2344 z2345 z2346 l2347 b2348 l2349 z2350 z2351 z2352 z2353 z2354 l2355 l2356 l2357).ev some
theorem J53_r4_ok (z2326 : Int) (z2327 : Int) (l2328 : List (List V)) (l2329 : List (List V)) (l2330 : List (List V)) (b2331 : Bool) (z2332 : Int) (z2333 : Int) (z2334 : Int) (z2335 : Int) (z2336 : Int) (z2337 : Int) (z2338 : Int) (z2339 : Int) (z2340 : Int) (z2341 : Int) (z2342 : Int) (z2343 : Int) (z2344 : Int) (z2345 : Int) (z2346 : Int) (l2347 : List (List V)) (b2348 : Bool) (l2349 : List (List V)) (z2350 : Int) (z2351 : Int) (z2352 : Int) (z2353 : Int) (z2354 : Int) (l2355 : List (List V)) (l2356 : List (List V)) (l2357 : List (List V)) : ∀ b, J53_r4 z2326 z2327 l2328 l2329 l2330 b2331 z2332 z2333 z2334 z2335 z2336 z2337 z2338 z2339 z2340 z2341 z2342 z2343 z2344 z2345 z2346 l2347 b2348 l2349 z2350 z2351 z2352 z2353 z2354 l2355 l2356 l2357 = some b → regP Tryz.prog X CC 53 (0) B53 4 ({ T := U :: V.ptr 0 0 0 :: un 65 [], σ := [Ob.cells true false 32 [[i64 z2326, i64 z2327, V.list 7 l2328, V.list 7 l2329, V.list 8 l2330, vb b2331, i64 z2332, i64 z2333, u8 z2334, u8 z2335, u8 z2336, u8 z2337, u8 z2338, u8 z2339, u8 z2340, u8 z2341, i64 z2342, i64 z2343, i64 z2344, i64 z2345, i64 z2346, V.list 10 l2347, vb b2348, V.list 7 l2349, u8 z2350, u8 z2351, u8 z2352, u8 z2353, i64 z2354, V.list 1 l2355, V.list 7 l2356, V.list 7 l2357]]] }) = some (E53_r4.out b) :=
  reg_ok (E := E53_r4) (fun x => by kernel_rfl)
inductive N53_r3 where
  | e0 (b2260 : Bool) (z2261 : Int) (z2262 : Int) (l2263 : List (List V)) (l2264 : List (List V)) (l2265 : List (List V)) (b2266 : Bool) (z2267 : Int) (z2268 : Int) (z2269 : Int) (z2270 : Int) (z2271 : Int) (z2272 : Int) (z2273 : Int) (z2274 : Int) (z2275 : Int) (z2276 : Int) (z2277 : Int) (z2278 : Int) (z2279 : Int) (z2280 : Int) (z2281 : Int) (l2282 : List (List V)) (b2283 : Bool) (l2284 : List (List V)) (z2285 : Int) (z2286 : Int) (z2287 : Int) (z2288 : Int) (z2289 : Int) (l2290 : List (List V)) (l2291 : List (List V)) (l2292 : List (List V))
@[reducible] def N53_r3.out : N53_r3 → VX × S
  | .e0 b2260 z2261 z2262 l2263 l2264 l2265 b2266 z2267 z2268 z2269 z2270 z2271 z2272 z2273 z2274 z2275 z2276 z2277 z2278 z2279 z2280 z2281 l2282 b2283 l2284 z2285 z2286 z2287 z2288 z2289 l2290 l2291 l2292 => (VX.normal, { T := U :: V.ptr 0 0 0 :: un 10 (vb b2260 :: un 54 []), σ := [Ob.cells true false 32 [[i64 z2261, i64 z2262, V.list 7 l2263, V.list 7 l2264, V.list 8 l2265, vb b2266, i64 z2267, i64 z2268, u8 z2269, u8 z2270, u8 z2271, u8 z2272, u8 z2273, u8 z2274, u8 z2275, u8 z2276, i64 z2277, i64 z2278, i64 z2279, i64 z2280, i64 z2281, V.list 10 l2282, vb b2283, V.list 7 l2284, u8 z2285, u8 z2286, u8 z2287, u8 z2288, i64 z2289, V.list 1 l2290, V.list 7 l2291, V.list 7 l2292]]] })
def N53_r3.ex (g : N53_r3 → Prop) : Prop := (∃ (b2260 : Bool) (z2261 : Int) (z2262 : Int) (l2263 : List (List V)) (l2264 : List (List V)) (l2265 : List (List V)) (b2266 : Bool) (z2267 : Int) (z2268 : Int) (z2269 : Int) (z2270 : Int) (z2271 : Int) (z2272 : Int) (z2273 : Int) (z2274 : Int) (z2275 : Int) (z2276 : Int) (z2277 : Int) (z2278 : Int) (z2279 : Int) (z2280 : Int) (z2281 : Int) (l2282 : List (List V)) (b2283 : Bool) (l2284 : List (List V)) (z2285 : Int) (z2286 : Int) (z2287 : Int) (z2288 : Int) (z2289 : Int) (l2290 : List (List V)) (l2291 : List (List V)) (l2292 : List (List V)), g (.e0 b2260 z2261 z2262 l2263 l2264 l2265 b2266 z2267 z2268 z2269 z2270 z2271 z2272 z2273 z2274 z2275 z2276 z2277 z2278 z2279 z2280 z2281 l2282 b2283 l2284 z2285 z2286 z2287 z2288 z2289 l2290 l2291 l2292))
theorem N53_r3.ok (g : N53_r3 → Prop) : N53_r3.ex g ↔ ∃ b, g b := ⟨fun h => match h with
  | ⟨_, _, _, _, _, _, _, _, _, _, _, _, _, _, _, _, _, _, _, _, _, _, _, _, _, _, _, _, _, _, _, _, _, h⟩ => ⟨_, h⟩, fun ⟨b, h⟩ => match b, h with
  | .e0 _ _ _ _ _ _ _ _ _ _ _ _ _ _ _ _ _ _ _ _ _ _ _ _ _ _ _ _ _ _ _ _ _, h => ⟨_, _, _, _, _, _, _, _, _, _, _, _, _, _, _, _, _, _, _, _, _, _, _, _, _, _, _, _, _, _, _, _, _, h⟩⟩
abbrev E53_r3 : Ent (VX × S) := ⟨N53_r3, N53_r3.out, N53_r3.ex, N53_r3.ok⟩
noncomputable def D53_r3 (z2196 : Int) (z2197 : Int) (l2198 : List (List V)) (l2199 : List (List V)) (l2200 : List (List V)) (b2201 : Bool) (z2202 : Int) (z2203 : Int) (z2204 : Int) (z2205 : Int) (z2206 : Int) (z2207 : Int) (z2208 : Int) (z2209 : Int) (z2210 : Int) (z2211 : Int) (z2212 : Int) (z2213 : Int) (z2214 : Int) (z2215 : Int) (z2216 : Int) (l2217 : List (List V)) (b2218 : Bool) (l2219 : List (List V)) (z2220 : Int) (z2221 : Int) (z2222 : Int) (z2223 : Int) (z2224 : Int) (l2225 : List (List V)) (l2226 : List (List V)) (l2227 : List (List V)) : PT N53_r3 :=
  .auto 1 <|
  .testB (z2196 == 2)
   (fun h0 =>
   .auto 4 <|
   .test (z2197 < 2)
    (fun h1 =>
    .auto 5 <|
    .ret (N53_r3.e0 (true) (z2196) (z2197) (l2198) (l2199) (l2200) (b2201) (z2202) (z2203) (z2204) (z2205) (z2206) (z2207) (z2208) (z2209) (z2210) (z2211) (z2212) (z2213) (z2214) (z2215) (z2216) (l2217) (b2218) (l2219) (z2220) (z2221) (z2222) (z2223) (z2224) (l2225) (l2226) (l2227))
    )
    (fun h1 =>
    .auto 6 <|
    .ret (N53_r3.e0 (decide (z2197 > 16)) (z2196) (z2197) (l2198) (l2199) (l2200) (b2201) (z2202) (z2203) (z2204) (z2205) (z2206) (z2207) (z2208) (z2209) (z2210) (z2211) (z2212) (z2213) (z2214) (z2215) (z2216) (l2217) (b2218) (l2219) (z2220) (z2221) (z2222) (z2223) (z2224) (l2225) (l2226) (l2227))
    )
   )
   (fun h0 =>
   .auto 5 <|
   .ret (N53_r3.e0 (false) (z2196) (z2197) (l2198) (l2199) (l2200) (b2201) (z2202) (z2203) (z2204) (z2205) (z2206) (z2207) (z2208) (z2209) (z2210) (z2211) (z2212) (z2213) (z2214) (z2215) (z2216) (l2217) (b2218) (l2219) (z2220) (z2221) (z2222) (z2223) (z2224) (l2225) (l2226) (l2227))
   )
noncomputable def J53_r3 (z2196 : Int) (z2197 : Int) (l2198 : List (List V)) (l2199 : List (List V)) (l2200 : List (List V)) (b2201 : Bool) (z2202 : Int) (z2203 : Int) (z2204 : Int) (z2205 : Int) (z2206 : Int) (z2207 : Int) (z2208 : Int) (z2209 : Int) (z2210 : Int) (z2211 : Int) (z2212 : Int) (z2213 : Int) (z2214 : Int) (z2215 : Int) (z2216 : Int) (l2217 : List (List V)) (b2218 : Bool) (l2219 : List (List V)) (z2220 : Int) (z2221 : Int) (z2222 : Int) (z2223 : Int) (z2224 : Int) (l2225 : List (List V)) (l2226 : List (List V)) (l2227 : List (List V)) : Option N53_r3 := (D53_r3 z2196 z2197 l2198 l2199 l2200 b2201 z2202 z2203 z2204 z2205 z2206 z2207 z2208 z2209 z2210 z2211 z2212 z2213 z2214 z2215 z2216 l2217 b2218 l2219 z2220 z2221 z2222 z2223 z2224 l2225 l2226 l2227).ev some
theorem J53_r3_ok (z2196 : Int) (z2197 : Int) (l2198 : List (List V)) (l2199 : List (List V)) (l2200 : List (List V)) (b2201 : Bool) (z2202 : Int) (z2203 : Int) (z2204 : Int) (z2205 : Int) (z2206 : Int) (z2207 : Int) (z2208 : Int) (z2209 : Int) (z2210 : Int) (z2211 : Int) (z2212 : Int) (z2213 : Int) (z2214 : Int) (z2215 : Int) (z2216 : Int) (l2217 : List (List V)) (b2218 : Bool) (l2219 : List (List V)) (z2220 : Int) (z2221 : Int) (z2222 : Int) (z2223 : Int) (z2224 : Int) (l2225 : List (List V)) (l2226 : List (List V)) (l2227 : List (List V)) : ∀ b, J53_r3 z2196 z2197 l2198 l2199 l2200 b2201 z2202 z2203 z2204 z2205 z2206 z2207 z2208 z2209 z2210 z2211 z2212 z2213 z2214 z2215 z2216 l2217 b2218 l2219 z2220 z2221 z2222 z2223 z2224 l2225 l2226 l2227 = some b → regP Tryz.prog X CC 53 (0) B53 3 ({ T := U :: V.ptr 0 0 0 :: un 65 [], σ := [Ob.cells true false 32 [[i64 z2196, i64 z2197, V.list 7 l2198, V.list 7 l2199, V.list 8 l2200, vb b2201, i64 z2202, i64 z2203, u8 z2204, u8 z2205, u8 z2206, u8 z2207, u8 z2208, u8 z2209, u8 z2210, u8 z2211, i64 z2212, i64 z2213, i64 z2214, i64 z2215, i64 z2216, V.list 10 l2217, vb b2218, V.list 7 l2219, u8 z2220, u8 z2221, u8 z2222, u8 z2223, i64 z2224, V.list 1 l2225, V.list 7 l2226, V.list 7 l2227]]] }) = some (E53_r3.out b) :=
  reg_ok (E := E53_r3) (fun x => by kernel_rfl)
inductive N53_c3 where
  | e0 (b2575 : Bool)
  | e1 (z2576 : Int) (z2577 : Int) (l2578 : List (List V)) (l2579 : List (List V)) (l2580 : List (List V)) (b2581 : Bool) (z2582 : Int) (z2583 : Int) (z2584 : Int) (z2585 : Int) (z2586 : Int) (z2587 : Int) (z2588 : Int) (z2589 : Int) (z2590 : Int) (z2591 : Int) (z2592 : Int) (z2593 : Int) (z2594 : Int) (z2595 : Int) (z2596 : Int) (l2597 : List (List V)) (b2598 : Bool) (l2599 : List (List V)) (z2600 : Int) (z2601 : Int) (z2602 : Int) (z2603 : Int) (z2604 : Int) (l2605 : List (List V)) (l2606 : List (List V)) (l2607 : List (List V))
@[reducible] def N53_c3.out : N53_c3 → VX × S
  | .e0 b2575 => (VX.ret, { T := U :: U :: vb b2575 :: un 64 [], σ := [] })
  | .e1 z2576 z2577 l2578 l2579 l2580 b2581 z2582 z2583 z2584 z2585 z2586 z2587 z2588 z2589 z2590 z2591 z2592 z2593 z2594 z2595 z2596 l2597 b2598 l2599 z2600 z2601 z2602 z2603 z2604 l2605 l2606 l2607 => (VX.normal, { T := U :: V.ptr 0 0 0 :: un 65 [], σ := [Ob.cells true false 32 [[i64 z2576, i64 z2577, V.list 7 l2578, V.list 7 l2579, V.list 8 l2580, vb b2581, i64 z2582, i64 z2583, u8 z2584, u8 z2585, u8 z2586, u8 z2587, u8 z2588, u8 z2589, u8 z2590, u8 z2591, i64 z2592, i64 z2593, i64 z2594, i64 z2595, i64 z2596, V.list 10 l2597, vb b2598, V.list 7 l2599, u8 z2600, u8 z2601, u8 z2602, u8 z2603, i64 z2604, V.list 1 l2605, V.list 7 l2606, V.list 7 l2607]]] })
def N53_c3.ex (g : N53_c3 → Prop) : Prop := (∃ (b2575 : Bool), g (.e0 b2575)) ∨ (∃ (z2576 : Int) (z2577 : Int) (l2578 : List (List V)) (l2579 : List (List V)) (l2580 : List (List V)) (b2581 : Bool) (z2582 : Int) (z2583 : Int) (z2584 : Int) (z2585 : Int) (z2586 : Int) (z2587 : Int) (z2588 : Int) (z2589 : Int) (z2590 : Int) (z2591 : Int) (z2592 : Int) (z2593 : Int) (z2594 : Int) (z2595 : Int) (z2596 : Int) (l2597 : List (List V)) (b2598 : Bool) (l2599 : List (List V)) (z2600 : Int) (z2601 : Int) (z2602 : Int) (z2603 : Int) (z2604 : Int) (l2605 : List (List V)) (l2606 : List (List V)) (l2607 : List (List V)), g (.e1 z2576 z2577 l2578 l2579 l2580 b2581 z2582 z2583 z2584 z2585 z2586 z2587 z2588 z2589 z2590 z2591 z2592 z2593 z2594 z2595 z2596 l2597 b2598 l2599 z2600 z2601 z2602 z2603 z2604 l2605 l2606 l2607))
theorem N53_c3.ok (g : N53_c3 → Prop) : N53_c3.ex g ↔ ∃ b, g b := ⟨fun h => match h with
  | .inl ⟨_, h⟩ => ⟨_, h⟩
  | .inr (⟨_, _, _, _, _, _, _, _, _, _, _, _, _, _, _, _, _, _, _, _, _, _, _, _, _, _, _, _, _, _, _, _, h⟩) => ⟨_, h⟩, fun ⟨b, h⟩ => match b, h with
  | .e0 _, h => .inl ⟨_, h⟩
  | .e1 _ _ _ _ _ _ _ _ _ _ _ _ _ _ _ _ _ _ _ _ _ _ _ _ _ _ _ _ _ _ _ _, h => .inr (⟨_, _, _, _, _, _, _, _, _, _, _, _, _, _, _, _, _, _, _, _, _, _, _, _, _, _, _, _, _, _, _, _, h⟩)⟩
abbrev E53_c3 : Ent (VX × S) := ⟨N53_c3, N53_c3.out, N53_c3.ex, N53_c3.ok⟩
noncomputable def D53_c3 (b2163 : Bool) (z2164 : Int) (z2165 : Int) (l2166 : List (List V)) (l2167 : List (List V)) (l2168 : List (List V)) (b2169 : Bool) (z2170 : Int) (z2171 : Int) (z2172 : Int) (z2173 : Int) (z2174 : Int) (z2175 : Int) (z2176 : Int) (z2177 : Int) (z2178 : Int) (z2179 : Int) (z2180 : Int) (z2181 : Int) (z2182 : Int) (z2183 : Int) (z2184 : Int) (l2185 : List (List V)) (b2186 : Bool) (l2187 : List (List V)) (z2188 : Int) (z2189 : Int) (z2190 : Int) (z2191 : Int) (z2192 : Int) (l2193 : List (List V)) (l2194 : List (List V)) (l2195 : List (List V)) : PT N53_c3 :=
  .testB (b2163)
   (fun h0 =>
   .ret (N53_c3.e0 (false))
   )
   (fun h0 =>
   .cut E53_r3 (J53_r3_ok (z2164) (z2165) (l2166) (l2167) (l2168) (b2169) (z2170) (z2171) (z2172) (z2173) (z2174) (z2175) (z2176) (z2177) (z2178) (z2179) (z2180) (z2181) (z2182) (z2183) (z2184) (l2185) (b2186) (l2187) (z2188) (z2189) (z2190) (z2191) (z2192) (l2193) (l2194) (l2195)) fun (r : N53_r3) => match r with
   | .e0 b2692 z2693 z2694 l2695 l2696 l2697 b2698 z2699 z2700 z2701 z2702 z2703 z2704 z2705 z2706 z2707 z2708 z2709 z2710 z2711 z2712 z2713 l2714 b2715 l2716 z2717 z2718 z2719 z2720 z2721 l2722 l2723 l2724 =>
    .testB (b2692)
     (fun h1 =>
     .known h1 <|
     .ret (N53_c3.e0 (false))
     )
     (fun h1 =>
     .cut E53_r4 (J53_r4_ok (z2693) (z2694) (l2695) (l2696) (l2697) (b2698) (z2699) (z2700) (z2701) (z2702) (z2703) (z2704) (z2705) (z2706) (z2707) (z2708) (z2709) (z2710) (z2711) (z2712) (z2713) (l2714) (b2715) (l2716) (z2717) (z2718) (z2719) (z2720) (z2721) (l2722) (l2723) (l2724)) fun (r : N53_r4) => match r with
     | .e0 b2725 z2726 z2727 l2728 l2729 l2730 b2731 z2732 z2733 z2734 z2735 z2736 z2737 z2738 z2739 z2740 z2741 z2742 z2743 z2744 z2745 z2746 l2747 b2748 l2749 z2750 z2751 z2752 z2753 z2754 l2755 l2756 l2757 =>
      .testB (b2725)
       (fun h2 =>
       .ret (N53_c3.e0 (false))
       )
       (fun h2 =>
       .auto 1 <|
       .testB (z2726 == 3)
        (fun h3 =>
        .cut E53_r7 (J53_r7_ok (z2726) (z2727) (l2728) (l2729) (l2730) (b2731) (z2732) (z2733) (z2734) (z2735) (z2736) (z2737) (z2738) (z2739) (z2740) (z2741) (z2742) (z2743) (z2744) (z2745) (z2746) (l2747) (b2748) (l2749) (z2750) (z2751) (z2752) (z2753) (z2754) (l2755) (l2756) (l2757)) fun (r : N53_r7) => match r with
        | .e0 b2759 =>
         .ret (N53_c3.e0 (b2759))
        )
        (fun h3 =>
        .ret (N53_c3.e1 (z2726) (z2727) (l2728) (l2729) (l2730) (b2731) (z2732) (z2733) (z2734) (z2735) (z2736) (z2737) (z2738) (z2739) (z2740) (z2741) (z2742) (z2743) (z2744) (z2745) (z2746) (l2747) (b2748) (l2749) (z2750) (z2751) (z2752) (z2753) (z2754) (l2755) (l2756) (l2757))
        )
       )
     )
   )
noncomputable def J53_c3 (b2163 : Bool) (z2164 : Int) (z2165 : Int) (l2166 : List (List V)) (l2167 : List (List V)) (l2168 : List (List V)) (b2169 : Bool) (z2170 : Int) (z2171 : Int) (z2172 : Int) (z2173 : Int) (z2174 : Int) (z2175 : Int) (z2176 : Int) (z2177 : Int) (z2178 : Int) (z2179 : Int) (z2180 : Int) (z2181 : Int) (z2182 : Int) (z2183 : Int) (z2184 : Int) (l2185 : List (List V)) (b2186 : Bool) (l2187 : List (List V)) (z2188 : Int) (z2189 : Int) (z2190 : Int) (z2191 : Int) (z2192 : Int) (l2193 : List (List V)) (l2194 : List (List V)) (l2195 : List (List V)) : Option N53_c3 := (D53_c3 b2163 z2164 z2165 l2166 l2167 l2168 b2169 z2170 z2171 z2172 z2173 z2174 z2175 z2176 z2177 z2178 z2179 z2180 z2181 z2182 z2183 z2184 l2185 b2186 l2187 z2188 z2189 z2190 z2191 z2192 l2193 l2194 l2195).ev some
theorem J53_c3_ok (b2163 : Bool) (z2164 : Int) (z2165 : Int) (l2166 : List (List V)) (l2167 : List (List V)) (l2168 : List (List V)) (b2169 : Bool) (z2170 : Int) (z2171 : Int) (z2172 : Int) (z2173 : Int) (z2174 : Int) (z2175 : Int) (z2176 : Int) (z2177 : Int) (z2178 : Int) (z2179 : Int) (z2180 : Int) (z2181 : Int) (z2182 : Int) (z2183 : Int) (z2184 : Int) (l2185 : List (List V)) (b2186 : Bool) (l2187 : List (List V)) (z2188 : Int) (z2189 : Int) (z2190 : Int) (z2191 : Int) (z2192 : Int) (l2193 : List (List V)) (l2194 : List (List V)) (l2195 : List (List V)) : ∀ b, J53_c3 b2163 z2164 z2165 l2166 l2167 l2168 b2169 z2170 z2171 z2172 z2173 z2174 z2175 z2176 z2177 z2178 z2179 z2180 z2181 z2182 z2183 z2184 l2185 b2186 l2187 z2188 z2189 z2190 z2191 z2192 l2193 l2194 l2195 = some b → condP Tryz.prog X CC 53 (0) 18446744073709551616 B53 3 ({ T := U :: V.ptr 0 0 0 :: U :: vb b2163 :: un 63 [], σ := [Ob.cells true false 32 [[i64 z2164, i64 z2165, V.list 7 l2166, V.list 7 l2167, V.list 8 l2168, vb b2169, i64 z2170, i64 z2171, u8 z2172, u8 z2173, u8 z2174, u8 z2175, u8 z2176, u8 z2177, u8 z2178, u8 z2179, i64 z2180, i64 z2181, i64 z2182, i64 z2183, i64 z2184, V.list 10 l2185, vb b2186, V.list 7 l2187, u8 z2188, u8 z2189, u8 z2190, u8 z2191, i64 z2192, V.list 1 l2193, V.list 7 l2194, V.list 7 l2195]]] }) = some (E53_c3.out b) :=
  cond_ok (E := E53_c3) (L := notIn []) (fun x => by kernel_rfl)
inductive N53_r1 where
  | e0 (b2097 : Bool) (z2098 : Int) (z2099 : Int) (l2100 : List (List V)) (l2101 : List (List V)) (l2102 : List (List V)) (b2103 : Bool) (z2104 : Int) (z2105 : Int) (z2106 : Int) (z2107 : Int) (z2108 : Int) (z2109 : Int) (z2110 : Int) (z2111 : Int) (z2112 : Int) (z2113 : Int) (z2114 : Int) (z2115 : Int) (z2116 : Int) (z2117 : Int) (z2118 : Int) (l2119 : List (List V)) (b2120 : Bool) (l2121 : List (List V)) (z2122 : Int) (z2123 : Int) (z2124 : Int) (z2125 : Int) (z2126 : Int) (l2127 : List (List V)) (l2128 : List (List V)) (l2129 : List (List V))
@[reducible] def N53_r1.out : N53_r1 → VX × S
  | .e0 b2097 z2098 z2099 l2100 l2101 l2102 b2103 z2104 z2105 z2106 z2107 z2108 z2109 z2110 z2111 z2112 z2113 z2114 z2115 z2116 z2117 z2118 l2119 b2120 l2121 z2122 z2123 z2124 z2125 z2126 l2127 l2128 l2129 => (VX.normal, { T := U :: V.ptr 0 0 0 :: U :: vb b2097 :: un 63 [], σ := [Ob.cells true false 32 [[i64 z2098, i64 z2099, V.list 7 l2100, V.list 7 l2101, V.list 8 l2102, vb b2103, i64 z2104, i64 z2105, u8 z2106, u8 z2107, u8 z2108, u8 z2109, u8 z2110, u8 z2111, u8 z2112, u8 z2113, i64 z2114, i64 z2115, i64 z2116, i64 z2117, i64 z2118, V.list 10 l2119, vb b2120, V.list 7 l2121, u8 z2122, u8 z2123, u8 z2124, u8 z2125, i64 z2126, V.list 1 l2127, V.list 7 l2128, V.list 7 l2129]]] })
def N53_r1.ex (g : N53_r1 → Prop) : Prop := (∃ (b2097 : Bool) (z2098 : Int) (z2099 : Int) (l2100 : List (List V)) (l2101 : List (List V)) (l2102 : List (List V)) (b2103 : Bool) (z2104 : Int) (z2105 : Int) (z2106 : Int) (z2107 : Int) (z2108 : Int) (z2109 : Int) (z2110 : Int) (z2111 : Int) (z2112 : Int) (z2113 : Int) (z2114 : Int) (z2115 : Int) (z2116 : Int) (z2117 : Int) (z2118 : Int) (l2119 : List (List V)) (b2120 : Bool) (l2121 : List (List V)) (z2122 : Int) (z2123 : Int) (z2124 : Int) (z2125 : Int) (z2126 : Int) (l2127 : List (List V)) (l2128 : List (List V)) (l2129 : List (List V)), g (.e0 b2097 z2098 z2099 l2100 l2101 l2102 b2103 z2104 z2105 z2106 z2107 z2108 z2109 z2110 z2111 z2112 z2113 z2114 z2115 z2116 z2117 z2118 l2119 b2120 l2121 z2122 z2123 z2124 z2125 z2126 l2127 l2128 l2129))
theorem N53_r1.ok (g : N53_r1 → Prop) : N53_r1.ex g ↔ ∃ b, g b := ⟨fun h => match h with
  | ⟨_, _, _, _, _, _, _, _, _, _, _, _, _, _, _, _, _, _, _, _, _, _, _, _, _, _, _, _, _, _, _, _, _, h⟩ => ⟨_, h⟩, fun ⟨b, h⟩ => match b, h with
  | .e0 _ _ _ _ _ _ _ _ _ _ _ _ _ _ _ _ _ _ _ _ _ _ _ _ _ _ _ _ _ _ _ _ _, h => ⟨_, _, _, _, _, _, _, _, _, _, _, _, _, _, _, _, _, _, _, _, _, _, _, _, _, _, _, _, _, _, _, _, _, h⟩⟩
abbrev E53_r1 : Ent (VX × S) := ⟨N53_r1, N53_r1.out, N53_r1.ex, N53_r1.ok⟩
noncomputable def D53_r1 (z2033 : Int) (z2034 : Int) (l2035 : List (List V)) (l2036 : List (List V)) (l2037 : List (List V)) (b2038 : Bool) (z2039 : Int) (z2040 : Int) (z2041 : Int) (z2042 : Int) (z2043 : Int) (z2044 : Int) (z2045 : Int) (z2046 : Int) (z2047 : Int) (z2048 : Int) (z2049 : Int) (z2050 : Int) (z2051 : Int) (z2052 : Int) (z2053 : Int) (l2054 : List (List V)) (b2055 : Bool) (l2056 : List (List V)) (z2057 : Int) (z2058 : Int) (z2059 : Int) (z2060 : Int) (z2061 : Int) (l2062 : List (List V)) (l2063 : List (List V)) (l2064 : List (List V)) : PT N53_r1 :=
  .auto 1 <|
  .test (z2033 < 0)
   (fun h0 =>
   .auto 3 <|
   .ret (N53_r1.e0 (true) (z2033) (z2034) (l2035) (l2036) (l2037) (b2038) (z2039) (z2040) (z2041) (z2042) (z2043) (z2044) (z2045) (z2046) (z2047) (z2048) (z2049) (z2050) (z2051) (z2052) (z2053) (l2054) (b2055) (l2056) (z2057) (z2058) (z2059) (z2060) (z2061) (l2062) (l2063) (l2064))
   )
   (fun h0 =>
   .auto 4 <|
   .ret (N53_r1.e0 (decide (z2033 > 3)) (z2033) (z2034) (l2035) (l2036) (l2037) (b2038) (z2039) (z2040) (z2041) (z2042) (z2043) (z2044) (z2045) (z2046) (z2047) (z2048) (z2049) (z2050) (z2051) (z2052) (z2053) (l2054) (b2055) (l2056) (z2057) (z2058) (z2059) (z2060) (z2061) (l2062) (l2063) (l2064))
   )
noncomputable def J53_r1 (z2033 : Int) (z2034 : Int) (l2035 : List (List V)) (l2036 : List (List V)) (l2037 : List (List V)) (b2038 : Bool) (z2039 : Int) (z2040 : Int) (z2041 : Int) (z2042 : Int) (z2043 : Int) (z2044 : Int) (z2045 : Int) (z2046 : Int) (z2047 : Int) (z2048 : Int) (z2049 : Int) (z2050 : Int) (z2051 : Int) (z2052 : Int) (z2053 : Int) (l2054 : List (List V)) (b2055 : Bool) (l2056 : List (List V)) (z2057 : Int) (z2058 : Int) (z2059 : Int) (z2060 : Int) (z2061 : Int) (l2062 : List (List V)) (l2063 : List (List V)) (l2064 : List (List V)) : Option N53_r1 := (D53_r1 z2033 z2034 l2035 l2036 l2037 b2038 z2039 z2040 z2041 z2042 z2043 z2044 z2045 z2046 z2047 z2048 z2049 z2050 z2051 z2052 z2053 l2054 b2055 l2056 z2057 z2058 z2059 z2060 z2061 l2062 l2063 l2064).ev some
theorem J53_r1_ok (z2033 : Int) (z2034 : Int) (l2035 : List (List V)) (l2036 : List (List V)) (l2037 : List (List V)) (b2038 : Bool) (z2039 : Int) (z2040 : Int) (z2041 : Int) (z2042 : Int) (z2043 : Int) (z2044 : Int) (z2045 : Int) (z2046 : Int) (z2047 : Int) (z2048 : Int) (z2049 : Int) (z2050 : Int) (z2051 : Int) (z2052 : Int) (z2053 : Int) (l2054 : List (List V)) (b2055 : Bool) (l2056 : List (List V)) (z2057 : Int) (z2058 : Int) (z2059 : Int) (z2060 : Int) (z2061 : Int) (l2062 : List (List V)) (l2063 : List (List V)) (l2064 : List (List V)) : ∀ b, J53_r1 z2033 z2034 l2035 l2036 l2037 b2038 z2039 z2040 z2041 z2042 z2043 z2044 z2045 z2046 z2047 z2048 z2049 z2050 z2051 z2052 z2053 l2054 b2055 l2056 z2057 z2058 z2059 z2060 z2061 l2062 l2063 l2064 = some b → regP Tryz.prog X CC 53 (0) B53 1 ({ T := U :: V.ptr 0 0 0 :: un 65 [], σ := [Ob.cells true false 32 [[i64 z2033, i64 z2034, V.list 7 l2035, V.list 7 l2036, V.list 8 l2037, vb b2038, i64 z2039, i64 z2040, u8 z2041, u8 z2042, u8 z2043, u8 z2044, u8 z2045, u8 z2046, u8 z2047, u8 z2048, i64 z2049, i64 z2050, i64 z2051, i64 z2052, i64 z2053, V.list 10 l2054, vb b2055, V.list 7 l2056, u8 z2057, u8 z2058, u8 z2059, u8 z2060, i64 z2061, V.list 1 l2062, V.list 7 l2063, V.list 7 l2064]]] }) = some (E53_r1.out b) :=
  reg_ok (E := E53_r1) (fun x => by kernel_rfl)
noncomputable def D53 (z2001 : Int) (z2002 : Int) (l2003 : List (List V)) (l2004 : List (List V)) (l2005 : List (List V)) (b2006 : Bool) (z2007 : Int) (z2008 : Int) (z2009 : Int) (z2010 : Int) (z2011 : Int) (z2012 : Int) (z2013 : Int) (z2014 : Int) (z2015 : Int) (z2016 : Int) (z2017 : Int) (z2018 : Int) (z2019 : Int) (z2020 : Int) (z2021 : Int) (l2022 : List (List V)) (b2023 : Bool) (l2024 : List (List V)) (z2025 : Int) (z2026 : Int) (z2027 : Int) (z2028 : Int) (z2029 : Int) (l2030 : List (List V)) (l2031 : List (List V)) (l2032 : List (List V)) : PT A53 :=
  .cut E53_r1 (J53_r1_ok (z2001) (z2002) (l2003) (l2004) (l2005) (b2006) (z2007) (z2008) (z2009) (z2010) (z2011) (z2012) (z2013) (z2014) (z2015) (z2016) (z2017) (z2018) (z2019) (z2020) (z2021) (l2022) (b2023) (l2024) (z2025) (z2026) (z2027) (z2028) (z2029) (l2030) (l2031) (l2032)) fun (r : N53_r1) => match r with
  | .e0 b2659 z2660 z2661 l2662 l2663 l2664 b2665 z2666 z2667 z2668 z2669 z2670 z2671 z2672 z2673 z2674 z2675 z2676 z2677 z2678 z2679 z2680 l2681 b2682 l2683 z2684 z2685 z2686 z2687 z2688 l2689 l2690 l2691 =>
   .cut E53_c3 (J53_c3_ok (b2659) (z2660) (z2661) (l2662) (l2663) (l2664) (b2665) (z2666) (z2667) (z2668) (z2669) (z2670) (z2671) (z2672) (z2673) (z2674) (z2675) (z2676) (z2677) (z2678) (z2679) (z2680) (l2681) (b2682) (l2683) (z2684) (z2685) (z2686) (z2687) (z2688) (l2689) (l2690) (l2691)) fun (r : N53_c3) => match r with
   | .e0 b2760 =>
    .ret (A53.a0 (b2760))
   | .e1 z2761 z2762 l2763 l2764 l2765 b2766 z2767 z2768 z2769 z2770 z2771 z2772 z2773 z2774 z2775 z2776 z2777 z2778 z2779 z2780 z2781 l2782 b2783 l2784 z2785 z2786 z2787 z2788 z2789 l2790 l2791 l2792 =>
    .auto 1 <|
    .testB ((↑(List.length l2765) : Int) == 0)
     (fun h0 =>
     .auto 3 <|
     .ask E56 (F56_ok (l2763)) fun (r : A56) => match r with
     | .a0 b2793 =>
      .auto 1 <|
      .testB (b2793)
       (fun h1 =>
       .auto 3 <|
       .ask E56 (F56_ok (l2764)) fun (r : A56) => match r with
       | .a0 b2794 =>
        .auto 1 <|
        .ret (A53.a0 (b2794))
       )
       (fun h1 =>
       .auto 3 <|
       .ret (A53.a0 (false))
       )
     )
     (fun h0 =>
     .auto 7 <|
     .ret (A53.a0 (false))
     )
noncomputable def F53 (z2001 : Int) (z2002 : Int) (l2003 : List (List V)) (l2004 : List (List V)) (l2005 : List (List V)) (b2006 : Bool) (z2007 : Int) (z2008 : Int) (z2009 : Int) (z2010 : Int) (z2011 : Int) (z2012 : Int) (z2013 : Int) (z2014 : Int) (z2015 : Int) (z2016 : Int) (z2017 : Int) (z2018 : Int) (z2019 : Int) (z2020 : Int) (z2021 : Int) (l2022 : List (List V)) (b2023 : Bool) (l2024 : List (List V)) (z2025 : Int) (z2026 : Int) (z2027 : Int) (z2028 : Int) (z2029 : Int) (l2030 : List (List V)) (l2031 : List (List V)) (l2032 : List (List V)) : Option A53 := (D53 z2001 z2002 l2003 l2004 l2005 b2006 z2007 z2008 z2009 z2010 z2011 z2012 z2013 z2014 z2015 z2016 z2017 z2018 z2019 z2020 z2021 l2022 b2023 l2024 z2025 z2026 z2027 z2028 z2029 l2030 l2031 l2032).ev some
theorem F53_ok (z2001 : Int) (z2002 : Int) (l2003 : List (List V)) (l2004 : List (List V)) (l2005 : List (List V)) (b2006 : Bool) (z2007 : Int) (z2008 : Int) (z2009 : Int) (z2010 : Int) (z2011 : Int) (z2012 : Int) (z2013 : Int) (z2014 : Int) (z2015 : Int) (z2016 : Int) (z2017 : Int) (z2018 : Int) (z2019 : Int) (z2020 : Int) (z2021 : Int) (l2022 : List (List V)) (b2023 : Bool) (l2024 : List (List V)) (z2025 : Int) (z2026 : Int) (z2027 : Int) (z2028 : Int) (z2029 : Int) (l2030 : List (List V)) (l2031 : List (List V)) (l2032 : List (List V)) : ∀ b, F53 z2001 z2002 l2003 l2004 l2005 b2006 z2007 z2008 z2009 z2010 z2011 z2012 z2013 z2014 z2015 z2016 z2017 z2018 z2019 z2020 z2021 l2022 b2023 l2024 z2025 z2026 z2027 z2028 z2029 l2030 l2031 l2032 = some b → UU 53 ([V.agg [i64 z2001, i64 z2002, V.list 7 l2003, V.list 7 l2004, V.list 8 l2005, vb b2006, i64 z2007, i64 z2008, u8 z2009, u8 z2010, u8 z2011, u8 z2012, u8 z2013, u8 z2014, u8 z2015, u8 z2016, i64 z2017, i64 z2018, i64 z2019, i64 z2020, i64 z2021, V.list 10 l2022, vb b2023, V.list 7 l2024, u8 z2025, u8 z2026, u8 z2027, u8 z2028, i64 z2029, V.list 1 l2030, V.list 7 l2031, V.list 7 l2032]]) ([]) = some (A53.out b) :=
  fn_ok (E := E53) (L := notIn []) rfl rfl (fun x => by kernel_rfl)
/-! ## F113 -/
noncomputable def D113 (z2824 : Int) : PT (Bool) :=
  .test (z2824 ≥ -67108864)
   (fun h0 =>
   .auto 2 <|
   .ret (decide (z2824 ≤ 67108864))
   )
   (fun h0 =>
   .auto 2 <|
   .ret (false)
   )
@[reducible] def O113 (b2825 : Bool) : V × Store := (vb b2825, [])
noncomputable def F113 (z2824 : Int) : Bool := (D113 z2824).evT
theorem F113_ok (z2824 : Int) : UU 113 ([i64 z2824]) ([]) = some (O113 (F113 z2824)) :=
  fnT_ok (out := O113) (L := notIn []) rfl rfl (fun x => by kernel_rfl) (by simp [D113, PT.isT])
end Go.Proofs.YtifalphladcdcaaGreat.H
