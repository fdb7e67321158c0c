/- What the functions compute, and that they do so over the machine of plain values (printed by this session's program wip/vm/Walk.lean). No condition beyond those stated. -/
import Derived.Test.YtifalphladcdcaaWk
import Derived.Test.YtifalphladcdcaaP5a
set_option linter.unusedVariables false
set_option linter.unusedSimpArgs false
namespace Go.Proofs.Ytifalphladcdcaa.H
open Go Go.VM
set_option maxRecDepth 100000
/-! ## F15 -/
noncomputable abbrev B15 : Code := (Try.f15.body).getD .skip
inductive N15_2 where
  | s0 (z1253 : Int) (l1254 : List (List V)) (z1255 : Int) (z1256 : Int) (z1257 : Int) (k1258 : Nat) (k1259 : Nat) (k1260 : Nat) (b1261 : Bool) (z1262 : Int) (z1263 : Int) (z1264 : Int) (z1265 : Int) (z1266 : Int) (z1267 : Int) (z1268 : Int) (z1269 : Int) (z1270 : Int) (z1271 : Int) (z1272 : Int) (z1273 : Int) (z1274 : Int) (z1275 : Int) (z1276 : Int) (k1277 : Nat) (b1278 : Bool) (k1279 : Nat) (z1280 : Int) (z1281 : Int) (z1282 : Int) (z1283 : Int) (z1284 : Int) (k1285 : Nat) (l1286 : List (List V)) (l1287 : List (List V)) (l1288 : List (List V)) (l1289 : List (List V)) (l1290 : List (List V)) (l1291 : List (List V))
  | e0 (l1295 : List (List V)) (z1296 : Int) (z1297 : Int) (z1298 : Int) (k1299 : Nat) (k1300 : Nat) (k1301 : Nat) (b1302 : Bool) (z1303 : Int) (z1304 : Int) (z1305 : Int) (z1306 : Int) (z1307 : Int) (z1308 : Int) (z1309 : Int) (z1310 : Int) (z1311 : Int) (z1312 : Int) (z1313 : Int) (z1314 : Int) (z1315 : Int) (z1316 : Int) (z1317 : Int) (k1318 : Nat) (b1319 : Bool) (k1320 : Nat) (z1321 : Int) (z1322 : Int) (z1323 : Int) (z1324 : Int) (z1325 : Int) (k1326 : Nat) (l1327 : List (List V)) (l1328 : List (List V)) (l1329 : List (List V)) (l1330 : List (List V)) (l1331 : List (List V)) (l1332 : List (List V))
@[reducible] def N15_2.out : N15_2 → VX × S
  | .s0 z1253 l1254 z1255 z1256 z1257 k1258 k1259 k1260 b1261 z1262 z1263 z1264 z1265 z1266 z1267 z1268 z1269 z1270 z1271 z1272 z1273 z1274 z1275 z1276 k1277 b1278 k1279 z1280 z1281 z1282 z1283 z1284 k1285 l1286 l1287 l1288 l1289 l1290 l1291 => (VX.normal, { T := V.ptr 0 0 0 :: U :: V.ptr 1 0 0 :: V.ptr 2 0 0 :: un 5 (i64 z1253 :: un 145 []), σ := [Ob.cells true false 2 [[V.list 1 l1254, i64 z1255]], Ob.cells true false 32 [[i64 0, i64 0, V.hs 3 0 0, V.hs 4 0 0, V.hs 5 0 0, vb false, i64 0, i64 0, u8 0, u8 0, u8 0, u8 0, u8 0, u8 0, u8 0, u8 0, i64 0, i64 0, i64 0, i64 0, i64 0, V.hs 6 0 0, vb false, V.hs 7 0 0, u8 0, u8 0, u8 0, u8 0, i64 0, V.hs 8 0 0, V.hs 9 0 0, V.hs 10 0 0]], Ob.cells true false 32 [[i64 z1256, i64 z1257, V.hs 11 0 k1258, V.hs 12 0 k1259, V.hs 13 0 k1260, vb b1261, i64 z1262, i64 z1263, u8 z1264, u8 z1265, u8 z1266, u8 z1267, u8 z1268, u8 z1269, u8 z1270, u8 z1271, i64 z1272, i64 z1273, i64 z1274, i64 z1275, i64 z1276, V.hs 14 0 k1277, vb b1278, V.hs 15 0 k1279, u8 z1280, u8 z1281, u8 z1282, u8 z1283, i64 z1284, V.hs 16 0 k1285, V.hs 17 0 0, V.hs 18 0 0]], Ob.cells true true 7 [], Ob.cells true true 7 [], Ob.cells true true 8 [], Ob.cells true true 10 [], Ob.cells true true 7 [], Ob.cells true true 1 [], Ob.cells true true 7 [], Ob.cells true true 7 [], Ob.cells true true 7 l1286, Ob.cells true true 7 l1287, Ob.cells true true 8 l1288, Ob.cells true true 10 l1289, Ob.cells true true 7 l1290, Ob.cells true true 1 l1291, Ob.cells true true 7 [], Ob.cells true true 7 []] })
  | .e0 l1295 z1296 z1297 z1298 k1299 k1300 k1301 b1302 z1303 z1304 z1305 z1306 z1307 z1308 z1309 z1310 z1311 z1312 z1313 z1314 z1315 z1316 z1317 k1318 b1319 k1320 z1321 z1322 z1323 z1324 z1325 k1326 l1327 l1328 l1329 l1330 l1331 l1332 => (VX.exit 2, { T := V.ptr 0 0 0 :: U :: V.ptr 1 0 0 :: V.ptr 2 0 0 :: un 151 [], σ := [Ob.cells true false 2 [[V.list 1 l1295, i64 z1296]], Ob.cells true false 32 [[i64 0, i64 0, V.hs 3 0 0, V.hs 4 0 0, V.hs 5 0 0, vb false, i64 0, i64 0, u8 0, u8 0, u8 0, u8 0, u8 0, u8 0, u8 0, u8 0, i64 0, i64 0, i64 0, i64 0, i64 0, V.hs 6 0 0, vb false, V.hs 7 0 0, u8 0, u8 0, u8 0, u8 0, i64 0, V.hs 8 0 0, V.hs 9 0 0, V.hs 10 0 0]], Ob.cells true false 32 [[i64 z1297, i64 z1298, V.hs 11 0 k1299, V.hs 12 0 k1300, V.hs 13 0 k1301, vb b1302, i64 z1303, i64 z1304, u8 z1305, u8 z1306, u8 z1307, u8 z1308, u8 z1309, u8 z1310, u8 z1311, u8 z1312, i64 z1313, i64 z1314, i64 z1315, i64 z1316, i64 z1317, V.hs 14 0 k1318, vb b1319, V.hs 15 0 k1320, u8 z1321, u8 z1322, u8 z1323, u8 z1324, i64 z1325, V.hs 16 0 k1326, V.hs 17 0 0, V.hs 18 0 0]], Ob.cells true true 7 [], Ob.cells true true 7 [], Ob.cells true true 8 [], Ob.cells true true 10 [], Ob.cells true true 7 [], Ob.cells true true 1 [], Ob.cells true true 7 [], Ob.cells true true 7 [], Ob.cells true true 7 l1327, Ob.cells true true 7 l1328, Ob.cells true true 8 l1329, Ob.cells true true 10 l1330, Ob.cells true true 7 l1331, Ob.cells true true 1 l1332, Ob.cells true true 7 [], Ob.cells true true 7 []] })
def N15_2.ex (g : N15_2 → Prop) : Prop := (∃ (z1253 : Int) (l1254 : List (List V)) (z1255 : Int) (z1256 : Int) (z1257 : Int) (k1258 : Nat) (k1259 : Nat) (k1260 : Nat) (b1261 : Bool) (z1262 : Int) (z1263 : Int) (z1264 : Int) (z1265 : Int) (z1266 : Int) (z1267 : Int) (z1268 : Int) (z1269 : Int) (z1270 : Int) (z1271 : Int) (z1272 : Int) (z1273 : Int) (z1274 : Int) (z1275 : Int) (z1276 : Int) (k1277 : Nat) (b1278 : Bool) (k1279 : Nat) (z1280 : Int) (z1281 : Int) (z1282 : Int) (z1283 : Int) (z1284 : Int) (k1285 : Nat) (l1286 : List (List V)) (l1287 : List (List V)) (l1288 : List (List V)) (l1289 : List (List V)) (l1290 : List (List V)) (l1291 : List (List V)), g (.s0 z1253 l1254 z1255 z1256 z1257 k1258 k1259 k1260 b1261 z1262 z1263 z1264 z1265 z1266 z1267 z1268 z1269 z1270 z1271 z1272 z1273 z1274 z1275 z1276 k1277 b1278 k1279 z1280 z1281 z1282 z1283 z1284 k1285 l1286 l1287 l1288 l1289 l1290 l1291)) ∨ (∃ (l1295 : List (List V)) (z1296 : Int) (z1297 : Int) (z1298 : Int) (k1299 : Nat) (k1300 : Nat) (k1301 : Nat) (b1302 : Bool) (z1303 : Int) (z1304 : Int) (z1305 : Int) (z1306 : Int) (z1307 : Int) (z1308 : Int) (z1309 : Int) (z1310 : Int) (z1311 : Int) (z1312 : Int) (z1313 : Int) (z1314 : Int) (z1315 : Int) (z1316 : Int) (z1317 : Int) (k1318 : Nat) (b1319 : Bool) (k1320 : Nat) (z1321 : Int) (z1322 : Int) (z1323 : Int) (z1324 : Int) (z1325 : Int) (k1326 : Nat) (l1327 : List (List V)) (l1328 : List (List V)) (l1329 : List (List V)) (l1330 : List (List V)) (l1331 : List (List V)) (l1332 : List (List V)), g (.e0 l1295 z1296 z1297 z1298 k1299 k1300 k1301 b1302 z1303 z1304 z1305 z1306 z1307 z1308 z1309 z1310 z1311 z1312 z1313 z1314 z1315 z1316 z1317 k1318 b1319 k1320 z1321 z1322 z1323 z1324 z1325 k1326 l1327 l1328 l1329 l1330 l1331 l1332))
theorem N15_2.ok (g : N15_2 → Prop) : N15_2.ex g ↔ ∃ b, g b := ⟨fun h => match h with
  | .inl ⟨_, _, _, _, _, _, _, _, _, _, _, _, _, _, _, _, _, _, _, _, _, _, _, _, _, _, _, _, _, _, _, _, _, _, _, _, _, _, _, h⟩ => ⟨_, h⟩
  | .inr (⟨_, _, _, _, _, _, _, _, _, _, _, _, _, _, _, _, _, _, _, _, _, _, _, _, _, _, _, _, _, _, _, _, _, _, _, _, _, _, h⟩) => ⟨_, h⟩, fun ⟨b, h⟩ => match b, h with
  | .s0 _ _ _ _ _ _ _ _ _ _ _ _ _ _ _ _ _ _ _ _ _ _ _ _ _ _ _ _ _ _ _ _ _ _ _ _ _ _ _, h => .inl ⟨_, _, _, _, _, _, _, _, _, _, _, _, _, _, _, _, _, _, _, _, _, _, _, _, _, _, _, _, _, _, _, _, _, _, _, _, _, _, _, h⟩
  | .e0 _ _ _ _ _ _ _ _ _ _ _ _ _ _ _ _ _ _ _ _ _ _ _ _ _ _ _ _ _ _ _ _ _ _ _ _ _ _, h => .inr (⟨_, _, _, _, _, _, _, _, _, _, _, _, _, _, _, _, _, _, _, _, _, _, _, _, _, _, _, _, _, _, _, _, _, _, _, _, _, _, h⟩)⟩
abbrev E15_2 : Ent (VX × S) := ⟨N15_2, N15_2.out, N15_2.ex, N15_2.ok⟩
noncomputable def D15_2 (z1253 : Int) (l1254 : List (List V)) (z1255 : Int) (z1256 : Int) (z1257 : Int) (k1258 : Nat) (k1259 : Nat) (k1260 : Nat) (b1261 : Bool) (z1262 : Int) (z1263 : Int) (z1264 : Int) (z1265 : Int) (z1266 : Int) (z1267 : Int) (z1268 : Int) (z1269 : Int) (z1270 : Int) (z1271 : Int) (z1272 : Int) (z1273 : Int) (z1274 : Int) (z1275 : Int) (z1276 : Int) (k1277 : Nat) (b1278 : Bool) (k1279 : Nat) (z1280 : Int) (z1281 : Int) (z1282 : Int) (z1283 : Int) (z1284 : Int) (k1285 : Nat) (l1286 : List (List V)) (l1287 : List (List V)) (l1288 : List (List V)) (l1289 : List (List V)) (l1290 : List (List V)) (l1291 : List (List V)) : PT N15_2 :=
  .test (z1253 > 0)
   (fun h0 =>
   .auto 1 <|
   .ask E41 (F41_ok (1) (5) (l1254) (z1255)) fun (r : A41) => match r with
   | .a0 z1574 l1575 z1576 =>
    .auto 1 <|
    .test (0 + k1285 ≤ List.length l1291 ∧ (k1285 + 1) * 8 ≤ 140737488355328 ∧ k1285 + 1 ≤ 140737488355328)
     (fun h1 =>
     .auto 1 <|
     .ret (N15_2.s0 (w64 (z1253 - 1)) (l1575) (z1576) (z1256) (z1257) (k1258) (k1259) (k1260) (b1261) (z1262) (z1263) (z1264) (z1265) (z1266) (z1267) (z1268) (z1269) (z1270) (z1271) (z1272) (z1273) (z1274) (z1275) (z1276) (k1277) (b1278) (k1279) (z1280) (z1281) (z1282) (z1283) (z1284) (k1285 + 1) (l1286) (l1287) (l1288) (l1289) (l1290) (List.take k1285 l1291 ++ [[i64 z1574]]))
     )
     (fun _ => .fail) -- none
   )
   (fun h0 =>
   .ret (N15_2.e0 (l1254) (z1255) (z1256) (z1257) (k1258) (k1259) (k1260) (b1261) (z1262) (z1263) (z1264) (z1265) (z1266) (z1267) (z1268) (z1269) (z1270) (z1271) (z1272) (z1273) (z1274) (z1275) (z1276) (k1277) (b1278) (k1279) (z1280) (z1281) (z1282) (z1283) (z1284) (k1285) (l1286) (l1287) (l1288) (l1289) (l1290) (l1291))
   )
noncomputable def S15_2 : N15_2 → PT N15_2
  | .s0 z1253 l1254 z1255 z1256 z1257 k1258 k1259 k1260 b1261 z1262 z1263 z1264 z1265 z1266 z1267 z1268 z1269 z1270 z1271 z1272 z1273 z1274 z1275 z1276 k1277 b1278 k1279 z1280 z1281 z1282 z1283 z1284 k1285 l1286 l1287 l1288 l1289 l1290 l1291 => D15_2 z1253 l1254 z1255 z1256 z1257 k1258 k1259 k1260 b1261 z1262 z1263 z1264 z1265 z1266 z1267 z1268 z1269 z1270 z1271 z1272 z1273 z1274 z1275 z1276 k1277 b1278 k1279 z1280 z1281 z1282 z1283 z1284 k1285 l1286 l1287 l1288 l1289 l1290 l1291
  | _ => .fail
def N15_2.off : N15_2 → Bool
  | .s0 _ _ _ _ _ _ _ _ _ _ _ _ _ _ _ _ _ _ _ _ _ _ _ _ _ _ _ _ _ _ _ _ _ _ _ _ _ _ _ => false
  | _ => true
noncomputable def L15_2 (n : Nat) (b : N15_2) : Option N15_2 := PT.loop (S15_2) N15_2.off n b
theorem L15_2_ok : ∀ (n : Nat) (b : N15_2), N15_2.off b = false → ∀ c, L15_2 n b = some c → loopP Try.prog X CC 15 (1) 18446744073709551616 B15 2 n (E15_2.out b).2 = some (E15_2.out c) :=
  loop_ok (E := E15_2) (step := S15_2) (L := notIn []) (fun b hb => by cases b <;> first | (cases hb; done) | (intro x; kernel_rfl)) (fun b => by cases b <;> rfl)
noncomputable def N15_2.nx (n : Nat) (c : N15_2) : Option N15_2 := match N15_2.off c with
  | true => some c
  | false => L15_2 n c
theorem L15_2_s0 (n : Nat) (z1253 : Int) (l1254 : List (List V)) (z1255 : Int) (z1256 : Int) (z1257 : Int) (k1258 : Nat) (k1259 : Nat) (k1260 : Nat) (b1261 : Bool) (z1262 : Int) (z1263 : Int) (z1264 : Int) (z1265 : Int) (z1266 : Int) (z1267 : Int) (z1268 : Int) (z1269 : Int) (z1270 : Int) (z1271 : Int) (z1272 : Int) (z1273 : Int) (z1274 : Int) (z1275 : Int) (z1276 : Int) (k1277 : Nat) (b1278 : Bool) (k1279 : Nat) (z1280 : Int) (z1281 : Int) (z1282 : Int) (z1283 : Int) (z1284 : Int) (k1285 : Nat) (l1286 : List (List V)) (l1287 : List (List V)) (l1288 : List (List V)) (l1289 : List (List V)) (l1290 : List (List V)) (l1291 : List (List V)) : L15_2 (n + 1) (.s0 z1253 l1254 z1255 z1256 z1257 k1258 k1259 k1260 b1261 z1262 z1263 z1264 z1265 z1266 z1267 z1268 z1269 z1270 z1271 z1272 z1273 z1274 z1275 z1276 k1277 b1278 k1279 z1280 z1281 z1282 z1283 z1284 k1285 l1286 l1287 l1288 l1289 l1290 l1291) = (D15_2 z1253 l1254 z1255 z1256 z1257 k1258 k1259 k1260 b1261 z1262 z1263 z1264 z1265 z1266 z1267 z1268 z1269 z1270 z1271 z1272 z1273 z1274 z1275 z1276 k1277 b1278 k1279 z1280 z1281 z1282 z1283 z1284 k1285 l1286 l1287 l1288 l1289 l1290 l1291).ev (N15_2.nx n) := rfl
theorem N15_2.nx_s0 (n : Nat) (z1253 : Int) (l1254 : List (List V)) (z1255 : Int) (z1256 : Int) (z1257 : Int) (k1258 : Nat) (k1259 : Nat) (k1260 : Nat) (b1261 : Bool) (z1262 : Int) (z1263 : Int) (z1264 : Int) (z1265 : Int) (z1266 : Int) (z1267 : Int) (z1268 : Int) (z1269 : Int) (z1270 : Int) (z1271 : Int) (z1272 : Int) (z1273 : Int) (z1274 : Int) (z1275 : Int) (z1276 : Int) (k1277 : Nat) (b1278 : Bool) (k1279 : Nat) (z1280 : Int) (z1281 : Int) (z1282 : Int) (z1283 : Int) (z1284 : Int) (k1285 : Nat) (l1286 : List (List V)) (l1287 : List (List V)) (l1288 : List (List V)) (l1289 : List (List V)) (l1290 : List (List V)) (l1291 : List (List V)) : N15_2.nx n (.s0 z1253 l1254 z1255 z1256 z1257 k1258 k1259 k1260 b1261 z1262 z1263 z1264 z1265 z1266 z1267 z1268 z1269 z1270 z1271 z1272 z1273 z1274 z1275 z1276 k1277 b1278 k1279 z1280 z1281 z1282 z1283 z1284 k1285 l1286 l1287 l1288 l1289 l1290 l1291) = L15_2 n (.s0 z1253 l1254 z1255 z1256 z1257 k1258 k1259 k1260 b1261 z1262 z1263 z1264 z1265 z1266 z1267 z1268 z1269 z1270 z1271 z1272 z1273 z1274 z1275 z1276 k1277 b1278 k1279 z1280 z1281 z1282 z1283 z1284 k1285 l1286 l1287 l1288 l1289 l1290 l1291) := rfl
theorem N15_2.nx_e0 (n : Nat) (l1295 : List (List V)) (z1296 : Int) (z1297 : Int) (z1298 : Int) (k1299 : Nat) (k1300 : Nat) (k1301 : Nat) (b1302 : Bool) (z1303 : Int) (z1304 : Int) (z1305 : Int) (z1306 : Int) (z1307 : Int) (z1308 : Int) (z1309 : Int) (z1310 : Int) (z1311 : Int) (z1312 : Int) (z1313 : Int) (z1314 : Int) (z1315 : Int) (z1316 : Int) (z1317 : Int) (k1318 : Nat) (b1319 : Bool) (k1320 : Nat) (z1321 : Int) (z1322 : Int) (z1323 : Int) (z1324 : Int) (z1325 : Int) (k1326 : Nat) (l1327 : List (List V)) (l1328 : List (List V)) (l1329 : List (List V)) (l1330 : List (List V)) (l1331 : List (List V)) (l1332 : List (List V)) : N15_2.nx n (.e0 l1295 z1296 z1297 z1298 k1299 k1300 k1301 b1302 z1303 z1304 z1305 z1306 z1307 z1308 z1309 z1310 z1311 z1312 z1313 z1314 z1315 z1316 z1317 k1318 b1319 k1320 z1321 z1322 z1323 z1324 z1325 k1326 l1327 l1328 l1329 l1330 l1331 l1332) = some (.e0 l1295 z1296 z1297 z1298 k1299 k1300 k1301 b1302 z1303 z1304 z1305 z1306 z1307 z1308 z1309 z1310 z1311 z1312 z1313 z1314 z1315 z1316 z1317 k1318 b1319 k1320 z1321 z1322 z1323 z1324 z1325 k1326 l1327 l1328 l1329 l1330 l1331 l1332) := rfl
inductive N15_r21 where
  | e0 (l1173 : List (List V)) (z1174 : Int) (z1175 : Int) (z1176 : Int) (k1177 : Nat) (k1178 : Nat) (k1179 : Nat) (b1180 : Bool) (z1181 : Int) (z1182 : Int) (z1183 : Int) (z1184 : Int) (z1185 : Int) (z1186 : Int) (z1187 : Int) (z1188 : Int) (z1189 : Int) (z1190 : Int) (z1191 : Int) (z1192 : Int) (z1193 : Int) (z1194 : Int) (z1195 : Int) (k1196 : Nat) (b1197 : Bool) (l1198 : List (List V)) (l1199 : List (List V)) (l1200 : List (List V)) (l1201 : List (List V))
@[reducible] def N15_r21.out : N15_r21 → VX × S
  | .e0 l1173 z1174 z1175 z1176 k1177 k1178 k1179 b1180 z1181 z1182 z1183 z1184 z1185 z1186 z1187 z1188 z1189 z1190 z1191 z1192 z1193 z1194 z1195 k1196 b1197 l1198 l1199 l1200 l1201 => (VX.normal, { T := V.ptr 0 0 0 :: U :: V.ptr 1 0 0 :: V.ptr 2 0 0 :: un 151 [], σ := [Ob.cells true false 2 [[V.list 1 l1173, i64 z1174]], Ob.cells true false 32 [[i64 0, i64 0, V.hs 3 0 0, V.hs 4 0 0, V.hs 5 0 0, vb false, i64 0, i64 0, u8 0, u8 0, u8 0, u8 0, u8 0, u8 0, u8 0, u8 0, i64 0, i64 0, i64 0, i64 0, i64 0, V.hs 6 0 0, vb false, V.hs 7 0 0, u8 0, u8 0, u8 0, u8 0, i64 0, V.hs 8 0 0, V.hs 9 0 0, V.hs 10 0 0]], Ob.cells true false 32 [[i64 z1175, i64 z1176, V.hs 11 0 k1177, V.hs 12 0 k1178, V.hs 13 0 k1179, vb b1180, i64 z1181, i64 z1182, u8 z1183, u8 z1184, u8 z1185, u8 z1186, u8 z1187, u8 z1188, u8 z1189, u8 z1190, i64 z1191, i64 z1192, i64 z1193, i64 z1194, i64 z1195, V.hs 14 0 k1196, vb b1197, V.hs 15 0 0, u8 0, u8 0, u8 0, u8 0, i64 0, V.hs 16 0 0, V.hs 17 0 0, V.hs 18 0 0]], Ob.cells true true 7 [], Ob.cells true true 7 [], Ob.cells true true 8 [], Ob.cells true true 10 [], Ob.cells true true 7 [], Ob.cells true true 1 [], Ob.cells true true 7 [], Ob.cells true true 7 [], Ob.cells true true 7 l1198, Ob.cells true true 7 l1199, Ob.cells true true 8 l1200, Ob.cells true true 10 l1201, Ob.cells true true 7 [], Ob.cells true true 1 [], Ob.cells true true 7 [], Ob.cells true true 7 []] })
def N15_r21.ex (g : N15_r21 → Prop) : Prop := (∃ (l1173 : List (List V)) (z1174 : Int) (z1175 : Int) (z1176 : Int) (k1177 : Nat) (k1178 : Nat) (k1179 : Nat) (b1180 : Bool) (z1181 : Int) (z1182 : Int) (z1183 : Int) (z1184 : Int) (z1185 : Int) (z1186 : Int) (z1187 : Int) (z1188 : Int) (z1189 : Int) (z1190 : Int) (z1191 : Int) (z1192 : Int) (z1193 : Int) (z1194 : Int) (z1195 : Int) (k1196 : Nat) (b1197 : Bool) (l1198 : List (List V)) (l1199 : List (List V)) (l1200 : List (List V)) (l1201 : List (List V)), g (.e0 l1173 z1174 z1175 z1176 k1177 k1178 k1179 b1180 z1181 z1182 z1183 z1184 z1185 z1186 z1187 z1188 z1189 z1190 z1191 z1192 z1193 z1194 z1195 k1196 b1197 l1198 l1199 l1200 l1201))
theorem N15_r21.ok (g : N15_r21 → Prop) : N15_r21.ex g ↔ ∃ b, g b := ⟨fun h => match h with
  | ⟨_, _, _, _, _, _, _, _, _, _, _, _, _, _, _, _, _, _, _, _, _, _, _, _, _, _, _, _, _, h⟩ => ⟨_, h⟩, fun ⟨b, h⟩ => match b, h with
  | .e0 _ _ _ _ _ _ _ _ _ _ _ _ _ _ _ _ _ _ _ _ _ _ _ _ _ _ _ _ _, h => ⟨_, _, _, _, _, _, _, _, _, _, _, _, _, _, _, _, _, _, _, _, _, _, _, _, _, _, _, _, _, h⟩⟩
abbrev E15_r21 : Ent (VX × S) := ⟨N15_r21, N15_r21.out, N15_r21.ex, N15_r21.ok⟩
noncomputable def D15_r21 (l1142 : List (List V)) (z1143 : Int) (z1144 : Int) (z1145 : Int) (k1146 : Nat) (k1147 : Nat) (k1148 : Nat) (b1149 : Bool) (z1150 : Int) (z1151 : Int) (z1152 : Int) (z1153 : Int) (z1154 : Int) (z1155 : Int) (z1156 : Int) (z1157 : Int) (z1158 : Int) (z1159 : Int) (z1160 : Int) (z1161 : Int) (z1162 : Int) (z1163 : Int) (z1164 : Int) (k1165 : Nat) (l1166 : List (List V)) (l1167 : List (List V)) (l1168 : List (List V)) (l1169 : List (List V)) : PT N15_r21 :=
  .ask E14 (F14_ok (3) (l1142) (z1143)) fun (r : A14) => match r with
  | .a0 z1520 l1521 z1522 =>
   .testB (z1520 == 0)
    (fun h0 =>
    .auto 4 <|
    .ret (N15_r21.e0 (l1521) (z1522) (z1144) (z1145) (k1146) (k1147) (k1148) (b1149) (z1150) (z1151) (z1152) (z1153) (z1154) (z1155) (z1156) (z1157) (z1158) (z1159) (z1160) (z1161) (z1162) (z1163) (z1164) (k1165) (true) (l1166) (l1167) (l1168) (l1169))
    )
    (fun h0 =>
    .auto 5 <|
    .ret (N15_r21.e0 (l1521) (z1522) (z1144) (z1145) (k1146) (k1147) (k1148) (b1149) (z1150) (z1151) (z1152) (z1153) (z1154) (z1155) (z1156) (z1157) (z1158) (z1159) (z1160) (z1161) (z1162) (z1163) (z1164) (k1165) (!b1149) (l1166) (l1167) (l1168) (l1169))
    )
noncomputable def J15_r21 (l1142 : List (List V)) (z1143 : Int) (z1144 : Int) (z1145 : Int) (k1146 : Nat) (k1147 : Nat) (k1148 : Nat) (b1149 : Bool) (z1150 : Int) (z1151 : Int) (z1152 : Int) (z1153 : Int) (z1154 : Int) (z1155 : Int) (z1156 : Int) (z1157 : Int) (z1158 : Int) (z1159 : Int) (z1160 : Int) (z1161 : Int) (z1162 : Int) (z1163 : Int) (z1164 : Int) (k1165 : Nat) (l1166 : List (List V)) (l1167 : List (List V)) (l1168 : List (List V)) (l1169 : List (List V)) : Option N15_r21 := (D15_r21 l1142 z1143 z1144 z1145 k1146 k1147 k1148 b1149 z1150 z1151 z1152 z1153 z1154 z1155 z1156 z1157 z1158 z1159 z1160 z1161 z1162 z1163 z1164 k1165 l1166 l1167 l1168 l1169).ev some
theorem J15_r21_ok (l1142 : List (List V)) (z1143 : Int) (z1144 : Int) (z1145 : Int) (k1146 : Nat) (k1147 : Nat) (k1148 : Nat) (b1149 : Bool) (z1150 : Int) (z1151 : Int) (z1152 : Int) (z1153 : Int) (z1154 : Int) (z1155 : Int) (z1156 : Int) (z1157 : Int) (z1158 : Int) (z1159 : Int) (z1160 : Int) (z1161 : Int) (z1162 : Int) (z1163 : Int) (z1164 : Int) (k1165 : Nat) (l1166 : List (List V)) (l1167 : List (List V)) (l1168 : List (List V)) (l1169 : List (List V)) : ∀ b, J15_r21 l1142 z1143 z1144 z1145 k1146 k1147 k1148 b1149 z1150 z1151 z1152 z1153 z1154 z1155 z1156 z1157 z1158 z1159 z1160 z1161 z1162 z1163 z1164 k1165 l1166 l1167 l1168 l1169 = some b → regP Try.prog X CC 15 (1) B15 21 ({ T := V.ptr 0 0 0 :: U :: V.ptr 1 0 0 :: V.ptr 2 0 0 :: un 151 [], σ := [Ob.cells true false 2 [[V.list 1 l1142, i64 z1143]], Ob.cells true false 32 [[i64 0, i64 0, V.hs 3 0 0, V.hs 4 0 0, V.hs 5 0 0, vb false, i64 0, i64 0, u8 0, u8 0, u8 0, u8 0, u8 0, u8 0, u8 0, u8 0, i64 0, i64 0, i64 0, i64 0, i64 0, V.hs 6 0 0, vb false, V.hs 7 0 0, u8 0, u8 0, u8 0, u8 0, i64 0, V.hs 8 0 0, V.hs 9 0 0, V.hs 10 0 0]], Ob.cells true false 32 [[i64 z1144, i64 z1145, V.hs 11 0 k1146, V.hs 12 0 k1147, V.hs 13 0 k1148, vb b1149, i64 z1150, i64 z1151, u8 z1152, u8 z1153, u8 z1154, u8 z1155, u8 z1156, u8 z1157, u8 z1158, u8 z1159, i64 z1160, i64 z1161, i64 z1162, i64 z1163, i64 z1164, V.hs 14 0 k1165, vb false, V.hs 15 0 0, u8 0, u8 0, u8 0, u8 0, i64 0, V.hs 16 0 0, V.hs 17 0 0, V.hs 18 0 0]], Ob.cells true true 7 [], Ob.cells true true 7 [], Ob.cells true true 8 [], Ob.cells true true 10 [], Ob.cells true true 7 [], Ob.cells true true 1 [], Ob.cells true true 7 [], Ob.cells true true 7 [], Ob.cells true true 7 l1166, Ob.cells true true 7 l1167, Ob.cells true true 8 l1168, Ob.cells true true 10 l1169, Ob.cells true true 7 [], Ob.cells true true 1 [], Ob.cells true true 7 [], Ob.cells true true 7 []] }) = some (E15_r21.out b) :=
  reg_ok (E := E15_r21) (fun x => by kernel_rfl)
inductive N15_c90 where
  | e0 (l1086 : List (List V)) (z1087 : Int) (z1088 : Int) (z1089 : Int) (k1090 : Nat) (k1091 : Nat) (k1092 : Nat) (b1093 : Bool) (z1094 : Int) (z1095 : Int) (z1096 : Int) (z1097 : Int) (z1098 : Int) (z1099 : Int) (z1100 : Int) (z1101 : Int) (z1102 : Int) (z1103 : Int) (z1104 : Int) (z1105 : Int) (z1106 : Int) (z1107 : Int) (z1108 : Int) (k1109 : Nat) (l1110 : List (List V)) (l1111 : List (List V)) (l1112 : List (List V)) (l1113 : List (List V))
@[reducible] def N15_c90.out : N15_c90 → VX × S
  | .e0 l1086 z1087 z1088 z1089 k1090 k1091 k1092 b1093 z1094 z1095 z1096 z1097 z1098 z1099 z1100 z1101 z1102 z1103 z1104 z1105 z1106 z1107 z1108 k1109 l1110 l1111 l1112 l1113 => (VX.normal, { T := V.ptr 0 0 0 :: U :: V.ptr 1 0 0 :: V.ptr 2 0 0 :: un 151 [], σ := [Ob.cells true false 2 [[V.list 1 l1086, i64 z1087]], Ob.cells true false 32 [[i64 0, i64 0, V.hs 3 0 0, V.hs 4 0 0, V.hs 5 0 0, vb false, i64 0, i64 0, u8 0, u8 0, u8 0, u8 0, u8 0, u8 0, u8 0, u8 0, i64 0, i64 0, i64 0, i64 0, i64 0, V.hs 6 0 0, vb false, V.hs 7 0 0, u8 0, u8 0, u8 0, u8 0, i64 0, V.hs 8 0 0, V.hs 9 0 0, V.hs 10 0 0]], Ob.cells true false 32 [[i64 z1088, i64 z1089, V.hs 11 0 k1090, V.hs 12 0 k1091, V.hs 13 0 k1092, vb b1093, i64 z1094, i64 z1095, u8 z1096, u8 z1097, u8 z1098, u8 z1099, u8 z1100, u8 z1101, u8 z1102, u8 z1103, i64 z1104, i64 z1105, i64 z1106, i64 z1107, i64 z1108, V.hs 14 0 k1109, vb false, V.hs 15 0 0, u8 0, u8 0, u8 0, u8 0, i64 0, V.hs 16 0 0, V.hs 17 0 0, V.hs 18 0 0]], Ob.cells true true 7 [], Ob.cells true true 7 [], Ob.cells true true 8 [], Ob.cells true true 10 [], Ob.cells true true 7 [], Ob.cells true true 1 [], Ob.cells true true 7 [], Ob.cells true true 7 [], Ob.cells true true 7 l1110, Ob.cells true true 7 l1111, Ob.cells true true 8 l1112, Ob.cells true true 10 l1113, Ob.cells true true 7 [], Ob.cells true true 1 [], Ob.cells true true 7 [], Ob.cells true true 7 []] })
def N15_c90.ex (g : N15_c90 → Prop) : Prop := (∃ (l1086 : List (List V)) (z1087 : Int) (z1088 : Int) (z1089 : Int) (k1090 : Nat) (k1091 : Nat) (k1092 : Nat) (b1093 : Bool) (z1094 : Int) (z1095 : Int) (z1096 : Int) (z1097 : Int) (z1098 : Int) (z1099 : Int) (z1100 : Int) (z1101 : Int) (z1102 : Int) (z1103 : Int) (z1104 : Int) (z1105 : Int) (z1106 : Int) (z1107 : Int) (z1108 : Int) (k1109 : Nat) (l1110 : List (List V)) (l1111 : List (List V)) (l1112 : List (List V)) (l1113 : List (List V)), g (.e0 l1086 z1087 z1088 z1089 k1090 k1091 k1092 b1093 z1094 z1095 z1096 z1097 z1098 z1099 z1100 z1101 z1102 z1103 z1104 z1105 z1106 z1107 z1108 k1109 l1110 l1111 l1112 l1113))
theorem N15_c90.ok (g : N15_c90 → Prop) : N15_c90.ex g ↔ ∃ b, g b := ⟨fun h => match h with
  | ⟨_, _, _, _, _, _, _, _, _, _, _, _, _, _, _, _, _, _, _, _, _, _, _, _, _, _, _, _, h⟩ => ⟨_, h⟩, fun ⟨b, h⟩ => match b, h with
  | .e0 _ _ _ _ _ _ _ _ _ _ _ _ _ _ _ _ _ _ _ _ _ _ _ _ _ _ _ _, h => ⟨_, _, _, _, _, _, _, _, _, _, _, _, _, _, _, _, _, _, _, _, _, _, _, _, _, _, _, _, h⟩⟩
abbrev E15_c90 : Ent (VX × S) := ⟨N15_c90, N15_c90.out, N15_c90.ex, N15_c90.ok⟩
noncomputable def D15_c90 (b1041 : Bool) (l1042 : List (List V)) (z1043 : Int) (z1044 : Int) (z1045 : Int) (k1046 : Nat) (k1047 : Nat) (k1048 : Nat) (b1049 : Bool) (z1050 : Int) (z1051 : Int) (z1052 : Int) (z1053 : Int) (z1054 : Int) (z1055 : Int) (z1056 : Int) (z1057 : Int) (z1058 : Int) (z1059 : Int) (z1060 : Int) (z1061 : Int) (z1062 : Int) (z1063 : Int) (z1064 : Int) (l1065 : List (List V)) (l1066 : List (List V)) (l1067 : List (List V)) : PT N15_c90 :=
  .testB (b1041)
   (fun h0 =>
   .ask E14 (F14_ok (5) (l1042) (z1043)) fun (r : A14) => match r with
   | .a0 z1474 l1475 z1476 =>
    .ask E43 (F43_ok (l1475) (z1476)) fun (r : A43) => match r with
    | .a0 z1477 z1478 z1479 z1480 l1481 z1482 =>
     .ask E14 (F14_ok (9) (l1481) (z1482)) fun (r : A14) => match r with
     | .a0 z1483 l1484 z1485 =>
      .ask E43 (F43_ok (l1484) (z1485)) fun (r : A43) => match r with
      | .a0 z1486 z1487 z1488 z1489 l1490 z1491 =>
       .auto 1 <|
       .ret (N15_c90.e0 (l1490) (z1491) (z1044) (z1045) (k1046) (k1047) (k1048) (b1049) (z1050) (z1051) (z1052) (z1053) (z1054) (z1055) (z1056) (z1057) (z1058) (z1059) (z1060) (z1061) (z1062) (z1063) (z1064) (2) (l1065) (l1066) (l1067) ([[i64 z1474, u8 z1477, u8 z1478, u8 z1479, u8 z1480, i64 1, i64 0, i64 0, i64 0, i64 0], [i64 (w64 (5 + z1483)), u8 z1486, u8 z1487, u8 z1488, u8 z1489, i64 0, i64 0, i64 0, i64 0, i64 0]]))
   )
   (fun h0 =>
   .ret (N15_c90.e0 (l1042) (z1043) (z1044) (z1045) (k1046) (k1047) (k1048) (b1049) (z1050) (z1051) (z1052) (z1053) (z1054) (z1055) (z1056) (z1057) (z1058) (z1059) (z1060) (z1061) (z1062) (z1063) (z1064) (0) (l1065) (l1066) (l1067) ([]))
   )
noncomputable def J15_c90 (b1041 : Bool) (l1042 : List (List V)) (z1043 : Int) (z1044 : Int) (z1045 : Int) (k1046 : Nat) (k1047 : Nat) (k1048 : Nat) (b1049 : Bool) (z1050 : Int) (z1051 : Int) (z1052 : Int) (z1053 : Int) (z1054 : Int) (z1055 : Int) (z1056 : Int) (z1057 : Int) (z1058 : Int) (z1059 : Int) (z1060 : Int) (z1061 : Int) (z1062 : Int) (z1063 : Int) (z1064 : Int) (l1065 : List (List V)) (l1066 : List (List V)) (l1067 : List (List V)) : Option N15_c90 := (D15_c90 b1041 l1042 z1043 z1044 z1045 k1046 k1047 k1048 b1049 z1050 z1051 z1052 z1053 z1054 z1055 z1056 z1057 z1058 z1059 z1060 z1061 z1062 z1063 z1064 l1065 l1066 l1067).ev some
theorem J15_c90_ok (b1041 : Bool) (l1042 : List (List V)) (z1043 : Int) (z1044 : Int) (z1045 : Int) (k1046 : Nat) (k1047 : Nat) (k1048 : Nat) (b1049 : Bool) (z1050 : Int) (z1051 : Int) (z1052 : Int) (z1053 : Int) (z1054 : Int) (z1055 : Int) (z1056 : Int) (z1057 : Int) (z1058 : Int) (z1059 : Int) (z1060 : Int) (z1061 : Int) (z1062 : Int) (z1063 : Int) (z1064 : Int) (l1065 : List (List V)) (l1066 : List (List V)) (l1067 : List (List V)) : ∀ b, J15_c90 b1041 l1042 z1043 z1044 z1045 k1046 k1047 k1048 b1049 z1050 z1051 z1052 z1053 z1054 z1055 z1056 z1057 z1058 z1059 z1060 z1061 z1062 z1063 z1064 l1065 l1066 l1067 = some b → condP Try.prog X CC 15 (1) 18446744073709551616 B15 90 ({ T := V.ptr 0 0 0 :: U :: V.ptr 1 0 0 :: V.ptr 2 0 0 :: un 86 (vb b1041 :: un 64 []), σ := [Ob.cells true false 2 [[V.list 1 l1042, i64 z1043]], Ob.cells true false 32 [[i64 0, i64 0, V.hs 3 0 0, V.hs 4 0 0, V.hs 5 0 0, vb false, i64 0, i64 0, u8 0, u8 0, u8 0, u8 0, u8 0, u8 0, u8 0, u8 0, i64 0, i64 0, i64 0, i64 0, i64 0, V.hs 6 0 0, vb false, V.hs 7 0 0, u8 0, u8 0, u8 0, u8 0, i64 0, V.hs 8 0 0, V.hs 9 0 0, V.hs 10 0 0]], Ob.cells true false 32 [[i64 z1044, i64 z1045, V.hs 11 0 k1046, V.hs 12 0 k1047, V.hs 13 0 k1048, vb b1049, i64 z1050, i64 z1051, u8 z1052, u8 z1053, u8 z1054, u8 z1055, u8 z1056, u8 z1057, u8 z1058, u8 z1059, i64 z1060, i64 z1061, i64 z1062, i64 z1063, i64 z1064, V.hs 14 0 0, vb false, V.hs 15 0 0, u8 0, u8 0, u8 0, u8 0, i64 0, V.hs 16 0 0, V.hs 17 0 0, V.hs 18 0 0]], Ob.cells true true 7 [], Ob.cells true true 7 [], Ob.cells true true 8 [], Ob.cells true true 10 [], Ob.cells true true 7 [], Ob.cells true true 1 [], Ob.cells true true 7 [], Ob.cells true true 7 [], Ob.cells true true 7 l1065, Ob.cells true true 7 l1066, Ob.cells true true 8 l1067, Ob.cells true true 10 [], Ob.cells true true 7 [], Ob.cells true true 1 [], Ob.cells true true 7 [], Ob.cells true true 7 []] }) = some (E15_c90.out b) :=
  cond_ok (E := E15_c90) (L := notIn []) (fun x => by kernel_rfl)
inductive N15_0 where
  | s0 (z246 : Int) (b247 : Bool) (z248 : Int) (z249 : Int) (l250 : List (List V)) (z251 : Int) (z252 : Int) (z253 : Int) (k254 : Nat) (l255 : List (List V))
  | e0 (l970 : List (List V)) (z971 : Int) (z972 : Int) (z973 : Int) (k974 : Nat) (l975 : List (List V))
@[reducible] def N15_0.out : N15_0 → VX × S
  | .s0 z246 b247 z248 z249 l250 z251 z252 z253 k254 l255 => (VX.normal, { T := V.ptr 0 0 0 :: U :: V.ptr 1 0 0 :: V.ptr 2 0 0 :: i64 z246 :: vb b247 :: i64 z248 :: i64 z249 :: un 147 [], σ := [Ob.cells true false 2 [[V.list 1 l250, i64 z251]], Ob.cells true false 32 [[i64 0, i64 0, V.hs 3 0 0, V.hs 4 0 0, V.hs 5 0 0, vb false, i64 0, i64 0, u8 0, u8 0, u8 0, u8 0, u8 0, u8 0, u8 0, u8 0, i64 0, i64 0, i64 0, i64 0, i64 0, V.hs 6 0 0, vb false, V.hs 7 0 0, u8 0, u8 0, u8 0, u8 0, i64 0, V.hs 8 0 0, V.hs 9 0 0, V.hs 10 0 0]], Ob.cells true false 32 [[i64 z252, i64 z253, V.hs 11 0 0, V.hs 12 0 0, V.hs 13 0 k254, vb false, i64 0, i64 0, u8 0, u8 0, u8 0, u8 0, u8 0, u8 0, u8 0, u8 0, i64 0, i64 0, i64 0, i64 0, i64 0, V.hs 14 0 0, vb false, V.hs 15 0 0, u8 0, u8 0, u8 0, u8 0, i64 0, V.hs 16 0 0, V.hs 17 0 0, V.hs 18 0 0]], Ob.cells true true 7 [], Ob.cells true true 7 [], Ob.cells true true 8 [], Ob.cells true true 10 [], Ob.cells true true 7 [], Ob.cells true true 1 [], Ob.cells true true 7 [], Ob.cells true true 7 [], Ob.cells true true 7 [], Ob.cells true true 7 [], Ob.cells true true 8 l255, Ob.cells true true 10 [], Ob.cells true true 7 [], Ob.cells true true 1 [], Ob.cells true true 7 [], Ob.cells true true 7 []] })
  | .e0 l970 z971 z972 z973 k974 l975 => (VX.exit 0, { T := V.ptr 0 0 0 :: U :: V.ptr 1 0 0 :: V.ptr 2 0 0 :: un 151 [], σ := [Ob.cells true false 2 [[V.list 1 l970, i64 z971]], Ob.cells true false 32 [[i64 0, i64 0, V.hs 3 0 0, V.hs 4 0 0, V.hs 5 0 0, vb false, i64 0, i64 0, u8 0, u8 0, u8 0, u8 0, u8 0, u8 0, u8 0, u8 0, i64 0, i64 0, i64 0, i64 0, i64 0, V.hs 6 0 0, vb false, V.hs 7 0 0, u8 0, u8 0, u8 0, u8 0, i64 0, V.hs 8 0 0, V.hs 9 0 0, V.hs 10 0 0]], Ob.cells true false 32 [[i64 z972, i64 z973, V.hs 11 0 0, V.hs 12 0 0, V.hs 13 0 k974, vb false, i64 0, i64 0, u8 0, u8 0, u8 0, u8 0, u8 0, u8 0, u8 0, u8 0, i64 0, i64 0, i64 0, i64 0, i64 0, V.hs 14 0 0, vb false, V.hs 15 0 0, u8 0, u8 0, u8 0, u8 0, i64 0, V.hs 16 0 0, V.hs 17 0 0, V.hs 18 0 0]], Ob.cells true true 7 [], Ob.cells true true 7 [], Ob.cells true true 8 [], Ob.cells true true 10 [], Ob.cells true true 7 [], Ob.cells true true 1 [], Ob.cells true true 7 [], Ob.cells true true 7 [], Ob.cells true true 7 [], Ob.cells true true 7 [], Ob.cells true true 8 l975, Ob.cells true true 10 [], Ob.cells true true 7 [], Ob.cells true true 1 [], Ob.cells true true 7 [], Ob.cells true true 7 []] })
def N15_0.ex (g : N15_0 → Prop) : Prop := (∃ (z246 : Int) (b247 : Bool) (z248 : Int) (z249 : Int) (l250 : List (List V)) (z251 : Int) (z252 : Int) (z253 : Int) (k254 : Nat) (l255 : List (List V)), g (.s0 z246 b247 z248 z249 l250 z251 z252 z253 k254 l255)) ∨ (∃ (l970 : List (List V)) (z971 : Int) (z972 : Int) (z973 : Int) (k974 : Nat) (l975 : List (List V)), g (.e0 l970 z971 z972 z973 k974 l975))
theorem N15_0.ok (g : N15_0 → Prop) : N15_0.ex g ↔ ∃ b, g b := ⟨fun h => match h with
  | .inl ⟨_, _, _, _, _, _, _, _, _, _, h⟩ => ⟨_, h⟩
  | .inr (⟨_, _, _, _, _, _, h⟩) => ⟨_, h⟩, fun ⟨b, h⟩ => match b, h with
  | .s0 _ _ _ _ _ _ _ _ _ _, h => .inl ⟨_, _, _, _, _, _, _, _, _, _, h⟩
  | .e0 _ _ _ _ _ _, h => .inr (⟨_, _, _, _, _, _, h⟩)⟩
abbrev E15_0 : Ent (VX × S) := ⟨N15_0, N15_0.out, N15_0.ex, N15_0.ok⟩
noncomputable def D15_0 (z246 : Int) (b247 : Bool) (z248 : Int) (z249 : Int) (l250 : List (List V)) (z251 : Int) (z252 : Int) (z253 : Int) (k254 : Nat) (l255 : List (List V)) : PT N15_0 :=
  .test (z249 > 0)
   (fun h0 =>
   .ask E13 (F13_ok (z246) (b247) (l250) (z251)) fun (r : A13) => match r with
   | .a0 b1404 k1405 l1406 z1407 l1408 =>
    .auto 1 <|
    .ask E39 (F39_ok (l1406) (z1407)) fun (r : A39) => match r with
    | .a0 z1409 z1410 z1411 z1412 z1413 l1414 z1415 =>
     .auto 4 <|
     .test (0 + k1405 ≤ List.length l1408)
      (fun h1 =>
      .auto 1 <|
      .test (0 + k254 ≤ List.length l255 ∧ (k254 + 1) * 80 ≤ 140737488355328 ∧ k254 + 1 ≤ 140737488355328)
       (fun h2 =>
       .auto 1 <|
       .ask E14 (F14_ok (6) (l1414) (z1415)) fun (r : A14) => match r with
       | .a0 z1416 l1417 z1418 =>
        .ret (N15_0.s0 (z246) (b247) (w64 (w64 (z248 + 1) + z1416)) (w64 (z249 - 1)) (l1417) (z1418) (z252) (z253) (k254 + 1) (List.take k254 l255 ++ [[i64 z248, vb b1404, V.list 2 (List.take k1405 l1408), i64 z1409, i64 z1410, i64 z1411, i64 z1412, i64 z1413]]))
       )
       (fun _ => .fail) -- none
      )
      (fun _ => .fail) -- none
   )
   (fun h0 =>
   .ret (N15_0.e0 (l250) (z251) (z252) (z253) (k254) (l255))
   )
noncomputable def S15_0 : N15_0 → PT N15_0
  | .s0 z246 b247 z248 z249 l250 z251 z252 z253 k254 l255 => D15_0 z246 b247 z248 z249 l250 z251 z252 z253 k254 l255
  | _ => .fail
def N15_0.off : N15_0 → Bool
  | .s0 _ _ _ _ _ _ _ _ _ _ => false
  | _ => true
noncomputable def L15_0 (n : Nat) (b : N15_0) : Option N15_0 := PT.loop (S15_0) N15_0.off n b
theorem L15_0_ok : ∀ (n : Nat) (b : N15_0), N15_0.off b = false → ∀ c, L15_0 n b = some c → loopP Try.prog X CC 15 (1) 18446744073709551616 B15 0 n (E15_0.out b).2 = some (E15_0.out c) :=
  loop_ok (E := E15_0) (step := S15_0) (L := notIn []) (fun b hb => by cases b <;> first | (cases hb; done) | (intro x; kernel_rfl)) (fun b => by cases b <;> rfl)
noncomputable def N15_0.nx (n : Nat) (c : N15_0) : Option N15_0 := match N15_0.off c with
  | true => some c
  | false => L15_0 n c
theorem L15_0_s0 (n : Nat) (z246 : Int) (b247 : Bool) (z248 : Int) (z249 : Int) (l250 : List (List V)) (z251 : Int) (z252 : Int) (z253 : Int) (k254 : Nat) (l255 : List (List V)) : L15_0 (n + 1) (.s0 z246 b247 z248 z249 l250 z251 z252 z253 k254 l255) = (D15_0 z246 b247 z248 z249 l250 z251 z252 z253 k254 l255).ev (N15_0.nx n) := rfl
theorem N15_0.nx_s0 (n : Nat) (z246 : Int) (b247 : Bool) (z248 : Int) (z249 : Int) (l250 : List (List V)) (z251 : Int) (z252 : Int) (z253 : Int) (k254 : Nat) (l255 : List (List V)) : N15_0.nx n (.s0 z246 b247 z248 z249 l250 z251 z252 z253 k254 l255) = L15_0 n (.s0 z246 b247 z248 z249 l250 z251 z252 z253 k254 l255) := rfl
theorem N15_0.nx_e0 (n : Nat) (l970 : List (List V)) (z971 : Int) (z972 : Int) (z973 : Int) (k974 : Nat) (l975 : List (List V)) : N15_0.nx n (.e0 l970 z971 z972 z973 k974 l975) = some (.e0 l970 z971 z972 z973 k974 l975) := rfl
inductive N15_c22 where
  | e0 (l982 : List (List V)) (z983 : Int) (z984 : Int) (z985 : Int) (k986 : Nat) (k987 : Nat) (k988 : Nat) (l989 : List (List V)) (l990 : List (List V)) (l991 : List (List V))
@[reducible] def N15_c22.out : N15_c22 → VX × S
  | .e0 l982 z983 z984 z985 k986 k987 k988 l989 l990 l991 => (VX.normal, { T := V.ptr 0 0 0 :: U :: V.ptr 1 0 0 :: V.ptr 2 0 0 :: un 151 [], σ := [Ob.cells true false 2 [[V.list 1 l982, i64 z983]], Ob.cells true false 32 [[i64 0, i64 0, V.hs 3 0 0, V.hs 4 0 0, V.hs 5 0 0, vb false, i64 0, i64 0, u8 0, u8 0, u8 0, u8 0, u8 0, u8 0, u8 0, u8 0, i64 0, i64 0, i64 0, i64 0, i64 0, V.hs 6 0 0, vb false, V.hs 7 0 0, u8 0, u8 0, u8 0, u8 0, i64 0, V.hs 8 0 0, V.hs 9 0 0, V.hs 10 0 0]], Ob.cells true false 32 [[i64 z984, i64 z985, V.hs 11 0 k986, V.hs 12 0 k987, V.hs 13 0 k988, vb false, i64 0, i64 0, u8 0, u8 0, u8 0, u8 0, u8 0, u8 0, u8 0, u8 0, i64 0, i64 0, i64 0, i64 0, i64 0, V.hs 14 0 0, vb false, V.hs 15 0 0, u8 0, u8 0, u8 0, u8 0, i64 0, V.hs 16 0 0, V.hs 17 0 0, V.hs 18 0 0]], Ob.cells true true 7 [], Ob.cells true true 7 [], Ob.cells true true 8 [], Ob.cells true true 10 [], Ob.cells true true 7 [], Ob.cells true true 1 [], Ob.cells true true 7 [], Ob.cells true true 7 [], Ob.cells true true 7 l989, Ob.cells true true 7 l990, Ob.cells true true 8 l991, Ob.cells true true 10 [], Ob.cells true true 7 [], Ob.cells true true 1 [], Ob.cells true true 7 [], Ob.cells true true 7 []] })
def N15_c22.ex (g : N15_c22 → Prop) : Prop := (∃ (l982 : List (List V)) (z983 : Int) (z984 : Int) (z985 : Int) (k986 : Nat) (k987 : Nat) (k988 : Nat) (l989 : List (List V)) (l990 : List (List V)) (l991 : List (List V)), g (.e0 l982 z983 z984 z985 k986 k987 k988 l989 l990 l991))
theorem N15_c22.ok (g : N15_c22 → Prop) : N15_c22.ex g ↔ ∃ b, g b := ⟨fun h => match h with
  | ⟨_, _, _, _, _, _, _, _, _, _, h⟩ => ⟨_, h⟩, fun ⟨b, h⟩ => match b, h with
  | .e0 _ _ _ _ _ _ _ _ _ _, h => ⟨_, _, _, _, _, _, _, _, _, _, h⟩⟩
abbrev E15_c22 : Ent (VX × S) := ⟨N15_c22, N15_c22.out, N15_c22.ex, N15_c22.ok⟩
noncomputable def D15_c22 (b34 : Bool) (l35 : List (List V)) (z36 : Int) (z37 : Int) (z38 : Int) : PT N15_c22 :=
  .testB (b34)
   (fun h0 =>
   .ask E14 (F14_ok (3) (l35) (z36)) fun (r : A14) => match r with
   | .a0 z1392 l1393 z1394 =>
    .ask E14 (F14_ok (2) (l1393) (z1394)) fun (r : A14) => match r with
    | .a0 z1395 l1396 z1397 =>
     .ask E14 (F14_ok (4) (l1396) (z1397)) fun (r : A14) => match r with
     | .a0 z1398 l1399 z1400 =>
      .ask E14 (F14_ok (3) (l1399) (z1400)) fun (r : A14) => match r with
      | .a0 z1401 l1402 z1403 =>
       .cut E15_0 (L15_0_ok 18446744073709551616 (.s0 (w64 (1 + z1392)) (z1395 == 0) (z1398) (w64 (1 + z1401)) (l1402) (z1403) (z37) (z38) (0) ([])) rfl) fun (r : N15_0) => match r with
       | .e0 l1419 z1420 z1421 z1422 k1423 l1424 =>
        .ret (N15_c22.e0 (l1419) (z1420) (z1421) (z1422) (0) (0) (k1423) ([]) ([]) (l1424))
       | _ => .fail
   )
   (fun h0 =>
   .ask E40 (F40_ok (1) (14) (l35) (z36)) fun (r : A40) => match r with
   | .a0 k1425 l1426 z1427 l1428 =>
    .ask E41 (F41_ok (1) (14) (l1426) (z1427)) fun (r : A41) => match r with
    | .a0 z1429 l1430 z1431 =>
     .auto 1 <|
     .test (0 + k1425 ≤ List.length l1428 ∧ (k1425 + 1) * 56 ≤ 140737488355328 ∧ k1425 + 1 ≤ 140737488355328)
      (fun h1 =>
      .auto 1 <|
      .ask E40 (F40_ok (1) (14) (l1430) (z1431)) fun (r : A40) => match r with
      | .a0 k1432 l1433 z1434 l1435 =>
       .ask E41 (F41_ok (1) (14) (l1433) (z1434)) fun (r : A41) => match r with
       | .a0 z1436 l1437 z1438 =>
        .auto 1 <|
        .test (0 + k1432 ≤ List.length l1435 ∧ (k1432 + 1) * 56 ≤ 140737488355328 ∧ k1432 + 1 ≤ 140737488355328)
         (fun h2 =>
         .auto 1 <|
         .ret (N15_c22.e0 (l1437) (z1438) (z37) (z38) (k1425 + 1) (k1432 + 1) (0) (List.take k1425 l1428 ++ [[i64 60, i64 z1429, i64 0, i64 0, i64 0, i64 0, i64 0]]) (List.take k1432 l1435 ++ [[i64 60, i64 z1436, i64 0, i64 0, i64 0, i64 0, i64 0]]) ([]))
         )
         (fun _ => .fail) -- none
      )
      (fun _ => .fail) -- none
   )
noncomputable def J15_c22 (b34 : Bool) (l35 : List (List V)) (z36 : Int) (z37 : Int) (z38 : Int) : Option N15_c22 := (D15_c22 b34 l35 z36 z37 z38).ev some
theorem J15_c22_ok (b34 : Bool) (l35 : List (List V)) (z36 : Int) (z37 : Int) (z38 : Int) : ∀ b, J15_c22 b34 l35 z36 z37 z38 = some b → condP Try.prog X CC 15 (1) 18446744073709551616 B15 22 ({ T := V.ptr 0 0 0 :: U :: V.ptr 1 0 0 :: V.ptr 2 0 0 :: un 18 (vb b34 :: un 132 []), σ := [Ob.cells true false 2 [[V.list 1 l35, i64 z36]], Ob.cells true false 32 [[i64 0, i64 0, V.hs 3 0 0, V.hs 4 0 0, V.hs 5 0 0, vb false, i64 0, i64 0, u8 0, u8 0, u8 0, u8 0, u8 0, u8 0, u8 0, u8 0, i64 0, i64 0, i64 0, i64 0, i64 0, V.hs 6 0 0, vb false, V.hs 7 0 0, u8 0, u8 0, u8 0, u8 0, i64 0, V.hs 8 0 0, V.hs 9 0 0, V.hs 10 0 0]], Ob.cells true false 32 [[i64 z37, i64 z38, V.hs 11 0 0, V.hs 12 0 0, V.hs 13 0 0, vb false, i64 0, i64 0, u8 0, u8 0, u8 0, u8 0, u8 0, u8 0, u8 0, u8 0, i64 0, i64 0, i64 0, i64 0, i64 0, V.hs 14 0 0, vb false, V.hs 15 0 0, u8 0, u8 0, u8 0, u8 0, i64 0, V.hs 16 0 0, V.hs 17 0 0, V.hs 18 0 0]], Ob.cells true true 7 [], Ob.cells true true 7 [], Ob.cells true true 8 [], Ob.cells true true 10 [], Ob.cells true true 7 [], Ob.cells true true 1 [], Ob.cells true true 7 [], Ob.cells true true 7 [], Ob.cells true true 7 [], Ob.cells true true 7 [], Ob.cells true true 8 [], Ob.cells true true 10 [], Ob.cells true true 7 [], Ob.cells true true 1 [], Ob.cells true true 7 [], Ob.cells true true 7 []] }) = some (E15_c22.out b) :=
  cond_ok (E := E15_c22) (L := notIn []) (fun x => by kernel_rfl)
inductive N15_c15 where
  | e0 (l26 : List (List V)) (z27 : Int) (z28 : Int) (z29 : Int)
@[reducible] def N15_c15.out : N15_c15 → VX × S
  | .e0 l26 z27 z28 z29 => (VX.normal, { T := V.ptr 0 0 0 :: U :: V.ptr 1 0 0 :: V.ptr 2 0 0 :: un 151 [], σ := [Ob.cells true false 2 [[V.list 1 l26, i64 z27]], Ob.cells true false 32 [[i64 0, i64 0, V.hs 3 0 0, V.hs 4 0 0, V.hs 5 0 0, vb false, i64 0, i64 0, u8 0, u8 0, u8 0, u8 0, u8 0, u8 0, u8 0, u8 0, i64 0, i64 0, i64 0, i64 0, i64 0, V.hs 6 0 0, vb false, V.hs 7 0 0, u8 0, u8 0, u8 0, u8 0, i64 0, V.hs 8 0 0, V.hs 9 0 0, V.hs 10 0 0]], Ob.cells true false 32 [[i64 z28, i64 z29, V.hs 11 0 0, V.hs 12 0 0, V.hs 13 0 0, vb false, i64 0, i64 0, u8 0, u8 0, u8 0, u8 0, u8 0, u8 0, u8 0, u8 0, i64 0, i64 0, i64 0, i64 0, i64 0, V.hs 14 0 0, vb false, V.hs 15 0 0, u8 0, u8 0, u8 0, u8 0, i64 0, V.hs 16 0 0, V.hs 17 0 0, V.hs 18 0 0]], Ob.cells true true 7 [], Ob.cells true true 7 [], Ob.cells true true 8 [], Ob.cells true true 10 [], Ob.cells true true 7 [], Ob.cells true true 1 [], Ob.cells true true 7 [], Ob.cells true true 7 [], Ob.cells true true 7 [], Ob.cells true true 7 [], Ob.cells true true 8 [], Ob.cells true true 10 [], Ob.cells true true 7 [], Ob.cells true true 1 [], Ob.cells true true 7 [], Ob.cells true true 7 []] })
def N15_c15.ex (g : N15_c15 → Prop) : Prop := (∃ (l26 : List (List V)) (z27 : Int) (z28 : Int) (z29 : Int), g (.e0 l26 z27 z28 z29))
theorem N15_c15.ok (g : N15_c15 → Prop) : N15_c15.ex g ↔ ∃ b, g b := ⟨fun h => match h with
  | ⟨_, _, _, _, h⟩ => ⟨_, h⟩, fun ⟨b, h⟩ => match b, h with
  | .e0 _ _ _ _, h => ⟨_, _, _, _, h⟩⟩
abbrev E15_c15 : Ent (VX × S) := ⟨N15_c15, N15_c15.out, N15_c15.ex, N15_c15.ok⟩
noncomputable def D15_c15 (b19 : Bool) (l20 : List (List V)) (z21 : Int) (z22 : Int) : PT N15_c15 :=
  .testB (b19)
   (fun h0 =>
   .ask E14 (F14_ok (5) (l20) (z21)) fun (r : A14) => match r with
   | .a0 z1385 l1386 z1387 =>
    .auto 1 <|
    .ret (N15_c15.e0 (l1386) (z1387) (z22) (w64 (2 + z1385)))
   )
   (fun h0 =>
   .ret (N15_c15.e0 (l20) (z21) (z22) (0))
   )
noncomputable def J15_c15 (b19 : Bool) (l20 : List (List V)) (z21 : Int) (z22 : Int) : Option N15_c15 := (D15_c15 b19 l20 z21 z22).ev some
theorem J15_c15_ok (b19 : Bool) (l20 : List (List V)) (z21 : Int) (z22 : Int) : ∀ b, J15_c15 b19 l20 z21 z22 = some b → condP Try.prog X CC 15 (1) 18446744073709551616 B15 15 ({ T := V.ptr 0 0 0 :: U :: V.ptr 1 0 0 :: V.ptr 2 0 0 :: un 11 (vb b19 :: un 139 []), σ := [Ob.cells true false 2 [[V.list 1 l20, i64 z21]], Ob.cells true false 32 [[i64 0, i64 0, V.hs 3 0 0, V.hs 4 0 0, V.hs 5 0 0, vb false, i64 0, i64 0, u8 0, u8 0, u8 0, u8 0, u8 0, u8 0, u8 0, u8 0, i64 0, i64 0, i64 0, i64 0, i64 0, V.hs 6 0 0, vb false, V.hs 7 0 0, u8 0, u8 0, u8 0, u8 0, i64 0, V.hs 8 0 0, V.hs 9 0 0, V.hs 10 0 0]], Ob.cells true false 32 [[i64 z22, i64 0, V.hs 11 0 0, V.hs 12 0 0, V.hs 13 0 0, vb false, i64 0, i64 0, u8 0, u8 0, u8 0, u8 0, u8 0, u8 0, u8 0, u8 0, i64 0, i64 0, i64 0, i64 0, i64 0, V.hs 14 0 0, vb false, V.hs 15 0 0, u8 0, u8 0, u8 0, u8 0, i64 0, V.hs 16 0 0, V.hs 17 0 0, V.hs 18 0 0]], Ob.cells true true 7 [], Ob.cells true true 7 [], Ob.cells true true 8 [], Ob.cells true true 10 [], Ob.cells true true 7 [], Ob.cells true true 1 [], Ob.cells true true 7 [], Ob.cells true true 7 [], Ob.cells true true 7 [], Ob.cells true true 7 [], Ob.cells true true 8 [], Ob.cells true true 10 [], Ob.cells true true 7 [], Ob.cells true true 1 [], Ob.cells true true 7 [], Ob.cells true true 7 []] }) = some (E15_c15.out b) :=
  cond_ok (E := E15_c15) (L := notIn []) (fun x => by kernel_rfl)
noncomputable def D15 (l2 : List (List V)) (z3 : Int) : PT A15 :=
  .ask E14 (F14_ok (4) (l2) (z3)) fun (r : A14) => match r with
  | .a0 z1382 l1383 z1384 =>
   .auto 2 <|
   .cut E15_c15 (J15_c15_ok (z1382 == 2) (l1383) (z1384) (z1382)) fun (r : N15_c15) => match r with
   | .e0 l1388 z1389 z1390 z1391 =>
    .auto 1 <|
    .cut E15_c22 (J15_c22_ok (z1390 == 3) (l1388) (z1389) (z1390) (z1391)) fun (r : N15_c22) => match r with
    | .e0 l1439 z1440 z1441 z1442 k1443 k1444 k1445 l1446 l1447 l1448 =>
     .ask E14 (F14_ok (3) (l1439) (z1440)) fun (r : A14) => match r with
     | .a0 z1449 l1450 z1451 =>
      .auto 1 <|
      .ask E14 (F14_ok (2) (l1450) (z1451)) fun (r : A14) => match r with
      | .a0 z1452 l1453 z1454 =>
       .auto 1 <|
       .ask E42 (F42_ok (l1453) (z1454)) fun (r : A42) => match r with
       | .a0 z1455 z1456 z1457 z1458 z1459 z1460 z1461 z1462 z1463 z1464 z1465 z1466 z1467 z1468 l1469 z1470 =>
        .auto 1 <|
        .ask E14 (F14_ok (3) (l1469) (z1470)) fun (r : A14) => match r with
        | .a0 z1471 l1472 z1473 =>
         .cut E15_c90 (J15_c90_ok (z1471 == 0) (l1472) (z1473) (z1441) (z1442) (k1443) (k1444) (k1445) (decide (z1449 > 0)) (z1452) (z1455) (z1456) (z1457) (z1458) (z1459) (z1460) (z1461) (z1462) (z1463) (z1464) (z1465) (z1466) (z1467) (z1468) (l1446) (l1447) (l1448)) fun (r : N15_c90) => match r with
         | .e0 l1492 z1493 z1494 z1495 k1496 k1497 k1498 b1499 z1500 z1501 z1502 z1503 z1504 z1505 z1506 z1507 z1508 z1509 z1510 z1511 z1512 z1513 z1514 k1515 l1516 l1517 l1518 l1519 =>
          .cut E15_r21 (J15_r21_ok (l1492) (z1493) (z1494) (z1495) (k1496) (k1497) (k1498) (b1499) (z1500) (z1501) (z1502) (z1503) (z1504) (z1505) (z1506) (z1507) (z1508) (z1509) (z1510) (z1511) (z1512) (z1513) (z1514) (k1515) (l1516) (l1517) (l1518) (l1519)) fun (r : N15_r21) => match r with
          | .e0 l1523 z1524 z1525 z1526 k1527 k1528 k1529 b1530 z1531 z1532 z1533 z1534 z1535 z1536 z1537 z1538 z1539 z1540 z1541 z1542 z1543 z1544 z1545 k1546 b1547 l1548 l1549 l1550 l1551 =>
           .auto 1 <|
           .testB (b1547)
            (fun h0 =>
            .ask E40 (F40_ok (0) (4) (l1523) (z1524)) fun (r : A40) => match r with
            | .a0 k1552 l1553 z1554 l1555 =>
             .ask E41 (F41_ok (1) (4) (l1553) (z1554)) fun (r : A41) => match r with
             | .a0 z1556 l1557 z1558 =>
              .auto 1 <|
              .test (0 + k1552 ≤ List.length l1555 ∧ (k1552 + 1) * 56 ≤ 140737488355328 ∧ k1552 + 1 ≤ 140737488355328)
               (fun h1 =>
               .auto 1 <|
               .ask E43 (F43_ok (l1557) (z1558)) fun (r : A43) => match r with
               | .a0 z1559 z1560 z1561 z1562 l1563 z1564 =>
                .auto 1 <|
                .ask E14 (F14_ok (2) (l1563) (z1564)) fun (r : A14) => match r with
                | .a0 z1565 l1566 z1567 =>
                 .auto 1 <|
                 .ask E14 (F14_ok (4) (l1566) (z1567)) fun (r : A14) => match r with
                 | .a0 z1568 l1569 z1570 =>
                  .ask E14 (F14_ok (2) (l1569) (z1570)) fun (r : A14) => match r with
                  | .a0 z1571 l1572 z1573 =>
                   .cut E15_2 (L15_2_ok 18446744073709551616 (.s0 (w64 (z1568 * z1571)) (l1572) (z1573) (z1525) (z1526) (k1527) (k1528) (k1529) (b1530) (z1531) (z1532) (z1533) (z1534) (z1535) (z1536) (z1537) (z1538) (z1539) (z1540) (z1541) (z1542) (z1543) (z1544) (z1545) (k1546) (b1547) (k1552 + 1) (z1559) (z1560) (z1561) (z1562) (z1565) (0) (l1548) (l1549) (l1550) (l1551) (List.take k1552 l1555 ++ [[i64 60, i64 z1556, i64 0, i64 0, i64 0, i64 0, i64 0]]) ([])) rfl) fun (r : N15_2) => match r with
                   | .e0 l1577 z1578 z1579 z1580 k1581 k1582 k1583 b1584 z1585 z1586 z1587 z1588 z1589 z1590 z1591 z1592 z1593 z1594 z1595 z1596 z1597 z1598 z1599 k1600 b1601 k1602 z1603 z1604 z1605 z1606 z1607 k1608 l1609 l1610 l1611 l1612 l1613 l1614 =>
                    .ask E14 (F14_ok (2) (l1577) (z1578)) fun (r : A14) => match r with
                    | .a0 z1615 l1616 z1617 =>
                     .testB (z1615 == 0)
                      (fun h2 =>
                      .ask E40 (F40_ok (0) (1) (l1616) (z1617)) fun (r : A40) => match r with
                      | .a0 k1618 l1619 z1620 l1621 =>
                       .ask E40 (F40_ok (0) (1) (l1619) (z1620)) fun (r : A40) => match r with
                       | .a0 k1622 l1623 z1624 l1625 =>
                        .auto 4 <|
                        .ret (A15.a0 (z1579) (z1580) (k1581) (k1582) (k1583) (b1584) (z1585) (z1586) (z1587) (z1588) (z1589) (z1590) (z1591) (z1592) (z1593) (z1594) (z1595) (z1596) (z1597) (z1598) (z1599) (k1600) (b1601) (k1602) (z1603) (z1604) (z1605) (z1606) (z1607) (k1608) (k1618) (k1622) (l1623) (z1624) (l1609) (l1610) (l1611) (l1612) (l1613) (l1614) (l1621) (l1625))
                      )
                      (fun h2 =>
                      .auto 2 <|
                      .ret (A15.a0 (z1579) (z1580) (k1581) (k1582) (k1583) (b1584) (z1585) (z1586) (z1587) (z1588) (z1589) (z1590) (z1591) (z1592) (z1593) (z1594) (z1595) (z1596) (z1597) (z1598) (z1599) (k1600) (b1601) (k1602) (z1603) (z1604) (z1605) (z1606) (z1607) (k1608) (0) (0) (l1616) (z1617) (l1609) (l1610) (l1611) (l1612) (l1613) (l1614) ([]) ([]))
                      )
                   | _ => .fail
               )
               (fun _ => .fail) -- none
            )
            (fun h0 =>
            .auto 2 <|
            .ret (A15.a0 (z1525) (z1526) (k1527) (k1528) (k1529) (b1530) (z1531) (z1532) (z1533) (z1534) (z1535) (z1536) (z1537) (z1538) (z1539) (z1540) (z1541) (z1542) (z1543) (z1544) (z1545) (k1546) (b1547) (0) (0) (0) (0) (0) (0) (0) (0) (0) (l1523) (z1524) (l1548) (l1549) (l1550) (l1551) ([]) ([]) ([]) ([]))
            )
noncomputable def F15 (l2 : List (List V)) (z3 : Int) : Option A15 := (D15 l2 z3).ev some
theorem F15_ok (l2 : List (List V)) (z3 : Int) : ∀ b, F15 l2 z3 = some b → UU 15 ([V.ptr 0 0 0]) ([Ob.cells true false 2 [[V.list 1 l2, i64 z3]]]) = some (A15.out b) :=
  fn_ok (E := E15) (L := notIn []) rfl rfl (fun x => by kernel_rfl)
/-! ## F76 -/
noncomputable abbrev B76 : Code := (Try.f76.body).getD .skip
inductive N76_0 where
  | s0 (l1707 : List (List V)) (z1708 : Int) (z1709 : Int)
  | e0 (z1711 : Int)
  | e1
@[reducible] def N76_0.out : N76_0 → VX × S
  | .s0 l1707 z1708 z1709 => (VX.normal, { T := V.list 7 l1707 :: i64 z1708 :: U :: U :: U :: i64 z1709 :: un 15 [], σ := [] })
  | .e0 z1711 => (VX.ret, { T := un 4 (i64 z1711 :: un 16 []), σ := [] })
  | .e1 => (VX.exit 0, { T := un 21 [], σ := [] })
def N76_0.ex (g : N76_0 → Prop) : Prop := (∃ (l1707 : List (List V)) (z1708 : Int) (z1709 : Int), g (.s0 l1707 z1708 z1709)) ∨ (∃ (z1711 : Int), g (.e0 z1711)) ∨ g .e1
theorem N76_0.ok (g : N76_0 → Prop) : N76_0.ex g ↔ ∃ b, g b := ⟨fun h => match h with
  | .inl ⟨_, _, _, h⟩ => ⟨_, h⟩
  | .inr (.inl ⟨_, h⟩) => ⟨_, h⟩
  | .inr (.inr (h)) => ⟨_, h⟩, fun ⟨b, h⟩ => match b, h with
  | .s0 _ _ _, h => .inl ⟨_, _, _, h⟩
  | .e0 _, h => .inr (.inl ⟨_, h⟩)
  | .e1, h => .inr (.inr (h))⟩
abbrev E76_0 : Ent (VX × S) := ⟨N76_0, N76_0.out, N76_0.ex, N76_0.ok⟩
noncomputable def D76_0 (l1707 : List (List V)) (z1708 : Int) (z1709 : Int) : PT N76_0 :=
  .test (z1709 ≥ 0)
   (fun h0 =>
   .test (0 ≤ z1709)
    (fun h1 =>
    .look RW61 (l1707[Int.toNat z1709]?) fun e1714 =>
    .test (e1714.c0 ≤ z1708)
     (fun h2 =>
     .ret (N76_0.e0 (z1709))
     )
     (fun h2 =>
     .ret (N76_0.s0 (l1707) (z1708) (w64 (z1709 - 1)))
     )
    )
    (fun _ => .fail) -- none
   )
   (fun h0 =>
   .ret (N76_0.e1)
   )
noncomputable def S76_0 : N76_0 → PT N76_0
  | .s0 l1707 z1708 z1709 => D76_0 l1707 z1708 z1709
  | _ => .fail
def N76_0.off : N76_0 → Bool
  | .s0 _ _ _ => false
  | _ => true
noncomputable def L76_0 (n : Nat) (b : N76_0) : Option N76_0 := PT.loop (S76_0) N76_0.off n b
theorem L76_0_ok : ∀ (n : Nat) (b : N76_0), N76_0.off b = false → ∀ c, L76_0 n b = some c → loopP Try.prog X CC 76 (0) 18446744073709551616 B76 0 n (E76_0.out b).2 = some (E76_0.out c) :=
  loop_ok (E := E76_0) (step := S76_0) (L := notIn []) (fun b hb => by cases b <;> first | (cases hb; done) | (intro x; kernel_rfl)) (fun b => by cases b <;> rfl)
noncomputable def N76_0.nx (n : Nat) (c : N76_0) : Option N76_0 := match N76_0.off c with
  | true => some c
  | false => L76_0 n c
theorem L76_0_s0 (n : Nat) (l1707 : List (List V)) (z1708 : Int) (z1709 : Int) : L76_0 (n + 1) (.s0 l1707 z1708 z1709) = (D76_0 l1707 z1708 z1709).ev (N76_0.nx n) := rfl
theorem N76_0.nx_s0 (n : Nat) (l1707 : List (List V)) (z1708 : Int) (z1709 : Int) : N76_0.nx n (.s0 l1707 z1708 z1709) = L76_0 n (.s0 l1707 z1708 z1709) := rfl
theorem N76_0.nx_e0 (n : Nat) (z1711 : Int) : N76_0.nx n (.e0 z1711) = some (.e0 z1711) := rfl
theorem N76_0.nx_e1 (n : Nat) : N76_0.nx n (.e1) = some (.e1) := rfl
noncomputable def D76 (l1705 : List (List V)) (z1706 : Int) : PT A76 :=
  .cut E76_0 (L76_0_ok 18446744073709551616 (.s0 (l1705) (z1706) (w64 ((↑(List.length l1705) : Int) - 1))) rfl) fun (r : N76_0) => match r with
  | .e0 z1715 =>
   .ret (A76.a0 (z1715))
  | .e1 =>
   .ret (A76.a0 (-1))
  | _ => .fail
noncomputable def F76 (l1705 : List (List V)) (z1706 : Int) : Option A76 := (D76 l1705 z1706).ev some
theorem F76_ok (l1705 : List (List V)) (z1706 : Int) : ∀ b, F76 l1705 z1706 = some b → UU 76 ([V.list 7 l1705, i64 z1706]) ([]) = some (A76.out b) :=
  fn_ok (E := E76) (L := notIn []) rfl rfl (fun x => by kernel_rfl)
/-! ## F118 -/
noncomputable def D118 (z1725 : Int) (z1726 : Int) (z1727 : Int) : PT (Int) :=
  .test (z1725 < z1726)
   (fun h0 =>
   .ret (z1726)
   )
   (fun h0 =>
   .test (z1725 > z1727)
    (fun h1 =>
    .ret (z1727)
    )
    (fun h1 =>
    .ret (z1725)
    )
   )
@[reducible] def O118 (z1728 : Int) : V × Store := (i64 z1728, [])
noncomputable def F118 (z1725 : Int) (z1726 : Int) (z1727 : Int) : Int := (D118 z1725 z1726 z1727).evT
theorem F118_ok (z1725 : Int) (z1726 : Int) (z1727 : Int) : UU 118 ([i64 z1725, i64 z1726, i64 z1727]) ([]) = some (O118 (F118 z1725 z1726 z1727)) :=
  fnT_ok (out := O118) (L := notIn []) rfl rfl (fun x => by kernel_rfl) (by simp [D118, PT.isT])
/-! ## F98 -/
noncomputable def D98 (z1724 : Int) : PT (Int) :=
  .tot O118 (F118_ok (z1724) (-1099511627776) (1099511627776)) fun z1729 =>
  .ret (z1729)
@[reducible] def O98 (z1730 : Int) : V × Store := (i64 z1730, [])
noncomputable def F98 (z1724 : Int) : Int := (D98 z1724).evT
theorem F98_ok (z1724 : Int) : UU 98 ([i64 z1724]) ([]) = some (O98 (F98 z1724)) :=
  fnT_ok (out := O98) (L := notIn []) rfl rfl (fun x => by kernel_rfl) (by simp [D98, PT.isT])
/-! ## F72 -/
noncomputable def D72 (z1721 : Int) (z1722 : Int) (z1723 : Int) : PT A72 :=
  .tot O98 (F98_ok (z1721)) fun z1731 =>
  .tot O98 (F98_ok (z1722)) fun z1732 =>
  .tot O98 (F98_ok (z1723)) fun z1733 =>
  .test (z1733 ≤ z1731)
   (fun h0 =>
   .ret (A72.a0 (0))
   )
   (fun h0 =>
   .test (z1733 ≥ z1732)
    (fun h1 =>
    .ret (A72.a0 (65536))
    )
    (fun h1 =>
    .test (w64 (z1732 - z1731) = 0)
     (fun _ => .fail) -- none
     (fun h2 =>
     .ret (A72.a0 (w64 (Int.tdiv (w64 (w64 (z1733 - z1731) * 65536)) (w64 (z1732 - z1731)))))
     )
    )
   )
noncomputable def F72 (z1721 : Int) (z1722 : Int) (z1723 : Int) : Option A72 := (D72 z1721 z1722 z1723).ev some
theorem F72_ok (z1721 : Int) (z1722 : Int) (z1723 : Int) : ∀ b, F72 z1721 z1722 z1723 = some b → UU 72 ([i64 z1721, i64 z1722, i64 z1723]) ([]) = some (A72.out b) :=
  fn_ok (E := E72) (L := notIn []) rfl rfl (fun x => by kernel_rfl)
/-! ## F113 -/
noncomputable def D113 (z1764 : Int) (z1765 : Int) : PT A113 :=
  .auto 5 <|
  .ret (A113.a0 (IntKind.wrap IntKind.u64 (IntKind.wrap IntKind.u64 (IntKind.wrap IntKind.u64 (Int.fdiv z1764 4294967296 * Int.fdiv z1765 4294967296) + Int.fdiv (IntKind.wrap IntKind.u64 (IntKind.wrap IntKind.u64 (Int.fdiv z1764 4294967296 * IntKind.wrap IntKind.u64 (↑(BitVec.toNat (BitVec.ofInt (IntKind.bits IntKind.u64) z1765 &&& BitVec.ofInt (IntKind.bits IntKind.u64) 4294967295)) : Int)) + Int.fdiv (IntKind.wrap IntKind.u64 (IntKind.wrap IntKind.u64 (↑(BitVec.toNat (BitVec.ofInt (IntKind.bits IntKind.u64) z1764 &&& BitVec.ofInt (IntKind.bits IntKind.u64) 4294967295)) : Int) * IntKind.wrap IntKind.u64 (↑(BitVec.toNat (BitVec.ofInt (IntKind.bits IntKind.u64) z1765 &&& BitVec.ofInt (IntKind.bits IntKind.u64) 4294967295)) : Int))) 4294967296)) 4294967296) + Int.fdiv (IntKind.wrap IntKind.u64 (IntKind.wrap IntKind.u64 (↑(BitVec.toNat (BitVec.ofInt (IntKind.bits IntKind.u64) (IntKind.wrap IntKind.u64 (IntKind.wrap IntKind.u64 (Int.fdiv z1764 4294967296 * IntKind.wrap IntKind.u64 (↑(BitVec.toNat (BitVec.ofInt (IntKind.bits IntKind.u64) z1765 &&& BitVec.ofInt (IntKind.bits IntKind.u64) 4294967295)) : Int)) + Int.fdiv (IntKind.wrap IntKind.u64 (IntKind.wrap IntKind.u64 (↑(BitVec.toNat (BitVec.ofInt (IntKind.bits IntKind.u64) z1764 &&& BitVec.ofInt (IntKind.bits IntKind.u64) 4294967295)) : Int) * IntKind.wrap IntKind.u64 (↑(BitVec.toNat (BitVec.ofInt (IntKind.bits IntKind.u64) z1765 &&& BitVec.ofInt (IntKind.bits IntKind.u64) 4294967295)) : Int))) 4294967296)) &&& BitVec.ofInt (IntKind.bits IntKind.u64) 4294967295)) : Int) + IntKind.wrap IntKind.u64 (IntKind.wrap IntKind.u64 (↑(BitVec.toNat (BitVec.ofInt (IntKind.bits IntKind.u64) z1764 &&& BitVec.ofInt (IntKind.bits IntKind.u64) 4294967295)) : Int) * Int.fdiv z1765 4294967296))) 4294967296)) (IntKind.wrap IntKind.u64 (z1764 * z1765)))
noncomputable def F113 (z1764 : Int) (z1765 : Int) : Option A113 := (D113 z1764 z1765).ev some
theorem F113_ok (z1764 : Int) (z1765 : Int) : ∀ b, F113 z1764 z1765 = some b → UU 113 ([V.int IntKind.u64 z1764, V.int IntKind.u64 z1765]) ([]) = some (A113.out b) :=
  fn_ok (E := E113) (L := notIn []) rfl rfl (fun x => by kernel_rfl)
/-! ## F109 -/
noncomputable def D109 (z1762 : Int) (z1763 : Int) : PT A109 :=
  .ask E113 (F113_ok (IntKind.wrap IntKind.u64 z1762) (IntKind.wrap IntKind.u64 z1763)) fun (r : A113) => match r with
  | .a0 z1768 z1769 =>
   .test (z1762 < 0)
    (fun h0 =>
    .test (z1763 < 0)
     (fun h1 =>
     .ret (A109.a0 (IntKind.wrap IntKind.u64 (IntKind.wrap IntKind.u64 (z1768 - IntKind.wrap IntKind.u64 z1763) - IntKind.wrap IntKind.u64 z1762)) (z1769))
     )
     (fun h1 =>
     .ret (A109.a0 (IntKind.wrap IntKind.u64 (z1768 - IntKind.wrap IntKind.u64 z1763)) (z1769))
     )
    )
    (fun h0 =>
    .test (z1763 < 0)
     (fun h1 =>
     .ret (A109.a0 (IntKind.wrap IntKind.u64 (z1768 - IntKind.wrap IntKind.u64 z1762)) (z1769))
     )
     (fun h1 =>
     .ret (A109.a0 (z1768) (z1769))
     )
    )
noncomputable def F109 (z1762 : Int) (z1763 : Int) : Option A109 := (D109 z1762 z1763).ev some
theorem F109_ok (z1762 : Int) (z1763 : Int) : ∀ b, F109 z1762 z1763 = some b → UU 109 ([i64 z1762, i64 z1763]) ([]) = some (A109.out b) :=
  fn_ok (E := E109) (L := notIn []) rfl rfl (fun x => by kernel_rfl)
/-! ## F108 -/
noncomputable abbrev B108 : Code := (Try.f108.body).getD .skip
inductive N108_r3 where
  | e0 (z1780 : Int) (z1781 : Int) (b1782 : Bool)
@[reducible] def N108_r3.out : N108_r3 → VX × S
  | .e0 z1780 z1781 b1782 => (VX.normal, { T := un 5 (i64 z1780 :: V.int IntKind.u64 z1781 :: un 8 (vb b1782 :: un 25 [])), σ := [] })
def N108_r3.ex (g : N108_r3 → Prop) : Prop := (∃ (z1780 : Int) (z1781 : Int) (b1782 : Bool), g (.e0 z1780 z1781 b1782))
theorem N108_r3.ok (g : N108_r3 → Prop) : N108_r3.ex g ↔ ∃ b, g b := ⟨fun h => match h with
  | ⟨_, _, _, h⟩ => ⟨_, h⟩, fun ⟨b, h⟩ => match b, h with
  | .e0 _ _ _, h => ⟨_, _, _, h⟩⟩
abbrev E108_r3 : Ent (VX × S) := ⟨N108_r3, N108_r3.out, N108_r3.ex, N108_r3.ok⟩
noncomputable def D108_r3 (z1776 : Int) (z1777 : Int) : PT N108_r3 :=
  .test (z1776 < -1)
   (fun h0 =>
   .auto 4 <|
   .ret (N108_r3.e0 (z1776) (z1777) (true))
   )
   (fun h0 =>
   .auto 2 <|
   .testB (z1776 == -1)
    (fun h1 =>
    .auto 6 <|
    .ret (N108_r3.e0 (z1776) (z1777) (Int.fdiv z1777 9223372036854775808 == 0))
    )
    (fun h1 =>
    .auto 5 <|
    .ret (N108_r3.e0 (z1776) (z1777) (false))
    )
   )
noncomputable def J108_r3 (z1776 : Int) (z1777 : Int) : Option N108_r3 := (D108_r3 z1776 z1777).ev some
theorem J108_r3_ok (z1776 : Int) (z1777 : Int) : ∀ b, J108_r3 z1776 z1777 = some b → regP Try.prog X CC 108 (0) B108 3 ({ T := un 5 (i64 z1776 :: V.int IntKind.u64 z1777 :: un 34 []), σ := [] }) = some (E108_r3.out b) :=
  reg_ok (E := E108_r3) (fun x => by kernel_rfl)
noncomputable def D108 (z1774 : Int) (z1775 : Int) : PT A108 :=
  .auto 3 <|
  .cut E108_r3 (J108_r3_ok (Int.fdiv (w64 z1774) 65536) (IntKind.wrap IntKind.u64 (↑(BitVec.toNat (BitVec.ofInt (IntKind.bits IntKind.u64) (IntKind.wrap IntKind.u64 (z1774 * 2 ^ min (Int.toNat 48) (IntKind.bits IntKind.u64))) ||| BitVec.ofInt (IntKind.bits IntKind.u64) (Int.fdiv z1775 (2 ^ min (Int.toNat 16) (IntKind.bits IntKind.u64))))) : Int))) fun (r : N108_r3) => match r with
  | .e0 z1787 z1788 b1789 =>
   .testB (b1789)
    (fun h0 =>
    .ret (A108.a0 (-9223372036854775808))
    )
    (fun h0 =>
    .test (z1787 > 0)
     (fun h1 =>
     .auto 5 <|
     .ret (A108.a0 (9223372036854775807))
     )
     (fun h1 =>
     .auto 2 <|
     .testB (z1787 == 0)
      (fun h2 =>
      .auto 6 <|
      .testB (Int.fdiv z1788 9223372036854775808 != 0)
       (fun h3 =>
       .ret (A108.a0 (9223372036854775807))
       )
       (fun h3 =>
       .ret (A108.a0 (w64 z1788))
       )
      )
      (fun h2 =>
      .auto 6 <|
      .ret (A108.a0 (w64 z1788))
      )
     )
    )
noncomputable def F108 (z1774 : Int) (z1775 : Int) : Option A108 := (D108 z1774 z1775).ev some
theorem F108_ok (z1774 : Int) (z1775 : Int) : ∀ b, F108 z1774 z1775 = some b → UU 108 ([V.int IntKind.u64 z1774, V.int IntKind.u64 z1775]) ([]) = some (A108.out b) :=
  fn_ok (E := E108) (L := notIn []) rfl rfl (fun x => by kernel_rfl)
/-! ## F79 -/
noncomputable def D79 (z1758 : Int) (z1759 : Int) : PT A79 :=
  .tot O98 (F98_ok (z1758)) fun z1760 =>
  .tot O98 (F98_ok (z1759)) fun z1761 =>
  .ask E109 (F109_ok (z1760) (z1761)) fun (r : A109) => match r with
  | .a0 z1772 z1773 =>
   .ask E108 (F108_ok (z1772) (z1773)) fun (r : A108) => match r with
   | .a0 z1790 =>
    .tot O98 (F98_ok (z1790)) fun z1791 =>
    .ret (A79.a0 (z1791))
noncomputable def F79 (z1758 : Int) (z1759 : Int) : Option A79 := (D79 z1758 z1759).ev some
theorem F79_ok (z1758 : Int) (z1759 : Int) : ∀ b, F79 z1758 z1759 = some b → UU 79 ([i64 z1758, i64 z1759]) ([]) = some (A79.out b) :=
  fn_ok (E := E79) (L := notIn []) rfl rfl (fun x => by kernel_rfl)
/-! ## F95 -/
noncomputable def D95 (z1799 : Int) (z1800 : Int) : PT (Int) :=
  .tot O98 (F98_ok (z1799)) fun z1801 =>
  .tot O98 (F98_ok (z1800)) fun z1802 =>
  .tot O98 (F98_ok (w64 (z1801 + z1802))) fun z1803 =>
  .ret (z1803)
@[reducible] def O95 (z1804 : Int) : V × Store := (i64 z1804, [])
noncomputable def F95 (z1799 : Int) (z1800 : Int) : Int := (D95 z1799 z1800).evT
theorem F95_ok (z1799 : Int) (z1800 : Int) : UU 95 ([i64 z1799, i64 z1800]) ([]) = some (O95 (F95 z1799 z1800)) :=
  fnT_ok (out := O95) (L := notIn []) rfl rfl (fun x => by kernel_rfl) (by simp [D95, PT.isT])
/-! ## F121 -/
noncomputable def D121 (z1754 : Int) (z1755 : Int) (z1756 : Int) : PT A121 :=
  .tot O118 (F118_ok (z1756) (0) (65536)) fun z1757 =>
  .ask E79 (F79_ok (w64 (65536 - z1757)) (w64 (65536 - z1757))) fun (r : A79) => match r with
  | .a0 z1793 =>
   .ask E79 (F79_ok (z1793) (z1757)) fun (r : A79) => match r with
   | .a0 z1794 =>
    .ask E79 (F79_ok (w64 (3 * z1794)) (z1754)) fun (r : A79) => match r with
    | .a0 z1795 =>
     .ask E79 (F79_ok (w64 (65536 - z1757)) (z1757)) fun (r : A79) => match r with
     | .a0 z1796 =>
      .ask E79 (F79_ok (z1796) (z1757)) fun (r : A79) => match r with
      | .a0 z1797 =>
       .ask E79 (F79_ok (w64 (3 * z1797)) (z1755)) fun (r : A79) => match r with
       | .a0 z1798 =>
        .tot O95 (F95_ok (z1795) (z1798)) fun z1805 =>
        .ask E79 (F79_ok (z1757) (z1757)) fun (r : A79) => match r with
        | .a0 z1806 =>
         .ask E79 (F79_ok (z1806) (z1757)) fun (r : A79) => match r with
         | .a0 z1807 =>
          .tot O95 (F95_ok (z1805) (z1807)) fun z1808 =>
          .ret (A121.a0 (z1808))
noncomputable def F121 (z1754 : Int) (z1755 : Int) (z1756 : Int) : Option A121 := (D121 z1754 z1755 z1756).ev some
theorem F121_ok (z1754 : Int) (z1755 : Int) (z1756 : Int) : ∀ b, F121 z1754 z1755 z1756 = some b → UU 121 ([i64 z1754, i64 z1755, i64 z1756]) ([]) = some (A121.out b) :=
  fn_ok (E := E121) (L := notIn []) rfl rfl (fun x => by kernel_rfl)
/-! ## F106 -/
noncomputable abbrev B106 : Code := (Try.f106.body).getD .skip
inductive N106_1 where
  | s0 (z1818 : Int) (z1819 : Int) (z1820 : Int) (z1821 : Int) (z1822 : Int) (z1823 : Int) (z1824 : Int) (z1825 : Int)
  | e0 (z1827 : Int) (z1828 : Int) (z1829 : Int) (z1830 : Int) (z1831 : Int)
@[reducible] def N106_1.out : N106_1 → VX × S
  | .s0 z1818 z1819 z1820 z1821 z1822 z1823 z1824 z1825 => (VX.normal, { T := U :: i64 z1818 :: V.ptr 0 0 0 :: U :: U :: i64 z1819 :: i64 z1820 :: un 7 (i64 z1821 :: un 22 []), σ := [Ob.cells true false 4 [[i64 z1822, i64 z1823, i64 z1824, i64 z1825]]] })
  | .e0 z1827 z1828 z1829 z1830 z1831 => (VX.exit 1, { T := U :: U :: V.ptr 0 0 0 :: U :: U :: i64 z1827 :: un 31 [], σ := [Ob.cells true false 4 [[i64 z1828, i64 z1829, i64 z1830, i64 z1831]]] })
def N106_1.ex (g : N106_1 → Prop) : Prop := (∃ (z1818 : Int) (z1819 : Int) (z1820 : Int) (z1821 : Int) (z1822 : Int) (z1823 : Int) (z1824 : Int) (z1825 : Int), g (.s0 z1818 z1819 z1820 z1821 z1822 z1823 z1824 z1825)) ∨ (∃ (z1827 : Int) (z1828 : Int) (z1829 : Int) (z1830 : Int) (z1831 : Int), g (.e0 z1827 z1828 z1829 z1830 z1831))
theorem N106_1.ok (g : N106_1 → Prop) : N106_1.ex g ↔ ∃ b, g b := ⟨fun h => match h with
  | .inl ⟨_, _, _, _, _, _, _, _, h⟩ => ⟨_, h⟩
  | .inr (⟨_, _, _, _, _, h⟩) => ⟨_, h⟩, fun ⟨b, h⟩ => match b, h with
  | .s0 _ _ _ _ _ _ _ _, h => .inl ⟨_, _, _, _, _, _, _, _, h⟩
  | .e0 _ _ _ _ _, h => .inr (⟨_, _, _, _, _, h⟩)⟩
abbrev E106_1 : Ent (VX × S) := ⟨N106_1, N106_1.out, N106_1.ex, N106_1.ok⟩
noncomputable def D106_1 (z1818 : Int) (z1819 : Int) (z1820 : Int) (z1821 : Int) (z1822 : Int) (z1823 : Int) (z1824 : Int) (z1825 : Int) : PT N106_1 :=
  .test (z1821 < 16)
   (fun h0 =>
   .auto 3 <|
   .ask E121 (F121_ok (z1822) (z1824) (Int.fdiv (w64 (z1819 + z1820)) 2)) fun (r : A121) => match r with
   | .a0 z1838 =>
    .test (z1838 ≤ z1818)
     (fun h1 =>
     .ret (N106_1.s0 (z1818) (Int.fdiv (w64 (z1819 + z1820)) 2) (z1820) (w64 (z1821 + 1)) (z1822) (z1823) (z1824) (z1825))
     )
     (fun h1 =>
     .ret (N106_1.s0 (z1818) (z1819) (Int.fdiv (w64 (z1819 + z1820)) 2) (w64 (z1821 + 1)) (z1822) (z1823) (z1824) (z1825))
     )
   )
   (fun h0 =>
   .ret (N106_1.e0 (z1819) (z1822) (z1823) (z1824) (z1825))
   )
noncomputable def S106_1 : N106_1 → PT N106_1
  | .s0 z1818 z1819 z1820 z1821 z1822 z1823 z1824 z1825 => D106_1 z1818 z1819 z1820 z1821 z1822 z1823 z1824 z1825
  | _ => .fail
def N106_1.off : N106_1 → Bool
  | .s0 _ _ _ _ _ _ _ _ => false
  | _ => true
noncomputable def L106_1 (n : Nat) (b : N106_1) : Option N106_1 := PT.loop (S106_1) N106_1.off n b
theorem L106_1_ok : ∀ (n : Nat) (b : N106_1), N106_1.off b = false → ∀ c, L106_1 n b = some c → loopP Try.prog X CC 106 (0) 18446744073709551616 B106 1 n (E106_1.out b).2 = some (E106_1.out c) :=
  loop_ok (E := E106_1) (step := S106_1) (L := notIn []) (fun b hb => by cases b <;> first | (cases hb; done) | (intro x; kernel_rfl)) (fun b => by cases b <;> rfl)
noncomputable def N106_1.nx (n : Nat) (c : N106_1) : Option N106_1 := match N106_1.off c with
  | true => some c
  | false => L106_1 n c
theorem L106_1_s0 (n : Nat) (z1818 : Int) (z1819 : Int) (z1820 : Int) (z1821 : Int) (z1822 : Int) (z1823 : Int) (z1824 : Int) (z1825 : Int) : L106_1 (n + 1) (.s0 z1818 z1819 z1820 z1821 z1822 z1823 z1824 z1825) = (D106_1 z1818 z1819 z1820 z1821 z1822 z1823 z1824 z1825).ev (N106_1.nx n) := rfl
theorem N106_1.nx_s0 (n : Nat) (z1818 : Int) (z1819 : Int) (z1820 : Int) (z1821 : Int) (z1822 : Int) (z1823 : Int) (z1824 : Int) (z1825 : Int) : N106_1.nx n (.s0 z1818 z1819 z1820 z1821 z1822 z1823 z1824 z1825) = L106_1 n (.s0 z1818 z1819 z1820 z1821 z1822 z1823 z1824 z1825) := rfl
theorem N106_1.nx_e0 (n : Nat) (z1827 : Int) (z1828 : Int) (z1829 : Int) (z1830 : Int) (z1831 : Int) : N106_1.nx n (.e0 z1827 z1828 z1829 z1830 z1831) = some (.e0 z1827 z1828 z1829 z1830 z1831) := rfl
noncomputable def D106 (z1743 : Int) (z1744 : Int) (z1745 : Int) (z1746 : Int) (z1747 : Int) : PT A106 :=
  .test (z1747 ≤ 0)
   (fun h0 =>
   .ret (A106.a0 (0))
   )
   (fun h0 =>
   .test (z1747 ≥ 65536)
    (fun h1 =>
    .ret (A106.a0 (65536))
    )
    (fun h1 =>
    .cut E106_1 (L106_1_ok 18446744073709551616 (.s0 (z1747) (0) (65536) (0) (z1743) (z1744) (z1745) (z1746)) rfl) fun (r : N106_1) => match r with
    | .e0 z1839 z1840 z1841 z1842 z1843 =>
     .auto 2 <|
     .ask E121 (F121_ok (z1841) (z1843) (z1839)) fun (r : A121) => match r with
     | .a0 z1844 =>
      .ret (A106.a0 (z1844))
    | _ => .fail
    )
   )
noncomputable def F106 (z1743 : Int) (z1744 : Int) (z1745 : Int) (z1746 : Int) (z1747 : Int) : Option A106 := (D106 z1743 z1744 z1745 z1746 z1747).ev some
theorem F106_ok (z1743 : Int) (z1744 : Int) (z1745 : Int) (z1746 : Int) (z1747 : Int) : ∀ b, F106 z1743 z1744 z1745 z1746 z1747 = some b → UU 106 ([V.agg [i64 z1743, i64 z1744, i64 z1745, i64 z1746], i64 z1747]) ([]) = some (A106.out b) :=
  fn_ok (E := E106) (L := notIn []) rfl rfl (fun x => by kernel_rfl)
/-! ## F71 -/
noncomputable def D71 (z1736 : Int) (z1737 : Int) (z1738 : Int) (z1739 : Int) (z1740 : Int) (z1741 : Int) : PT A71 :=
  .testB (z1736 == 0)
   (fun h0 =>
   .auto 2 <|
   .test (z1741 ≥ 65536)
    (fun h1 =>
    .ret (A71.a0 (65536))
    )
    (fun h1 =>
    .testB (z1736 == 1)
     (fun h2 =>
     .ret (A71.a0 (z1741))
     )
     (fun h2 =>
     .testB (z1736 == 2)
      (fun h3 =>
      .auto 1 <|
      .ask E106 (F106_ok (z1737) (z1738) (z1739) (z1740) (z1741)) fun (r : A106) => match r with
      | .a0 z1845 =>
       .ret (A71.a0 (z1845))
      )
      (fun h3 =>
      .ret (A71.a0 (0))
      )
     )
    )
   )
   (fun h0 =>
   .auto 3 <|
   .testB (z1736 == 1)
    (fun h1 =>
    .ret (A71.a0 (z1741))
    )
    (fun h1 =>
    .testB (z1736 == 2)
     (fun h2 =>
     .auto 1 <|
     .ask E106 (F106_ok (z1737) (z1738) (z1739) (z1740) (z1741)) fun (r : A106) => match r with
     | .a0 z1846 =>
      .ret (A71.a0 (z1846))
     )
     (fun h2 =>
     .ret (A71.a0 (0))
     )
    )
   )
noncomputable def F71 (z1736 : Int) (z1737 : Int) (z1738 : Int) (z1739 : Int) (z1740 : Int) (z1741 : Int) : Option A71 := (D71 z1736 z1737 z1738 z1739 z1740 z1741).ev some
theorem F71_ok (z1736 : Int) (z1737 : Int) (z1738 : Int) (z1739 : Int) (z1740 : Int) (z1741 : Int) : ∀ b, F71 z1736 z1737 z1738 z1739 z1740 z1741 = some b → UU 71 ([i64 z1736, V.agg [i64 z1737, i64 z1738, i64 z1739, i64 z1740], i64 z1741]) ([]) = some (A71.out b) :=
  fn_ok (E := E71) (L := notIn []) rfl rfl (fun x => by kernel_rfl)
/-! ## F66 -/
noncomputable def D66 (z1848 : Int) (z1849 : Int) (z1850 : Int) : PT A66 :=
  .tot O98 (F98_ok (z1848)) fun z1851 =>
  .tot O95 (F95_ok (z1849) (w64 (0 - z1851))) fun z1852 =>
  .ask E79 (F79_ok (z1852) (z1850)) fun (r : A79) => match r with
  | .a0 z1853 =>
   .tot O95 (F95_ok (z1851) (z1853)) fun z1854 =>
   .ret (A66.a0 (z1854))
noncomputable def F66 (z1848 : Int) (z1849 : Int) (z1850 : Int) : Option A66 := (D66 z1848 z1849 z1850).ev some
theorem F66_ok (z1848 : Int) (z1849 : Int) (z1850 : Int) : ∀ b, F66 z1848 z1849 z1850 = some b → UU 66 ([i64 z1848, i64 z1849, i64 z1850]) ([]) = some (A66.out b) :=
  fn_ok (E := E66) (L := notIn []) rfl rfl (fun x => by kernel_rfl)
/-! ## F44 -/
noncomputable def D44 (l1701 : List (List V)) (z1702 : Int) (z1703 : Int) : PT A44 :=
  .testB ((↑(List.length l1701) : Int) == 0)
   (fun h0 =>
   .ret (A44.a0 (z1703))
   )
   (fun h0 =>
   .ask E76 (F76_ok (l1701) (z1702)) fun (r : A76) => match r with
   | .a0 z1716 =>
    .testB (z1716 == -1)
     (fun h1 =>
     .auto 1 <|
     .look RW61 (l1701[(0 : Nat)]?) fun e1717 =>
     .ret (A44.a0 (e1717.c1))
     )
     (fun h1 =>
     .testB (z1716 == w64 ((↑(List.length l1701) : Int) - 1))
      (fun h2 =>
      .test (0 ≤ z1716)
       (fun h3 =>
       .look RW61 (l1701[Int.toNat z1716]?) fun e1718 =>
       .ret (A44.a0 (e1718.c1))
       )
       (fun _ => .fail) -- none
      )
      (fun h2 =>
      .test (0 ≤ z1716)
       (fun h3 =>
       .look RW61 (l1701[Int.toNat z1716]?) fun e1719 =>
       .test (0 ≤ w64 (z1716 + 1))
        (fun h4 =>
        .look RW61 (l1701[Int.toNat (w64 (z1716 + (1 : Int)))]?) fun e1720 =>
        .auto 8 <|
        .ask E72 (F72_ok (e1719.c0) (e1720.c0) (z1702)) fun (r : A72) => match r with
        | .a0 z1735 =>
         .ask E71 (F71_ok (e1719.c2) (e1719.c3) (e1719.c4) (e1719.c5) (e1719.c6) (z1735)) fun (r : A71) => match r with
         | .a0 z1847 =>
          .ask E66 (F66_ok (e1719.c1) (e1720.c1) (z1847)) fun (r : A66) => match r with
          | .a0 z1856 =>
           .ret (A44.a0 (z1856))
        )
        (fun _ => .fail) -- none
       )
       (fun _ => .fail) -- none
      )
     )
   )
noncomputable def F44 (l1701 : List (List V)) (z1702 : Int) (z1703 : Int) : Option A44 := (D44 l1701 z1702 z1703).ev some
theorem F44_ok (l1701 : List (List V)) (z1702 : Int) (z1703 : Int) : ∀ b, F44 l1701 z1702 z1703 = some b → UU 44 ([V.list 7 l1701, i64 z1702, i64 z1703]) ([]) = some (A44.out b) :=
  fn_ok (E := E44) (L := notIn []) rfl rfl (fun x => by kernel_rfl)
/-! ## F78 -/
noncomputable def D78 (z1861 : Int) (z1862 : Int) : PT A78 :=
  .auto 1 <|
  .ret (A78.a0 (z1861) (z1862))
noncomputable def F78 (z1861 : Int) (z1862 : Int) : Option A78 := (D78 z1861 z1862).ev some
theorem F78_ok (z1861 : Int) (z1862 : Int) : ∀ b, F78 z1861 z1862 = some b → UU 78 ([i64 z1861, i64 z1862]) ([]) = some (A78.out b) :=
  fn_ok (E := E78) (L := notIn []) rfl rfl (fun x => by kernel_rfl)
/-! ## F77 -/
noncomputable abbrev B77 : Code := (Try.f77.body).getD .skip
inductive N77_0 where
  | s0 (l1880 : List (List V)) (z1881 : Int) (z1882 : Int) (k1883 : Nat) (l1884 : List (List V))
  | e0 (k1893 : Nat) (l1894 : List (List V))
@[reducible] def N77_0.out : N77_0 → VX × S
  | .s0 l1880 z1881 z1882 k1883 l1884 => (VX.normal, { T := V.list 2 l1880 :: U :: V.ptr 0 0 0 :: V.ptr 1 0 0 :: un 8 (V.list 2 l1880 :: i64 z1881 :: i64 z1882 :: un 22 []), σ := [Ob.cells true false 2 [[vb false, V.hs 2 0 0]], Ob.cells true false 2 [[vb true, V.hs 3 0 k1883]], Ob.cells true true 2 [], Ob.cells true true 2 l1884] })
  | .e0 k1893 l1894 => (VX.exit 0, { T := U :: U :: V.ptr 0 0 0 :: V.ptr 1 0 0 :: un 33 [], σ := [Ob.cells true false 2 [[vb false, V.hs 2 0 0]], Ob.cells true false 2 [[vb true, V.hs 3 0 k1893]], Ob.cells true true 2 [], Ob.cells true true 2 l1894] })
def N77_0.ex (g : N77_0 → Prop) : Prop := (∃ (l1880 : List (List V)) (z1881 : Int) (z1882 : Int) (k1883 : Nat) (l1884 : List (List V)), g (.s0 l1880 z1881 z1882 k1883 l1884)) ∨ (∃ (k1893 : Nat) (l1894 : List (List V)), g (.e0 k1893 l1894))
theorem N77_0.ok (g : N77_0 → Prop) : N77_0.ex g ↔ ∃ b, g b := ⟨fun h => match h with
  | .inl ⟨_, _, _, _, _, h⟩ => ⟨_, h⟩
  | .inr (⟨_, _, h⟩) => ⟨_, h⟩, fun ⟨b, h⟩ => match b, h with
  | .s0 _ _ _ _ _, h => .inl ⟨_, _, _, _, _, h⟩
  | .e0 _ _, h => .inr (⟨_, _, h⟩)⟩
abbrev E77_0 : Ent (VX × S) := ⟨N77_0, N77_0.out, N77_0.ex, N77_0.ok⟩
noncomputable def D77_0 (l1880 : List (List V)) (z1881 : Int) (z1882 : Int) (k1883 : Nat) (l1884 : List (List V)) : PT N77_0 :=
  .test (z1882 < z1881)
   (fun h0 =>
   .test (0 ≤ z1882)
    (fun h1 =>
    .look RW26 (l1880[Int.toNat z1882]?) fun e1898 =>
    .auto 1 <|
    .test ((↑(List.length l1880) : Int) = 0)
     (fun _ => .fail) -- none
     (fun h2 =>
     .test (0 ≤ Int.tmod (w64 (z1882 + 1)) (↑(List.length l1880) : Int))
      (fun h3 =>
      .look RW26 (l1880[Int.toNat (Int.tmod (w64 (z1882 + (1 : Int))) (↑(List.length l1880) : Int))]?) fun e1899 =>
      .auto 6 <|
      .test (0 + k1883 ≤ List.length l1884 ∧ (k1883 + 3) * 16 ≤ 140737488355328 ∧ k1883 + 3 ≤ 140737488355328)
       (fun h4 =>
       .auto 1 <|
       .ret (N77_0.s0 (l1880) (z1881) (w64 (z1882 + 1)) (k1883 + 3) (List.take k1883 l1884 ++ [[i64 e1898.c0, i64 e1898.c1], [i64 e1899.c0, i64 e1899.c1], [i64 e1899.c0, i64 e1899.c1]]))
       )
       (fun _ => .fail) -- none
      )
      (fun _ => .fail) -- none
     )
    )
    (fun _ => .fail) -- none
   )
   (fun h0 =>
   .ret (N77_0.e0 (k1883) (l1884))
   )
noncomputable def S77_0 : N77_0 → PT N77_0
  | .s0 l1880 z1881 z1882 k1883 l1884 => D77_0 l1880 z1881 z1882 k1883 l1884
  | _ => .fail
def N77_0.off : N77_0 → Bool
  | .s0 _ _ _ _ _ => false
  | _ => true
noncomputable def L77_0 (n : Nat) (b : N77_0) : Option N77_0 := PT.loop (S77_0) N77_0.off n b
theorem L77_0_ok : ∀ (n : Nat) (b : N77_0), N77_0.off b = false → ∀ c, L77_0 n b = some c → loopP Try.prog X CC 77 (0) 18446744073709551616 B77 0 n (E77_0.out b).2 = some (E77_0.out c) :=
  loop_ok (E := E77_0) (step := S77_0) (L := notIn []) (fun b hb => by cases b <;> first | (cases hb; done) | (intro x; kernel_rfl)) (fun b => by cases b <;> rfl)
noncomputable def N77_0.nx (n : Nat) (c : N77_0) : Option N77_0 := match N77_0.off c with
  | true => some c
  | false => L77_0 n c
theorem L77_0_s0 (n : Nat) (l1880 : List (List V)) (z1881 : Int) (z1882 : Int) (k1883 : Nat) (l1884 : List (List V)) : L77_0 (n + 1) (.s0 l1880 z1881 z1882 k1883 l1884) = (D77_0 l1880 z1881 z1882 k1883 l1884).ev (N77_0.nx n) := rfl
theorem N77_0.nx_s0 (n : Nat) (l1880 : List (List V)) (z1881 : Int) (z1882 : Int) (k1883 : Nat) (l1884 : List (List V)) : N77_0.nx n (.s0 l1880 z1881 z1882 k1883 l1884) = L77_0 n (.s0 l1880 z1881 z1882 k1883 l1884) := rfl
theorem N77_0.nx_e0 (n : Nat) (k1893 : Nat) (l1894 : List (List V)) : N77_0.nx n (.e0 k1893 l1894) = some (.e0 k1893 l1894) := rfl
noncomputable def D77 (l1873 : List (List V)) : PT A77 :=
  .auto 1 <|
  .look RW26 (l1873[(0 : Nat)]?) fun e1897 =>
  .auto 1 <|
  .cut E77_0 (L77_0_ok 18446744073709551616 (.s0 (l1873) ((↑(List.length l1873) : Int)) (0) (1) ([[i64 e1897.c0, i64 e1897.c1]])) rfl) fun (r : N77_0) => match r with
  | .e0 k1900 l1901 =>
   .auto 2 <|
   .ret (A77.a0 (true) (k1900) (l1901))
  | _ => .fail
noncomputable def F77 (l1873 : List (List V)) : Option A77 := (D77 l1873).ev some
theorem F77_ok (l1873 : List (List V)) : ∀ b, F77 l1873 = some b → UU 77 ([V.list 2 l1873]) ([]) = some (A77.out b) :=
  fn_ok (E := E77) (L := notIn []) rfl rfl (fun x => by kernel_rfl)
/-! ## F45 -/
noncomputable def D45 (z1859 : Int) (z1860 : Int) : PT A45 :=
  .auto 2 <|
  .ask E78 (F78_ok (w64 (0 - Int.fdiv z1859 2)) (w64 (0 - Int.fdiv z1860 2))) fun (r : A78) => match r with
  | .a0 z1865 z1866 =>
   .ask E78 (F78_ok (w64 (z1859 - Int.fdiv z1859 2)) (w64 (0 - Int.fdiv z1860 2))) fun (r : A78) => match r with
   | .a0 z1867 z1868 =>
    .ask E78 (F78_ok (w64 (z1859 - Int.fdiv z1859 2)) (w64 (z1860 - Int.fdiv z1860 2))) fun (r : A78) => match r with
    | .a0 z1869 z1870 =>
     .ask E78 (F78_ok (w64 (0 - Int.fdiv z1859 2)) (w64 (z1860 - Int.fdiv z1860 2))) fun (r : A78) => match r with
     | .a0 z1871 z1872 =>
      .auto 1 <|
      .ask E77 (F77_ok ([[i64 z1865, i64 z1866], [i64 z1867, i64 z1868], [i64 z1869, i64 z1870], [i64 z1871, i64 z1872]])) fun (r : A77) => match r with
      | .a0 b1902 k1903 l1904 =>
       .auto 1 <|
       .ret (A45.a0 (b1902) (k1903) (l1904))
noncomputable def F45 (z1859 : Int) (z1860 : Int) : Option A45 := (D45 z1859 z1860).ev some
theorem F45_ok (z1859 : Int) (z1860 : Int) : ∀ b, F45 z1859 z1860 = some b → UU 45 ([i64 z1859, i64 z1860]) ([]) = some (A45.out b) :=
  fn_ok (E := E45) (L := notIn []) rfl rfl (fun x => by kernel_rfl)
/-! ## F46 -/
noncomputable def D46 (z1914 : Int) (z1915 : Int) : PT A46 :=
  .auto 2 <|
  .ask E79 (F79_ok (Int.fdiv z1914 2) (36195)) fun (r : A79) => match r with
  | .a0 z1916 =>
   .ask E79 (F79_ok (Int.fdiv z1915 2) (36195)) fun (r : A79) => match r with
   | .a0 z1917 =>
    .ask E78 (F78_ok (Int.fdiv z1914 2) (0)) fun (r : A78) => match r with
    | .a0 z1918 z1919 =>
     .ask E78 (F78_ok (Int.fdiv z1914 2) (z1917)) fun (r : A78) => match r with
     | .a0 z1920 z1921 =>
      .ask E78 (F78_ok (z1916) (Int.fdiv z1915 2)) fun (r : A78) => match r with
      | .a0 z1922 z1923 =>
       .ask E78 (F78_ok (0) (Int.fdiv z1915 2)) fun (r : A78) => match r with
       | .a0 z1924 z1925 =>
        .ask E78 (F78_ok (w64 (0 - z1916)) (Int.fdiv z1915 2)) fun (r : A78) => match r with
        | .a0 z1926 z1927 =>
         .ask E78 (F78_ok (w64 (0 - Int.fdiv z1914 2)) (z1917)) fun (r : A78) => match r with
         | .a0 z1928 z1929 =>
          .ask E78 (F78_ok (w64 (0 - Int.fdiv z1914 2)) (0)) fun (r : A78) => match r with
          | .a0 z1930 z1931 =>
           .ask E78 (F78_ok (w64 (0 - Int.fdiv z1914 2)) (w64 (0 - z1917))) fun (r : A78) => match r with
           | .a0 z1932 z1933 =>
            .ask E78 (F78_ok (w64 (0 - z1916)) (w64 (0 - Int.fdiv z1915 2))) fun (r : A78) => match r with
            | .a0 z1934 z1935 =>
             .ask E78 (F78_ok (0) (w64 (0 - Int.fdiv z1915 2))) fun (r : A78) => match r with
             | .a0 z1936 z1937 =>
              .ask E78 (F78_ok (z1916) (w64 (0 - Int.fdiv z1915 2))) fun (r : A78) => match r with
              | .a0 z1938 z1939 =>
               .ask E78 (F78_ok (Int.fdiv z1914 2) (w64 (0 - z1917))) fun (r : A78) => match r with
               | .a0 z1940 z1941 =>
                .ask E78 (F78_ok (Int.fdiv z1914 2) (0)) fun (r : A78) => match r with
                | .a0 z1942 z1943 =>
                 .auto 1 <|
                 .ret (A46.a0 (true) (13) ([[i64 z1918, i64 z1919], [i64 z1920, i64 z1921], [i64 z1922, i64 z1923], [i64 z1924, i64 z1925], [i64 z1926, i64 z1927], [i64 z1928, i64 z1929], [i64 z1930, i64 z1931], [i64 z1932, i64 z1933], [i64 z1934, i64 z1935], [i64 z1936, i64 z1937], [i64 z1938, i64 z1939], [i64 z1940, i64 z1941], [i64 z1942, i64 z1943]]))
noncomputable def F46 (z1914 : Int) (z1915 : Int) : Option A46 := (D46 z1914 z1915).ev some
theorem F46_ok (z1914 : Int) (z1915 : Int) : ∀ b, F46 z1914 z1915 = some b → UU 46 ([i64 z1914, i64 z1915]) ([]) = some (A46.out b) :=
  fn_ok (E := E46) (L := notIn []) rfl rfl (fun x => by kernel_rfl)
/-! ## F110 -/
noncomputable def D110 (z1973 : Int) : PT (Int) :=
  .auto 1 <|
  .test (Int.tmod z1973 23592960 < 0)
   (fun h0 =>
   .ret (w64 (Int.tmod z1973 23592960 + 23592960))
   )
   (fun h0 =>
   .ret (Int.tmod z1973 23592960)
   )
@[reducible] def O110 (z1974 : Int) : V × Store := (i64 z1974, [])
noncomputable def F110 (z1973 : Int) : Int := (D110 z1973).evT
theorem F110_ok (z1973 : Int) : UU 110 ([i64 z1973]) ([]) = some (O110 (F110 z1973)) :=
  fnT_ok (out := O110) (L := notIn []) rfl rfl (fun x => by kernel_rfl) (by simp [D110, PT.isT])
/-! ## F81 -/
noncomputable def D81 (rF81 : Int → Option A81) (hF81 : ∀ (z1976 : Int) (b : A81), rF81 z1976 = some b → UU 81 ([i64 z1976]) ([]) = some (A81.out b)) (z1976 : Int) : PT A81 :=
  .tot O110 (F110_ok (z1976)) fun z1979 =>
  .test (z1979 ≥ 11796480)
   (fun h0 =>
   .ask E81 (hF81 (w64 (z1979 - 11796480))) fun (r : A81) => match r with
   | .a0 z1980 =>
    .ret (A81.a0 (w64 (0 - z1980)))
   )
   (fun h0 =>
   .auto 1 <|
   .test (w64 (2654208000 - w64 (Int.tdiv (w64 (z1979 * w64 (11796480 - z1979))) 65536)) = 0)
    (fun _ => .fail) -- none
    (fun h1 =>
    .ret (A81.a0 (w64 (Int.tdiv (w64 (w64 (4 * w64 (Int.tdiv (w64 (z1979 * w64 (11796480 - z1979))) 65536)) * 65536)) (w64 (2654208000 - w64 (Int.tdiv (w64 (z1979 * w64 (11796480 - z1979))) 65536))))))
    )
   )
theorem D81_ok (rF81 : Int → Option A81) (hF81 : ∀ (z1976 : Int) (b : A81), rF81 z1976 = some b → UU 81 ([i64 z1976]) ([]) = some (A81.out b)) (z1976 : Int) : ∀ b, (D81 rF81 hF81 z1976).ev some = some b → UU 81 ([i64 z1976]) ([]) = some (A81.out b) :=
  fn_ok (E := E81) (L := notIn []) rfl rfl (fun x => by kernel_rfl)
noncomputable def G81 : Nat → { r : Int → Option A81 // ∀ (z1976 : Int) (b : A81), r z1976 = some b → UU 81 ([i64 z1976]) ([]) = some (A81.out b) }
  | 0 => ⟨fun _ => none, fun _ _ h => by cases h⟩
  | n + 1 => ⟨fun z1976 => (D81 (G81 n).1 (G81 n).2 z1976).ev some, fun z1976 => D81_ok (G81 n).1 (G81 n).2 z1976⟩
noncomputable def F81 (n : Nat) (z1976 : Int) : Option A81 := (G81 n).1 z1976
theorem F81_ok (n : Nat) (z1976 : Int) : ∀ b, F81 n z1976 = some b → UU 81 ([i64 z1976]) ([]) = some (A81.out b) := (G81 n).2 z1976
theorem F81_succ (n : Nat) (z1976 : Int) : F81 (n + 1) z1976 = (D81 (F81 n) (F81_ok n) z1976).ev some := rfl
/-! ## F80 -/
noncomputable def D80 (z1972 : Int) : PT A80 :=
  .tot O110 (F110_ok (z1972)) fun z1975 =>
  .ask E81 (F81_ok 100000 (w64 (z1975 + 5898240))) fun (r : A81) => match r with
  | .a0 z1981 =>
   .ret (A80.a0 (z1981))
noncomputable def F80 (z1972 : Int) : Option A80 := (D80 z1972).ev some
theorem F80_ok (z1972 : Int) : ∀ b, F80 z1972 = some b → UU 80 ([i64 z1972]) ([]) = some (A80.out b) :=
  fn_ok (E := E80) (L := notIn []) rfl rfl (fun x => by kernel_rfl)
/-! ## F47 -/
noncomputable abbrev B47 : Code := (Try.f47.body).getD .skip
inductive N47_c27 where
  | e0 (z2011 : Int) (z2012 : Int) (z2013 : Int) (k2014 : Nat) (z2015 : Int) (z2016 : Int) (z2017 : Int) (z2018 : Int) (l2019 : List (List V))
@[reducible] def N47_c27.out : N47_c27 → VX × S
  | .e0 z2011 z2012 z2013 k2014 z2015 z2016 z2017 z2018 l2019 => (VX.normal, { T := i64 z2011 :: i64 z2012 :: i64 z2013 :: U :: U :: U :: V.ptr 0 0 0 :: V.hs 1 0 k2014 :: U :: i64 z2015 :: i64 z2016 :: un 4 (i64 z2017 :: i64 z2018 :: un 27 []), σ := [Ob.cells true false 2 [[vb false, V.hs 2 0 0]], Ob.cells true true 2 l2019, Ob.cells true true 2 []] })
def N47_c27.ex (g : N47_c27 → Prop) : Prop := (∃ (z2011 : Int) (z2012 : Int) (z2013 : Int) (k2014 : Nat) (z2015 : Int) (z2016 : Int) (z2017 : Int) (z2018 : Int) (l2019 : List (List V)), g (.e0 z2011 z2012 z2013 k2014 z2015 z2016 z2017 z2018 l2019))
theorem N47_c27.ok (g : N47_c27 → Prop) : N47_c27.ex g ↔ ∃ b, g b := ⟨fun h => match h with
  | ⟨_, _, _, _, _, _, _, _, _, h⟩ => ⟨_, h⟩, fun ⟨b, h⟩ => match b, h with
  | .e0 _ _ _ _ _ _ _ _ _, h => ⟨_, _, _, _, _, _, _, _, _, h⟩⟩
abbrev E47_c27 : Ent (VX × S) := ⟨N47_c27, N47_c27.out, N47_c27.ex, N47_c27.ok⟩
noncomputable def D47_c27 (z2002 : Int) (z2003 : Int) (z2004 : Int) (k2005 : Nat) (z2006 : Int) (z2007 : Int) (z2008 : Int) (b2009 : Bool) (l2010 : List (List V)) : PT N47_c27 :=
  .testB (b2009)
   (fun h0 =>
   .ret (N47_c27.e0 (z2002) (z2003) (z2004) (k2005) (z2006) (z2004) (z2007) (z2008) (l2010))
   )
   (fun h0 =>
   .ret (N47_c27.e0 (z2002) (z2003) (z2004) (k2005) (z2006) (z2003) (z2007) (z2008) (l2010))
   )
noncomputable def J47_c27 (z2002 : Int) (z2003 : Int) (z2004 : Int) (k2005 : Nat) (z2006 : Int) (z2007 : Int) (z2008 : Int) (b2009 : Bool) (l2010 : List (List V)) : Option N47_c27 := (D47_c27 z2002 z2003 z2004 k2005 z2006 z2007 z2008 b2009 l2010).ev some
theorem J47_c27_ok (z2002 : Int) (z2003 : Int) (z2004 : Int) (k2005 : Nat) (z2006 : Int) (z2007 : Int) (z2008 : Int) (b2009 : Bool) (l2010 : List (List V)) : ∀ b, J47_c27 z2002 z2003 z2004 k2005 z2006 z2007 z2008 b2009 l2010 = some b → condP Try.prog X CC 47 (0) 18446744073709551616 B47 27 ({ T := i64 z2002 :: i64 z2003 :: i64 z2004 :: U :: U :: U :: V.ptr 0 0 0 :: V.hs 1 0 k2005 :: U :: i64 z2006 :: i64 z2003 :: un 4 (i64 z2007 :: i64 z2008 :: un 10 (vb b2009 :: un 16 [])), σ := [Ob.cells true false 2 [[vb false, V.hs 2 0 0]], Ob.cells true true 2 l2010, Ob.cells true true 2 []] }) = some (E47_c27.out b) :=
  cond_ok (E := E47_c27) (L := notIn []) (fun x => by kernel_rfl)
inductive N47_0 where
  | s0 (z1989 : Int) (z1990 : Int) (z1991 : Int) (k1992 : Nat) (z1993 : Int) (z1994 : Int) (l1995 : List (List V))
  | e0 (k2035 : Nat) (l2036 : List (List V))
@[reducible] def N47_0.out : N47_0 → VX × S
  | .s0 z1989 z1990 z1991 k1992 z1993 z1994 l1995 => (VX.normal, { T := i64 z1989 :: i64 z1990 :: i64 z1991 :: U :: U :: U :: V.ptr 0 0 0 :: V.hs 1 0 k1992 :: un 7 (i64 z1993 :: i64 z1994 :: un 27 []), σ := [Ob.cells true false 2 [[vb false, V.hs 2 0 0]], Ob.cells true true 2 l1995, Ob.cells true true 2 []] })
  | .e0 k2035 l2036 => (VX.exit 0, { T := un 6 (V.ptr 0 0 0 :: V.hs 1 0 k2035 :: un 36 []), σ := [Ob.cells true false 2 [[vb false, V.hs 2 0 0]], Ob.cells true true 2 l2036, Ob.cells true true 2 []] })
def N47_0.ex (g : N47_0 → Prop) : Prop := (∃ (z1989 : Int) (z1990 : Int) (z1991 : Int) (k1992 : Nat) (z1993 : Int) (z1994 : Int) (l1995 : List (List V)), g (.s0 z1989 z1990 z1991 k1992 z1993 z1994 l1995)) ∨ (∃ (k2035 : Nat) (l2036 : List (List V)), g (.e0 k2035 l2036))
theorem N47_0.ok (g : N47_0 → Prop) : N47_0.ex g ↔ ∃ b, g b := ⟨fun h => match h with
  | .inl ⟨_, _, _, _, _, _, _, h⟩ => ⟨_, h⟩
  | .inr (⟨_, _, h⟩) => ⟨_, h⟩, fun ⟨b, h⟩ => match b, h with
  | .s0 _ _ _ _ _ _ _, h => .inl ⟨_, _, _, _, _, _, _, h⟩
  | .e0 _ _, h => .inr (⟨_, _, h⟩)⟩
abbrev E47_0 : Ent (VX × S) := ⟨N47_0, N47_0.out, N47_0.ex, N47_0.ok⟩
noncomputable def D47_0 (z1989 : Int) (z1990 : Int) (z1991 : Int) (k1992 : Nat) (z1993 : Int) (z1994 : Int) (l1995 : List (List V)) : PT N47_0 :=
  .test (z1994 < z1993)
   (fun h0 =>
   .test (z1989 = 0)
    (fun _ => .fail) -- none
    (fun h1 =>
    .auto 1 <|
    .cut E47_c27 (J47_c27_ok (z1989) (z1990) (z1991) (k1992) (w64 (w64 (Int.tdiv (w64 (z1994 * 11796480)) z1989) - 5898240)) (z1993) (z1994) (Int.tmod z1994 2 == 1) (l1995)) fun (r : N47_c27) => match r with
    | .e0 z2042 z2043 z2044 k2045 z2046 z2047 z2048 z2049 l2050 =>
     .ask E80 (F80_ok (z2046)) fun (r : A80) => match r with
     | .a0 z2051 =>
      .ask E79 (F79_ok (z2047) (z2051)) fun (r : A79) => match r with
      | .a0 z2052 =>
       .ask E81 (F81_ok 100000 (z2046)) fun (r : A81) => match r with
       | .a0 z2053 =>
        .ask E79 (F79_ok (z2047) (z2053)) fun (r : A79) => match r with
        | .a0 z2054 =>
         .ask E78 (F78_ok (z2052) (z2054)) fun (r : A78) => match r with
         | .a0 z2055 z2056 =>
          .auto 1 <|
          .test (0 + k2045 ≤ List.length l2050 ∧ (k2045 + 1) * 16 ≤ 140737488355328 ∧ k2045 + 1 ≤ 140737488355328)
           (fun h2 =>
           .ret (N47_0.s0 (z2042) (z2043) (z2044) (k2045 + 1) (z2048) (w64 (z2049 + 1)) (List.take k2045 l2050 ++ [[i64 z2055, i64 z2056]]))
           )
           (fun _ => .fail) -- none
    )
   )
   (fun h0 =>
   .ret (N47_0.e0 (k1992) (l1995))
   )
noncomputable def S47_0 : N47_0 → PT N47_0
  | .s0 z1989 z1990 z1991 k1992 z1993 z1994 l1995 => D47_0 z1989 z1990 z1991 k1992 z1993 z1994 l1995
  | _ => .fail
def N47_0.off : N47_0 → Bool
  | .s0 _ _ _ _ _ _ _ => false
  | _ => true
noncomputable def L47_0 (n : Nat) (b : N47_0) : Option N47_0 := PT.loop (S47_0) N47_0.off n b
theorem L47_0_ok : ∀ (n : Nat) (b : N47_0), N47_0.off b = false → ∀ c, L47_0 n b = some c → loopP Try.prog X CC 47 (0) 18446744073709551616 B47 0 n (E47_0.out b).2 = some (E47_0.out c) :=
  loop_ok (E := E47_0) (step := S47_0) (L := notIn []) (fun b hb => by cases b <;> first | (cases hb; done) | (intro x; kernel_rfl)) (fun b => by cases b <;> rfl)
noncomputable def N47_0.nx (n : Nat) (c : N47_0) : Option N47_0 := match N47_0.off c with
  | true => some c
  | false => L47_0 n c
theorem L47_0_s0 (n : Nat) (z1989 : Int) (z1990 : Int) (z1991 : Int) (k1992 : Nat) (z1993 : Int) (z1994 : Int) (l1995 : List (List V)) : L47_0 (n + 1) (.s0 z1989 z1990 z1991 k1992 z1993 z1994 l1995) = (D47_0 z1989 z1990 z1991 k1992 z1993 z1994 l1995).ev (N47_0.nx n) := rfl
theorem N47_0.nx_s0 (n : Nat) (z1989 : Int) (z1990 : Int) (z1991 : Int) (k1992 : Nat) (z1993 : Int) (z1994 : Int) (l1995 : List (List V)) : N47_0.nx n (.s0 z1989 z1990 z1991 k1992 z1993 z1994 l1995) = L47_0 n (.s0 z1989 z1990 z1991 k1992 z1993 z1994 l1995) := rfl
theorem N47_0.nx_e0 (n : Nat) (k2035 : Nat) (l2036 : List (List V)) : N47_0.nx n (.e0 k2035 l2036) = some (.e0 k2035 l2036) := rfl
noncomputable def D47 (z1950 : Int) (z1951 : Int) (z1952 : Int) : PT A47 :=
  .cut E47_0 (L47_0_ok 18446744073709551616 (.s0 (if (if 16 < z1950 then 16 else z1950) > 2 then if 16 < z1950 then 16 else z1950 else 2) (z1951) (z1952) (0) (w64 (2 * if (if 16 < z1950 then 16 else z1950) > 2 then if 16 < z1950 then 16 else z1950 else 2)) (0) ([])) rfl) fun (r : N47_0) => match r with
  | .e0 k2057 l2058 =>
   .test (0 + k2057 ≤ List.length l2058)
    (fun h0 =>
    .ask E77 (F77_ok (List.take k2057 l2058)) fun (r : A77) => match r with
    | .a0 b2059 k2060 l2061 =>
     .auto 1 <|
     .ret (A47.a0 (b2059) (k2060) (l2061))
    )
    (fun _ => .fail) -- none
  | _ => .fail
noncomputable def F47 (z1950 : Int) (z1951 : Int) (z1952 : Int) : Option A47 := (D47 z1950 z1951 z1952).ev some
theorem F47_ok (z1950 : Int) (z1951 : Int) (z1952 : Int) : ∀ b, F47 z1950 z1951 z1952 = some b → UU 47 ([i64 z1950, i64 z1951, i64 z1952]) ([]) = some (A47.out b) :=
  fn_ok (E := E47) (L := notIn []) rfl rfl (fun x => by kernel_rfl)
/-! ## F65 -/
def F65 (l2083 : List (List V)) : Option A65 :=
  if List.length l2083 * 16 ≤ 140737488355328 ∧ List.length l2083 ≤ 140737488355328 then
   some (A65.a0 (l2083))
  else
   none
theorem F65_ok (l2083 : List (List V)) (r : A65) (h : F65 l2083 = some r) : UU 65 ([V.list 2 l2083]) ([]) = some (A65.out r) := by
  unfold F65 at h
  rcases ite_eq h with ⟨h0, h⟩ | ⟨h0, h⟩
  · cases h
    exact UC_of (n := 1) (call_oracle (cloneO_eq rfl l2083 h0))
  · cases h
/-! ## F59 -/
noncomputable def D59 (b2081 : Bool) (l2082 : List (List V)) : PT A59 :=
  .auto 2 <|
  .ask E65 (F65_ok (l2082)) fun (r : A65) => match r with
  | .a0 l2084 =>
   .auto 1 <|
   .ret (A59.a0 (b2081) (List.length l2084) (l2084))
noncomputable def F59 (b2081 : Bool) (l2082 : List (List V)) : Option A59 := (D59 b2081 l2082).ev some
theorem F59_ok (b2081 : Bool) (l2082 : List (List V)) : ∀ b, F59 b2081 l2082 = some b → UU 59 ([V.agg [vb b2081, V.list 2 l2082]]) ([]) = some (A59.out b) :=
  fn_ok (E := E59) (L := notIn []) rfl rfl (fun x => by kernel_rfl)
/-! ## F26 -/
noncomputable def D26 (b2105 : Bool) (l2106 : List (List V)) (b2107 : Bool) (l2108 : List (List V)) : PT (Bool) :=
  .auto 2 <|
  .testB ((↑(List.length l2106) : Int) == (↑(List.length l2108) : Int))
   (fun h0 =>
   .auto 7 <|
   .ret (b2105 == b2107)
   )
   (fun h0 =>
   .auto 5 <|
   .ret (false)
   )
@[reducible] def O26 (b2109 : Bool) : V × Store := (vb b2109, [])
noncomputable def F26 (b2105 : Bool) (l2106 : List (List V)) (b2107 : Bool) (l2108 : List (List V)) : Bool := (D26 b2105 l2106 b2107 l2108).evT
theorem F26_ok (b2105 : Bool) (l2106 : List (List V)) (b2107 : Bool) (l2108 : List (List V)) : UU 26 ([V.agg [vb b2105, V.list 2 l2106], V.agg [vb b2107, V.list 2 l2108]]) ([]) = some (O26 (F26 b2105 l2106 b2107 l2108)) :=
  fnT_ok (out := O26) (L := notIn []) rfl rfl (fun x => by kernel_rfl) (by simp [D26, PT.isT])
/-! ## F29 -/
noncomputable abbrev B29 : Code := (Try.f29.body).getD .skip
inductive N29_0 where
  | s0 (z2127 : Int) (l2128 : List (List V)) (z2129 : Int) (z2130 : Int) (b2131 : Bool) (l2132 : List (List V)) (k2133 : Nat) (l2134 : List (List V))
  | e0 (b2135 : Bool) (k2136 : Nat) (l2137 : List (List V))
@[reducible] def N29_0.out : N29_0 → VX × S
  | .s0 z2127 l2128 z2129 z2130 b2131 l2132 k2133 l2134 => (VX.normal, { T := U :: U :: i64 z2127 :: V.ptr 0 0 0 :: U :: U :: V.ptr 1 0 0 :: V.ptr 2 0 0 :: un 14 (V.list 2 l2128 :: i64 z2129 :: i64 z2130 :: un 31 []), σ := [Ob.cells true false 2 [[vb b2131, V.list 2 l2132]], Ob.cells true false 2 [[vb false, V.hs 3 0 0]], Ob.cells true false 2 [[vb b2131, V.hs 4 0 k2133]], Ob.cells true true 2 [], Ob.cells true true 2 l2134] })
  | .e0 b2135 k2136 l2137 => (VX.exit 0, { T := un 6 (V.ptr 0 0 0 :: V.ptr 1 0 0 :: un 48 []), σ := [Ob.cells true false 2 [[vb false, V.hs 2 0 0]], Ob.cells true false 2 [[vb b2135, V.hs 3 0 k2136]], Ob.cells true true 2 [], Ob.cells true true 2 l2137] })
def N29_0.ex (g : N29_0 → Prop) : Prop := (∃ (z2127 : Int) (l2128 : List (List V)) (z2129 : Int) (z2130 : Int) (b2131 : Bool) (l2132 : List (List V)) (k2133 : Nat) (l2134 : List (List V)), g (.s0 z2127 l2128 z2129 z2130 b2131 l2132 k2133 l2134)) ∨ (∃ (b2135 : Bool) (k2136 : Nat) (l2137 : List (List V)), g (.e0 b2135 k2136 l2137))
theorem N29_0.ok (g : N29_0 → Prop) : N29_0.ex g ↔ ∃ b, g b := ⟨fun h => match h with
  | .inl ⟨_, _, _, _, _, _, _, _, h⟩ => ⟨_, h⟩
  | .inr (⟨_, _, _, h⟩) => ⟨_, h⟩, fun ⟨b, h⟩ => match b, h with
  | .s0 _ _ _ _ _ _ _ _, h => .inl ⟨_, _, _, _, _, _, _, _, h⟩
  | .e0 _ _ _, h => .inr (⟨_, _, _, h⟩)⟩
abbrev E29_0 : Ent (VX × S) := ⟨N29_0, N29_0.out, N29_0.ex, N29_0.ok⟩
noncomputable def D29_0 (z2127 : Int) (l2128 : List (List V)) (z2129 : Int) (z2130 : Int) (b2131 : Bool) (l2132 : List (List V)) (k2133 : Nat) (l2134 : List (List V)) : PT N29_0 :=
  .test (z2130 < z2129)
   (fun h0 =>
   .test (0 ≤ z2130)
    (fun h1 =>
    .look RW26 (l2128[Int.toNat z2130]?) fun e2143 =>
    .auto 3 <|
    .known (decide_eq_true h1) <|
    .look RW26 (l2132[Int.toNat z2130]?) fun e2144 =>
    .auto 1 <|
    .ask E66 (F66_ok (e2144.c0) (e2143.c0) (z2127)) fun (r : A66) => match r with
    | .a0 z2145 =>
     .auto 1 <|
     .known (decide_eq_true h1) <|
     .look RW26 (l2132[Int.toNat z2130]?) fun e2146 =>
     .auto 1 <|
     .ask E66 (F66_ok (e2146.c1) (e2143.c1) (z2127)) fun (r : A66) => match r with
     | .a0 z2147 =>
      .test (0 ≤ z2130 ∧ z2130 < (↑k2133 : Int))
       (fun h2 =>
       .look RW26 (l2134[(0 : Nat) + Int.toNat z2130]?) fun e2148 =>
       .ret (N29_0.s0 (z2127) (l2128) (z2129) (w64 (z2130 + 1)) (b2131) (l2132) (k2133) (List.set l2134 (0 + Int.toNat z2130) [i64 z2145, i64 z2147]))
       )
       (fun _ => .fail) -- none
    )
    (fun _ => .fail) -- none
   )
   (fun h0 =>
   .ret (N29_0.e0 (b2131) (k2133) (l2134))
   )
noncomputable def S29_0 : N29_0 → PT N29_0
  | .s0 z2127 l2128 z2129 z2130 b2131 l2132 k2133 l2134 => D29_0 z2127 l2128 z2129 z2130 b2131 l2132 k2133 l2134
  | _ => .fail
def N29_0.off : N29_0 → Bool
  | .s0 _ _ _ _ _ _ _ _ => false
  | _ => true
noncomputable def L29_0 (n : Nat) (b : N29_0) : Option N29_0 := PT.loop (S29_0) N29_0.off n b
theorem L29_0_ok : ∀ (n : Nat) (b : N29_0), N29_0.off b = false → ∀ c, L29_0 n b = some c → loopP Try.prog X CC 29 (0) 18446744073709551616 B29 0 n (E29_0.out b).2 = some (E29_0.out c) :=
  loop_ok (E := E29_0) (step := S29_0) (L := notIn []) (fun b hb => by cases b <;> first | (cases hb; done) | (intro x; kernel_rfl)) (fun b => by cases b <;> rfl)
noncomputable def N29_0.nx (n : Nat) (c : N29_0) : Option N29_0 := match N29_0.off c with
  | true => some c
  | false => L29_0 n c
theorem L29_0_s0 (n : Nat) (z2127 : Int) (l2128 : List (List V)) (z2129 : Int) (z2130 : Int) (b2131 : Bool) (l2132 : List (List V)) (k2133 : Nat) (l2134 : List (List V)) : L29_0 (n + 1) (.s0 z2127 l2128 z2129 z2130 b2131 l2132 k2133 l2134) = (D29_0 z2127 l2128 z2129 z2130 b2131 l2132 k2133 l2134).ev (N29_0.nx n) := rfl
theorem N29_0.nx_s0 (n : Nat) (z2127 : Int) (l2128 : List (List V)) (z2129 : Int) (z2130 : Int) (b2131 : Bool) (l2132 : List (List V)) (k2133 : Nat) (l2134 : List (List V)) : N29_0.nx n (.s0 z2127 l2128 z2129 z2130 b2131 l2132 k2133 l2134) = L29_0 n (.s0 z2127 l2128 z2129 z2130 b2131 l2132 k2133 l2134) := rfl
theorem N29_0.nx_e0 (n : Nat) (b2135 : Bool) (k2136 : Nat) (l2137 : List (List V)) : N29_0.nx n (.e0 b2135 k2136 l2137) = some (.e0 b2135 k2136 l2137) := rfl
noncomputable def D29 (b2099 : Bool) (l2100 : List (List V)) (b2101 : Bool) (l2102 : List (List V)) (z2103 : Int) : PT A29 :=
  .auto 2 <|
  .ask E65 (F65_ok (l2100)) fun (r : A65) => match r with
  | .a0 l2141 =>
   .auto 3 <|
   .tot O26 (F26_ok (b2099) (l2100) (b2101) (l2102)) fun b2142 =>
   .testB (!b2142)
    (fun h0 =>
    .auto 2 <|
    .ret (A29.a0 (b2099) (List.length l2141) (l2141))
    )
    (fun h0 =>
    .auto 1 <|
    .cut E29_0 (L29_0_ok 18446744073709551616 (.s0 (z2103) (l2102) ((↑(List.length l2102) : Int)) (0) (b2099) (l2100) (List.length l2141) (l2141)) rfl) fun (r : N29_0) => match r with
    | .e0 b2149 k2150 l2151 =>
     .auto 2 <|
     .ret (A29.a0 (b2149) (k2150) (l2151))
    | _ => .fail
    )
noncomputable def F29 (b2099 : Bool) (l2100 : List (List V)) (b2101 : Bool) (l2102 : List (List V)) (z2103 : Int) : Option A29 := (D29 b2099 l2100 b2101 l2102 z2103).ev some
theorem F29_ok (b2099 : Bool) (l2100 : List (List V)) (b2101 : Bool) (l2102 : List (List V)) (z2103 : Int) : ∀ b, F29 b2099 l2100 b2101 l2102 z2103 = some b → UU 29 ([V.agg [vb b2099, V.list 2 l2100], V.agg [vb b2101, V.list 2 l2102], i64 z2103]) ([]) = some (A29.out b) :=
  fn_ok (E := E29) (L := notIn []) rfl rfl (fun x => by kernel_rfl)
/-! ## F35 -/
noncomputable abbrev B35 : Code := (Try.f35.body).getD .skip
inductive N35_0 where
  | s0 (l2070 : List (List V)) (z2071 : Int) (z2072 : Int)
  | e0 (l2074 : List (List V)) (z2075 : Int) (z2076 : Int)
@[reducible] def N35_0.out : N35_0 → VX × S
  | .s0 l2070 z2071 z2072 => (VX.normal, { T := V.list 8 l2070 :: i64 z2071 :: U :: U :: V.ptr 0 0 0 :: i64 z2072 :: un 66 [], σ := [Ob.cells true false 2 [[vb false, V.hs 1 0 0]], Ob.cells true true 2 []] })
  | .e0 l2074 z2075 z2076 => (VX.exit 0, { T := V.list 8 l2074 :: i64 z2075 :: U :: U :: V.ptr 0 0 0 :: i64 z2076 :: un 66 [], σ := [Ob.cells true false 2 [[vb false, V.hs 1 0 0]], Ob.cells true true 2 []] })
def N35_0.ex (g : N35_0 → Prop) : Prop := (∃ (l2070 : List (List V)) (z2071 : Int) (z2072 : Int), g (.s0 l2070 z2071 z2072)) ∨ (∃ (l2074 : List (List V)) (z2075 : Int) (z2076 : Int), g (.e0 l2074 z2075 z2076))
theorem N35_0.ok (g : N35_0 → Prop) : N35_0.ex g ↔ ∃ b, g b := ⟨fun h => match h with
  | .inl ⟨_, _, _, h⟩ => ⟨_, h⟩
  | .inr (⟨_, _, _, h⟩) => ⟨_, h⟩, fun ⟨b, h⟩ => match b, h with
  | .s0 _ _ _, h => .inl ⟨_, _, _, h⟩
  | .e0 _ _ _, h => .inr (⟨_, _, _, h⟩)⟩
abbrev E35_0 : Ent (VX × S) := ⟨N35_0, N35_0.out, N35_0.ex, N35_0.ok⟩
noncomputable def D35_0 (l2070 : List (List V)) (z2071 : Int) (z2072 : Int) : PT N35_0 :=
  .test (z2072 ≥ 0)
   (fun h0 =>
   .auto 2 <|
   .test (0 ≤ z2072)
    (fun h1 =>
    .look RW63 (l2070[Int.toNat z2072]?) fun e2155 =>
    .auto 5 <|
    .test (e2155.c0 > z2071)
     (fun h2 =>
     .ret (N35_0.s0 (l2070) (z2071) (w64 (z2072 - 1)))
     )
     (fun h2 =>
     .ret (N35_0.e0 (l2070) (z2071) (z2072))
     )
    )
    (fun _ => .fail) -- none
   )
   (fun h0 =>
   .auto 8 <|
   .ret (N35_0.e0 (l2070) (z2071) (z2072))
   )
noncomputable def S35_0 : N35_0 → PT N35_0
  | .s0 l2070 z2071 z2072 => D35_0 l2070 z2071 z2072
  | _ => .fail
def N35_0.off : N35_0 → Bool
  | .s0 _ _ _ => false
  | _ => true
noncomputable def L35_0 (n : Nat) (b : N35_0) : Option N35_0 := PT.loop (S35_0) N35_0.off n b
theorem L35_0_ok : ∀ (n : Nat) (b : N35_0), N35_0.off b = false → ∀ c, L35_0 n b = some c → loopP Try.prog X CC 35 (0) 18446744073709551616 B35 0 n (E35_0.out b).2 = some (E35_0.out c) :=
  loop_ok (E := E35_0) (step := S35_0) (L := notIn []) (fun b hb => by cases b <;> first | (cases hb; done) | (intro x; kernel_rfl)) (fun b => by cases b <;> rfl)
noncomputable def N35_0.nx (n : Nat) (c : N35_0) : Option N35_0 := match N35_0.off c with
  | true => some c
  | false => L35_0 n c
theorem L35_0_s0 (n : Nat) (l2070 : List (List V)) (z2071 : Int) (z2072 : Int) : L35_0 (n + 1) (.s0 l2070 z2071 z2072) = (D35_0 l2070 z2071 z2072).ev (N35_0.nx n) := rfl
theorem N35_0.nx_s0 (n : Nat) (l2070 : List (List V)) (z2071 : Int) (z2072 : Int) : N35_0.nx n (.s0 l2070 z2071 z2072) = L35_0 n (.s0 l2070 z2071 z2072) := rfl
theorem N35_0.nx_e0 (n : Nat) (l2074 : List (List V)) (z2075 : Int) (z2076 : Int) : N35_0.nx n (.e0 l2074 z2075 z2076) = some (.e0 l2074 z2075 z2076) := rfl
noncomputable def D35 (l2065 : List (List V)) (z2066 : Int) : PT A35 :=
  .testB ((↑(List.length l2065) : Int) == 0)
   (fun h0 =>
   .auto 1 <|
   .ret (A35.a0 (false) (0) ([]))
   )
   (fun h0 =>
   .cut E35_0 (L35_0_ok 18446744073709551616 (.s0 (l2065) (z2066) (w64 ((↑(List.length l2065) : Int) - 1))) rfl) fun (r : N35_0) => match r with
   | .e0 l2156 z2157 z2158 =>
    .testB (z2158 == -1)
     (fun h1 =>
     .auto 1 <|
     .look RW63 (l2156[(0 : Nat)]?) fun e2159 =>
     .ask E59 (F59_ok (e2159.c1) (e2159.c2)) fun (r : A59) => match r with
     | .a0 b2160 k2161 l2162 =>
      .auto 1 <|
      .ret (A35.a0 (b2160) (k2161) (l2162))
     )
     (fun h1 =>
     .testB (z2158 == w64 ((↑(List.length l2156) : Int) - 1))
      (fun h2 =>
      .test (0 ≤ z2158)
       (fun h3 =>
       .look RW63 (l2156[Int.toNat z2158]?) fun e2163 =>
       .ask E59 (F59_ok (e2163.c1) (e2163.c2)) fun (r : A59) => match r with
       | .a0 b2164 k2165 l2166 =>
        .auto 1 <|
        .ret (A35.a0 (b2164) (k2165) (l2166))
       )
       (fun _ => .fail) -- none
      )
      (fun h2 =>
      .test (0 ≤ z2158)
       (fun h3 =>
       .look RW63 (l2156[Int.toNat z2158]?) fun e2167 =>
       .test (0 ≤ w64 (z2158 + 1))
        (fun h4 =>
        .look RW63 (l2156[Int.toNat (w64 (z2158 + (1 : Int)))]?) fun e2168 =>
        .auto 8 <|
        .ask E72 (F72_ok (e2167.c0) (e2168.c0) (z2157)) fun (r : A72) => match r with
        | .a0 z2169 =>
         .ask E71 (F71_ok (e2167.c3) (e2167.c4) (e2167.c5) (e2167.c6) (e2167.c7) (z2169)) fun (r : A71) => match r with
         | .a0 z2170 =>
          .ask E29 (F29_ok (e2167.c1) (e2167.c2) (e2168.c1) (e2168.c2) (z2170)) fun (r : A29) => match r with
          | .a0 b2171 k2172 l2173 =>
           .auto 1 <|
           .ret (A35.a0 (b2171) (k2172) (l2173))
        )
        (fun _ => .fail) -- none
       )
       (fun _ => .fail) -- none
      )
     )
   | _ => .fail
   )
noncomputable def F35 (l2065 : List (List V)) (z2066 : Int) : Option A35 := (D35 l2065 z2066).ev some
theorem F35_ok (l2065 : List (List V)) (z2066 : Int) : ∀ b, F35 l2065 z2066 = some b → UU 35 ([V.list 8 l2065, i64 z2066]) ([]) = some (A35.out b) :=
  fn_ok (E := E35) (L := notIn []) rfl rfl (fun x => by kernel_rfl)
/-! ## F16 -/
noncomputable def D16 (z1668 : Int) (z1669 : Int) (l1670 : List (List V)) (l1671 : List (List V)) (l1672 : List (List V)) (b1673 : Bool) (z1674 : Int) (z1675 : Int) (z1676 : Int) (z1677 : Int) (z1678 : Int) (z1679 : Int) (z1680 : Int) (z1681 : Int) (z1682 : Int) (z1683 : Int) (z1684 : Int) (z1685 : Int) (z1686 : Int) (z1687 : Int) (z1688 : Int) (l1689 : List (List V)) (b1690 : Bool) (l1691 : List (List V)) (z1692 : Int) (z1693 : Int) (z1694 : Int) (z1695 : Int) (z1696 : Int) (l1697 : List (List V)) (l1698 : List (List V)) (l1699 : List (List V)) (z1700 : Int) : PT A16 :=
  .auto 1 <|
  .ask E44 (F44_ok (l1670) (z1700) (0)) fun (r : A44) => match r with
  | .a0 z1857 =>
   .auto 1 <|
   .ask E44 (F44_ok (l1671) (z1700) (0)) fun (r : A44) => match r with
   | .a0 z1858 =>
    .auto 1 <|
    .testB (z1668 == 0)
     (fun h0 =>
     .ask E45 (F45_ok (z1857) (z1858)) fun (r : A45) => match r with
     | .a0 b1908 k1909 l1910 =>
      .auto 1 <|
      .ret (A16.a0 (b1908) (k1909) (l1910))
     )
     (fun h0 =>
     .testB (z1668 == 1)
      (fun h1 =>
      .ask E46 (F46_ok (z1857) (z1858)) fun (r : A46) => match r with
      | .a0 b1947 k1948 l1949 =>
       .auto 1 <|
       .ret (A16.a0 (b1947) (k1948) (l1949))
      )
      (fun h1 =>
      .testB (z1668 == 2)
       (fun h2 =>
       .auto 1 <|
       .ask E47 (F47_ok (z1669) (z1857) (z1858)) fun (r : A47) => match r with
       | .a0 b2062 k2063 l2064 =>
        .auto 1 <|
        .ret (A16.a0 (b2062) (k2063) (l2064))
       )
       (fun h2 =>
       .testB (z1668 == 3)
        (fun h3 =>
        .auto 1 <|
        .ask E35 (F35_ok (l1672) (z1700)) fun (r : A35) => match r with
        | .a0 b2174 k2175 l2176 =>
         .auto 1 <|
         .ret (A16.a0 (b2174) (k2175) (l2176))
        )
        (fun h3 =>
        .auto 1 <|
        .ret (A16.a0 (false) (0) ([]))
        )
       )
      )
     )
noncomputable def F16 (z1668 : Int) (z1669 : Int) (l1670 : List (List V)) (l1671 : List (List V)) (l1672 : List (List V)) (b1673 : Bool) (z1674 : Int) (z1675 : Int) (z1676 : Int) (z1677 : Int) (z1678 : Int) (z1679 : Int) (z1680 : Int) (z1681 : Int) (z1682 : Int) (z1683 : Int) (z1684 : Int) (z1685 : Int) (z1686 : Int) (z1687 : Int) (z1688 : Int) (l1689 : List (List V)) (b1690 : Bool) (l1691 : List (List V)) (z1692 : Int) (z1693 : Int) (z1694 : Int) (z1695 : Int) (z1696 : Int) (l1697 : List (List V)) (l1698 : List (List V)) (l1699 : List (List V)) (z1700 : Int) : Option A16 := (D16 z1668 z1669 l1670 l1671 l1672 b1673 z1674 z1675 z1676 z1677 z1678 z1679 z1680 z1681 z1682 z1683 z1684 z1685 z1686 z1687 z1688 l1689 b1690 l1691 z1692 z1693 z1694 z1695 z1696 l1697 l1698 l1699 z1700).ev some
theorem F16_ok (z1668 : Int) (z1669 : Int) (l1670 : List (List V)) (l1671 : List (List V)) (l1672 : List (List V)) (b1673 : Bool) (z1674 : Int) (z1675 : Int) (z1676 : Int) (z1677 : Int) (z1678 : Int) (z1679 : Int) (z1680 : Int) (z1681 : Int) (z1682 : Int) (z1683 : Int) (z1684 : Int) (z1685 : Int) (z1686 : Int) (z1687 : Int) (z1688 : Int) (l1689 : List (List V)) (b1690 : Bool) (l1691 : List (List V)) (z1692 : Int) (z1693 : Int) (z1694 : Int) (z1695 : Int) (z1696 : Int) (l1697 : List (List V)) (l1698 : List (List V)) (l1699 : List (List V)) (z1700 : Int) : ∀ b, F16 z1668 z1669 l1670 l1671 l1672 b1673 z1674 z1675 z1676 z1677 z1678 z1679 z1680 z1681 z1682 z1683 z1684 z1685 z1686 z1687 z1688 l1689 b1690 l1691 z1692 z1693 z1694 z1695 z1696 l1697 l1698 l1699 z1700 = some b → UU 16 ([V.agg [i64 z1668, i64 z1669, V.list 7 l1670, V.list 7 l1671, V.list 8 l1672, vb b1673, i64 z1674, i64 z1675, u8 z1676, u8 z1677, u8 z1678, u8 z1679, u8 z1680, u8 z1681, u8 z1682, u8 z1683, i64 z1684, i64 z1685, i64 z1686, i64 z1687, i64 z1688, V.list 10 l1689, vb b1690, V.list 7 l1691, u8 z1692, u8 z1693, u8 z1694, u8 z1695, i64 z1696, V.list 1 l1697, V.list 7 l1698, V.list 7 l1699], i64 z1700]) ([]) = some (A16.out b) :=
  fn_ok (E := E16) (L := notIn []) rfl rfl (fun x => by kernel_rfl)
/-! ## F120 -/
noncomputable def D120 (z2709 : Int) (z2710 : Int) (z2711 : Int) : PT (Bool) :=
  .test (z2709 ≥ z2710)
   (fun h0 =>
   .auto 3 <|
   .ret (decide (z2709 ≤ z2711))
   )
   (fun h0 =>
   .auto 3 <|
   .ret (false)
   )
@[reducible] def O120 (b2712 : Bool) : V × Store := (vb b2712, [])
noncomputable def F120 (z2709 : Int) (z2710 : Int) (z2711 : Int) : Bool := (D120 z2709 z2710 z2711).evT
theorem F120_ok (z2709 : Int) (z2710 : Int) (z2711 : Int) : UU 120 ([i64 z2709, i64 z2710, i64 z2711]) ([]) = some (O120 (F120 z2709 z2710 z2711)) :=
  fnT_ok (out := O120) (L := notIn []) rfl rfl (fun x => by kernel_rfl) (by simp [D120, PT.isT])
/-! ## F103 -/
noncomputable def D103 (z2705 : Int) (z2706 : Int) (z2707 : Int) (z2708 : Int) : PT (Bool) :=
  .auto 1 <|
  .tot O120 (F120_ok (z2705) (0) (65536)) fun b2713 =>
  .testB (b2713)
   (fun h0 =>
   .auto 4 <|
   .tot O120 (F120_ok (z2707) (0) (65536)) fun b2714 =>
   .auto 1 <|
   .testB (b2714)
    (fun h1 =>
    .auto 4 <|
    .tot O120 (F120_ok (z2706) (-131072) (196608)) fun b2715 =>
    .auto 1 <|
    .testB (b2715)
     (fun h2 =>
     .auto 4 <|
     .tot O120 (F120_ok (z2708) (-131072) (196608)) fun b2716 =>
     .auto 1 <|
     .ret (b2716)
     )
     (fun h2 =>
     .auto 4 <|
     .ret (false)
     )
    )
    (fun h1 =>
    .auto 9 <|
    .ret (false)
    )
   )
   (fun h0 =>
   .auto 14 <|
   .ret (false)
   )
@[reducible] def O103 (b2717 : Bool) : V × Store := (vb b2717, [])
noncomputable def F103 (z2705 : Int) (z2706 : Int) (z2707 : Int) (z2708 : Int) : Bool := (D103 z2705 z2706 z2707 z2708).evT
theorem F103_ok (z2705 : Int) (z2706 : Int) (z2707 : Int) (z2708 : Int) : UU 103 ([V.agg [i64 z2705, i64 z2706, i64 z2707, i64 z2708]]) ([]) = some (O103 (F103 z2705 z2706 z2707 z2708)) :=
  fnT_ok (out := O103) (L := notIn []) rfl rfl (fun x => by kernel_rfl) (by simp [D103, PT.isT])
/-! ## F69 -/
noncomputable abbrev B69 : Code := (Try.f69.body).getD .skip
inductive N69_r1 where
  | e0 (z2692 : Int) (b2693 : Bool) (z2694 : Int) (z2695 : Int) (z2696 : Int) (z2697 : Int)
@[reducible] def N69_r1.out : N69_r1 → VX × S
  | .e0 z2692 b2693 z2694 z2695 z2696 z2697 => (VX.normal, { T := U :: U :: U :: i64 z2692 :: un 5 (V.ptr 0 0 0 :: U :: vb b2693 :: un 31 []), σ := [Ob.cells true false 4 [[i64 z2694, i64 z2695, i64 z2696, i64 z2697]]] })
def N69_r1.ex (g : N69_r1 → Prop) : Prop := (∃ (z2692 : Int) (b2693 : Bool) (z2694 : Int) (z2695 : Int) (z2696 : Int) (z2697 : Int), g (.e0 z2692 b2693 z2694 z2695 z2696 z2697))
theorem N69_r1.ok (g : N69_r1 → Prop) : N69_r1.ex g ↔ ∃ b, g b := ⟨fun h => match h with
  | ⟨_, _, _, _, _, _, h⟩ => ⟨_, h⟩, fun ⟨b, h⟩ => match b, h with
  | .e0 _ _ _ _ _ _, h => ⟨_, _, _, _, _, _, h⟩⟩
abbrev E69_r1 : Ent (VX × S) := ⟨N69_r1, N69_r1.out, N69_r1.ex, N69_r1.ok⟩
noncomputable def D69_r1 (z2679 : Int) (z2680 : Int) (z2681 : Int) (z2682 : Int) (z2683 : Int) (z2684 : Int) (z2685 : Int) (z2686 : Int) : PT N69_r1 :=
  .test (z2681 < -1073741824)
   (fun h0 =>
   .auto 7 <|
   .ret (N69_r1.e0 (z2682) (true) (z2683) (z2684) (z2685) (z2686))
   )
   (fun h0 =>
   .auto 2 <|
   .test (z2681 > 1073741824)
    (fun h1 =>
    .auto 4 <|
    .ret (N69_r1.e0 (z2682) (true) (z2683) (z2684) (z2685) (z2686))
    )
    (fun h1 =>
    .auto 2 <|
    .test (z2679 > 0)
     (fun h2 =>
     .auto 5 <|
     .ret (N69_r1.e0 (z2682) (decide (z2681 ≤ z2680)) (z2683) (z2684) (z2685) (z2686))
     )
     (fun h2 =>
     .auto 5 <|
     .ret (N69_r1.e0 (z2682) (false) (z2683) (z2684) (z2685) (z2686))
     )
    )
   )
noncomputable def J69_r1 (z2679 : Int) (z2680 : Int) (z2681 : Int) (z2682 : Int) (z2683 : Int) (z2684 : Int) (z2685 : Int) (z2686 : Int) : Option N69_r1 := (D69_r1 z2679 z2680 z2681 z2682 z2683 z2684 z2685 z2686).ev some
theorem J69_r1_ok (z2679 : Int) (z2680 : Int) (z2681 : Int) (z2682 : Int) (z2683 : Int) (z2684 : Int) (z2685 : Int) (z2686 : Int) : ∀ b, J69_r1 z2679 z2680 z2681 z2682 z2683 z2684 z2685 z2686 = some b → regP Try.prog X CC 69 (0) B69 1 ({ T := i64 z2679 :: i64 z2680 :: i64 z2681 :: i64 z2682 :: un 5 (V.ptr 0 0 0 :: un 33 []), σ := [Ob.cells true false 4 [[i64 z2683, i64 z2684, i64 z2685, i64 z2686]]] }) = some (E69_r1.out b) :=
  reg_ok (E := E69_r1) (fun x => by kernel_rfl)
noncomputable def D69 (z2671 : Int) (z2672 : Int) (z2673 : Int) (z2674 : Int) (z2675 : Int) (z2676 : Int) (z2677 : Int) (z2678 : Int) : PT A69 :=
  .cut E69_r1 (J69_r1_ok (z2671) (z2672) (z2673) (z2674) (z2675) (z2676) (z2677) (z2678)) fun (r : N69_r1) => match r with
  | .e0 z2719 b2720 z2721 z2722 z2723 z2724 =>
   .testB (b2720)
    (fun h0 =>
    .ret (A69.a0 (false))
    )
    (fun h0 =>
    .testB (z2719 == 2)
     (fun h1 =>
     .auto 1 <|
     .tot O103 (F103_ok (z2721) (z2722) (z2723) (z2724)) fun b2725 =>
     .ret (A69.a0 (b2725))
     )
     (fun h1 =>
     .testB (z2719 == 0)
      (fun h2 =>
      .auto 7 <|
      .ret (A69.a0 (z2721 == 0 && (z2722 == 0 && (z2723 == 0 && (z2724 == 0 && true)))))
      )
      (fun h2 =>
      .auto 2 <|
      .testB (z2719 == 1)
       (fun h3 =>
       .auto 4 <|
       .ret (A69.a0 (z2721 == 0 && (z2722 == 0 && (z2723 == 0 && (z2724 == 0 && true)))))
       )
       (fun h3 =>
       .auto 3 <|
       .ret (A69.a0 (false))
       )
      )
     )
    )
noncomputable def F69 (z2671 : Int) (z2672 : Int) (z2673 : Int) (z2674 : Int) (z2675 : Int) (z2676 : Int) (z2677 : Int) (z2678 : Int) : Option A69 := (D69 z2671 z2672 z2673 z2674 z2675 z2676 z2677 z2678).ev some
theorem F69_ok (z2671 : Int) (z2672 : Int) (z2673 : Int) (z2674 : Int) (z2675 : Int) (z2676 : Int) (z2677 : Int) (z2678 : Int) : ∀ b, F69 z2671 z2672 z2673 z2674 z2675 z2676 z2677 z2678 = some b → UU 69 ([i64 z2671, i64 z2672, i64 z2673, i64 z2674, V.agg [i64 z2675, i64 z2676, i64 z2677, i64 z2678]]) ([]) = some (A69.out b) :=
  fn_ok (E := E69) (L := notIn []) rfl rfl (fun x => by kernel_rfl)
/-! ## F25 -/
noncomputable def D25 (b2727 : Bool) (l2728 : List (List V)) : PT (Bool) :=
  .auto 1 <|
  .ret ((↑(List.length l2728) : Int) == 0)
@[reducible] def O25 (b2729 : Bool) : V × Store := (vb b2729, [])
noncomputable def F25 (b2727 : Bool) (l2728 : List (List V)) : Bool := (D25 b2727 l2728).evT
theorem F25_ok (b2727 : Bool) (l2728 : List (List V)) : UU 25 ([V.agg [vb b2727, V.list 2 l2728]]) ([]) = some (O25 (F25 b2727 l2728)) :=
  fnT_ok (out := O25) (L := notIn []) rfl rfl (fun x => by kernel_rfl) (by simp [D25, PT.isT])
/-! ## F63 -/
noncomputable def D63 (z2741 : Int) : PT (Bool) :=
  .test (z2741 ≥ -67108864)
   (fun h0 =>
   .auto 2 <|
   .ret (decide (z2741 ≤ 67108864))
   )
   (fun h0 =>
   .auto 2 <|
   .ret (false)
   )
@[reducible] def O63 (b2742 : Bool) : V × Store := (vb b2742, [])
noncomputable def F63 (z2741 : Int) : Bool := (D63 z2741).evT
theorem F63_ok (z2741 : Int) : UU 63 ([i64 z2741]) ([]) = some (O63 (F63 z2741)) :=
  fnT_ok (out := O63) (L := notIn []) rfl rfl (fun x => by kernel_rfl) (by simp [D63, PT.isT])
/-! ## F62 -/
noncomputable def D62 (z2739 : Int) (z2740 : Int) : PT (Bool) :=
  .auto 1 <|
  .tot O63 (F63_ok (z2739)) fun b2743 =>
  .testB (!b2743)
   (fun h0 =>
   .auto 4 <|
   .ret (true)
   )
   (fun h0 =>
   .auto 3 <|
   .tot O63 (F63_ok (z2740)) fun b2745 =>
   .auto 2 <|
   .ret (!b2745)
   )
@[reducible] def O62 (b2744 : Bool) : V × Store := (vb b2744, [])
noncomputable def F62 (z2739 : Int) (z2740 : Int) : Bool := (D62 z2739 z2740).evT
theorem F62_ok (z2739 : Int) (z2740 : Int) : UU 62 ([V.agg [i64 z2739, i64 z2740]]) ([]) = some (O62 (F62 z2739 z2740)) :=
  fnT_ok (out := O62) (L := notIn []) rfl rfl (fun x => by kernel_rfl) (by simp [D62, PT.isT])
end Go.Proofs.Ytifalphladcdcaa.H
