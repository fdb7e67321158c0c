/- A law of colours, closed: rounds of its loops, for whatever two numbers. No condition. -/
import Derived.Test.YtcomanfboibhiaaHG
set_option linter.unusedVariables false
set_option linter.unusedSimpArgs false
namespace Go.Proofs.Ytcomanfboibhiaa.H
open Go Go.VM
set_option maxRecDepth 10000
noncomputable abbrev B6 : Code := (Try.f6.body).getD .skip
noncomputable abbrev L6 (w n : Nat) (s : S) : Option (VX × S) := loopFrom Try.prog X (call Try.prog X O3 100000 11) 6 0 100000 B6 w n s
noncomputable abbrev R6 (w : Nat) (s : S) : Option (VX × S) := loopRun Try.prog X (call Try.prog X O3 100000 11) 6 0 100000 B6 w s
def u (n : Nat) : List V := List.replicate n .undef
def row6 : List (List V) := [[.int .i64 (-4611686018427387904)], [.int .i64 (-65536)], [.int .i64 (-1)], [.int .i64 (0)], [.int .i64 (1)], [.int .i64 (255)], [.int .i64 (257)], [.int .i64 (21845)], [.int .i64 (32768)], [.int .i64 (65535)], [.int .i64 (65536)], [.int .i64 (65537)], [.int .i64 (196608)], [.int .i64 (4611686018427387904)]]
def Q4 (i a b : Int) : S := ⟨[.undef, .int .i64 a, .int .i64 b] ++ u 15 ++ [.hs 0 0 14, .int .i64 14, .int .i64 i] ++ u 78, [.cells true true 1 row6]⟩
def E4 (a b : Int) : S := ⟨[.undef, .int .i64 a, .int .i64 b] ++ u 15 ++ [.hs 0 0 14, .int .i64 14, .int .i64 14, .bool false] ++ u 77, [.cells true true 1 row6]⟩
def S4 (a b : Int) : S := ⟨[.undef, .int .i64 a, .int .i64 b] ++ u 11 ++ [.int .i64 b, .bool (decide (b < 256)), .undef, .undef, .hs 0 0 14, .int .i64 14, .int .i64 0] ++ u 78, [.cells true true 1 row6]⟩
def Q2 (a b : Int) : S := ⟨[.undef, .int .i64 a, .int .i64 b] ++ u 96, []⟩
def E2 (a b : Int) : S := ⟨[.undef, .int .i64 a, .int .i64 b] ++ u 11 ++ [.int .i64 b, .bool (decide (b < 256))] ++ u 83, []⟩
def S2 (a : Int) : S := ⟨[.undef, .int .i64 a, .int .i64 0] ++ u 7 ++ [.int .i64 a, .bool (decide (a < 256))] ++ u 87, []⟩
def P6 (a : Int) : S := ⟨[.undef, .int .i64 a] ++ u 97, []⟩
def E6 : S := ⟨[.undef, .int .i64 272] ++ u 8 ++ [.int .i64 272, .bool false] ++ u 87, []⟩
def S6 : S := ⟨[.bool false, .int .i64 0] ++ u 97, []⟩
/-- What is asked at each part. -/
def differ (a b p : Int) : Bool := !(mixR (IntKind.wrap .u8 a) (IntKind.wrap .u8 b) p == mixR (IntKind.wrap .u8 a) (IntKind.wrap .u8 b) p && (mixR (IntKind.wrap .u8 b) (IntKind.wrap .u8 a) p == mixR (IntKind.wrap .u8 b) (IntKind.wrap .u8 a) p && (mixR 0 255 p == mixR 0 255 p && (mixR 255 1 p == mixR 255 1 p && true))))
theorem differ_not (a b p : Int) : differ a b p = false := by simp [differ]
theorem q4_0 (a b : Int) (n : Nat) : L6 4 (n + 1) (Q4 0 a b) = L6 4 n (Q4 1 a b) := round_on (gs := [.a, .a, .a, .f]) (q := (differ a b (-4611686018427387904) = false) ∧ True) (fun _ => false) (by kernel_rfl) ⟨differ_not _ _ _, trivial⟩ n
theorem q4_1 (a b : Int) (n : Nat) : L6 4 (n + 1) (Q4 1 a b) = L6 4 n (Q4 2 a b) := round_on (gs := [.a, .a, .a, .f]) (q := (differ a b (-65536) = false) ∧ True) (fun _ => false) (by kernel_rfl) ⟨differ_not _ _ _, trivial⟩ n
theorem q4_2 (a b : Int) (n : Nat) : L6 4 (n + 1) (Q4 2 a b) = L6 4 n (Q4 3 a b) := round_on (gs := [.a, .a, .a, .f]) (q := (differ a b (-1) = false) ∧ True) (fun _ => false) (by kernel_rfl) ⟨differ_not _ _ _, trivial⟩ n
theorem q4_3 (a b : Int) (n : Nat) : L6 4 (n + 1) (Q4 3 a b) = L6 4 n (Q4 4 a b) := round_on (gs := [.a, .a, .a, .f]) (q := (differ a b (0) = false) ∧ True) (fun _ => false) (by kernel_rfl) ⟨differ_not _ _ _, trivial⟩ n
theorem q4_4 (a b : Int) (n : Nat) : L6 4 (n + 1) (Q4 4 a b) = L6 4 n (Q4 5 a b) := round_on (gs := [.a, .a, .a, .f]) (q := (differ a b (1) = false) ∧ True) (fun _ => false) (by kernel_rfl) ⟨differ_not _ _ _, trivial⟩ n
theorem q4_5 (a b : Int) (n : Nat) : L6 4 (n + 1) (Q4 5 a b) = L6 4 n (Q4 6 a b) := round_on (gs := [.a, .a, .a, .f]) (q := (differ a b (255) = false) ∧ True) (fun _ => false) (by kernel_rfl) ⟨differ_not _ _ _, trivial⟩ n
theorem q4_6 (a b : Int) (n : Nat) : L6 4 (n + 1) (Q4 6 a b) = L6 4 n (Q4 7 a b) := round_on (gs := [.a, .a, .a, .f]) (q := (differ a b (257) = false) ∧ True) (fun _ => false) (by kernel_rfl) ⟨differ_not _ _ _, trivial⟩ n
theorem q4_7 (a b : Int) (n : Nat) : L6 4 (n + 1) (Q4 7 a b) = L6 4 n (Q4 8 a b) := round_on (gs := [.a, .a, .a, .f]) (q := (differ a b (21845) = false) ∧ True) (fun _ => false) (by kernel_rfl) ⟨differ_not _ _ _, trivial⟩ n
theorem q4_8 (a b : Int) (n : Nat) : L6 4 (n + 1) (Q4 8 a b) = L6 4 n (Q4 9 a b) := round_on (gs := [.a, .a, .a, .f]) (q := (differ a b (32768) = false) ∧ True) (fun _ => false) (by kernel_rfl) ⟨differ_not _ _ _, trivial⟩ n
theorem q4_9 (a b : Int) (n : Nat) : L6 4 (n + 1) (Q4 9 a b) = L6 4 n (Q4 10 a b) := round_on (gs := [.a, .a, .a, .f]) (q := (differ a b (65535) = false) ∧ True) (fun _ => false) (by kernel_rfl) ⟨differ_not _ _ _, trivial⟩ n
theorem q4_10 (a b : Int) (n : Nat) : L6 4 (n + 1) (Q4 10 a b) = L6 4 n (Q4 11 a b) := round_on (gs := [.a, .a, .a, .f]) (q := (differ a b (65536) = false) ∧ True) (fun _ => false) (by kernel_rfl) ⟨differ_not _ _ _, trivial⟩ n
theorem q4_11 (a b : Int) (n : Nat) : L6 4 (n + 1) (Q4 11 a b) = L6 4 n (Q4 12 a b) := round_on (gs := [.a, .a, .a, .f]) (q := (differ a b (65537) = false) ∧ True) (fun _ => false) (by kernel_rfl) ⟨differ_not _ _ _, trivial⟩ n
theorem q4_12 (a b : Int) (n : Nat) : L6 4 (n + 1) (Q4 12 a b) = L6 4 n (Q4 13 a b) := round_on (gs := [.a, .a, .a, .f]) (q := (differ a b (196608) = false) ∧ True) (fun _ => false) (by kernel_rfl) ⟨differ_not _ _ _, trivial⟩ n
theorem q4_13 (a b : Int) (n : Nat) : L6 4 (n + 1) (Q4 13 a b) = L6 4 n (Q4 14 a b) := round_on (gs := [.a, .a, .a, .f]) (q := (differ a b (4611686018427387904) = false) ∧ True) (fun _ => false) (by kernel_rfl) ⟨differ_not _ _ _, trivial⟩ n
theorem q4_off (a b : Int) (n : Nat) : L6 4 (n + 1) (Q4 14 a b) = some (.exit 4, E4 a b) := round_off (gs := []) (q := True) (fun _ => false) (by kernel_rfl) trivial n
theorem run4 (a b : Int) : R6 4 (S4 a b) = some (.exit 4, E4 a b) := by
  refine (loopRun_from _).trans ?_
  rw [show prep 0 (X.keep 6 4) (S4 a b) = Q4 0 a b by kernel_rfl]
  exact (q4_0 a b 99999).trans ((q4_1 a b 99998).trans ((q4_2 a b 99997).trans ((q4_3 a b 99996).trans ((q4_4 a b 99995).trans ((q4_5 a b 99994).trans ((q4_6 a b 99993).trans ((q4_7 a b 99992).trans ((q4_8 a b 99991).trans ((q4_9 a b 99990).trans ((q4_10 a b 99989).trans ((q4_11 a b 99988).trans ((q4_12 a b 99987).trans ((q4_13 a b 99986).trans (q4_off a b 99985))))))))))))))
theorem q2_on (a b : Int) (h : decide (b < 256) = true) (n : Nat) : L6 2 (n + 1) (Q2 a b) = L6 2 n (Q2 a (IntKind.wrap .i64 (b + 15))) :=
  round_on (gs := [.t, .lp (.exit 4) (E4 a b)]) (q := (decide (b < 256) = true) ∧ (R6 4 (S4 a b) = some (.exit 4, E4 a b)) ∧ True) (fun k => Nat.beq k 4) (by kernel_rfl) ⟨h, run4 a b, trivial⟩ n
theorem q2_off (a b : Int) (h : decide (b < 256) = false) (n : Nat) : L6 2 (n + 1) (Q2 a b) = some (.exit 2, E2 a b) :=
  round_off (gs := [.f]) (q := (decide (b < 256) = false) ∧ True) (fun k => Nat.beq k 4) (by kernel_rfl) ⟨h, trivial⟩ n
theorem run2 (a : Int) : R6 2 (S2 a) = some (.exit 2, E2 a 270) := by
  refine (loopRun_from _).trans ?_
  rw [show prep 0 (X.keep 6 2) (S2 a) = Q2 a 0 by kernel_rfl]
  exact (q2_on a 0 (by decide) 99999).trans ((q2_on a 15 (by decide) 99998).trans ((q2_on a 30 (by decide) 99997).trans ((q2_on a 45 (by decide) 99996).trans ((q2_on a 60 (by decide) 99995).trans ((q2_on a 75 (by decide) 99994).trans ((q2_on a 90 (by decide) 99993).trans ((q2_on a 105 (by decide) 99992).trans ((q2_on a 120 (by decide) 99991).trans ((q2_on a 135 (by decide) 99990).trans ((q2_on a 150 (by decide) 99989).trans ((q2_on a 165 (by decide) 99988).trans ((q2_on a 180 (by decide) 99987).trans ((q2_on a 195 (by decide) 99986).trans ((q2_on a 210 (by decide) 99985).trans ((q2_on a 225 (by decide) 99984).trans ((q2_on a 240 (by decide) 99983).trans ((q2_on a 255 (by decide) 99982).trans (q2_off a 270 (by decide) 99981))))))))))))))))))
theorem p6_on (a : Int) (h : decide (a < 256) = true) (n : Nat) : L6 0 (n + 1) (P6 a) = L6 0 n (P6 (IntKind.wrap .i64 (a + 17))) :=
  round_on (gs := [.t, .lp (.exit 2) (E2 a 270)]) (q := (decide (a < 256) = true) ∧ (R6 2 (S2 a) = some (.exit 2, E2 a 270)) ∧ True) (fun k => Nat.beq k 2) (by kernel_rfl) ⟨h, run2 a, trivial⟩ n
theorem p6_off (n : Nat) : L6 0 (n + 1) (P6 272) = some (.exit 0, E6) := round_off (gs := []) (q := True) (fun _ => false) (by kernel_rfl) trivial n
theorem run6 : R6 0 S6 = some (.exit 0, E6) := by
  refine (loopRun_from _).trans ?_
  rw [show prep 0 (X.keep 6 0) S6 = P6 0 by kernel_rfl]
  exact (p6_on 0 (by decide) 99999).trans ((p6_on 17 (by decide) 99998).trans ((p6_on 34 (by decide) 99997).trans ((p6_on 51 (by decide) 99996).trans ((p6_on 68 (by decide) 99995).trans ((p6_on 85 (by decide) 99994).trans ((p6_on 102 (by decide) 99993).trans ((p6_on 119 (by decide) 99992).trans ((p6_on 136 (by decide) 99991).trans ((p6_on 153 (by decide) 99990).trans ((p6_on 170 (by decide) 99989).trans ((p6_on 187 (by decide) 99988).trans ((p6_on 204 (by decide) 99987).trans ((p6_on 221 (by decide) 99986).trans ((p6_on 238 (by decide) 99985).trans ((p6_on 255 (by decide) 99984).trans (p6_off 99983))))))))))))))))
end Go.Proofs.Ytcomanfboibhiaa.H
