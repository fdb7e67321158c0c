/- Written by a program of this session (wip/hprint.py, over the kit's print program): Go functions as Lean functions, and for each a proof that its call answers what that function says. No condition beyond those stated. -/
import Derived.Test.YtejnbjclcdmopaaPAx0
import Derived.Test.YtejnbjclcdmopaaPAx2
namespace Go.Proofs.Ytejnbjclcdmopaa.PA
open Go.RowKit Go.Proofs.YtejnbjclcdmopaaW.PrintWords Go.Proofs.YtejnbjclcdmopaaW.PrintLast Go.Proofs.YtejnbjclcdmopaaW.PrintMore
attribute [local go_sem] max2_int min2_int max_two min_two max_three min_three max_four min_four   -- for this text's walks alone
attribute [local go_sem] Go.Proofs.Ytejnbjclcdmopaa.MS.isSome_setCell
set_option linter.unusedVariables false
set_option linter.unusedSimpArgs false

/-! ### q_product: function 56 -/
def q_product.f (a0 : Int) (a1 : Int) : Option (Int × Int) := (bits_Mul64.f (IntKind.u64.wrap (a0)) (IntKind.u64.wrap (a1))).bind fun bt102 => (if a0 < 0 then (if a1 < 0 then (some (IntKind.u64.wrap ((IntKind.u64.wrap (bt102.1 - (IntKind.u64.wrap (a1)))) - (IntKind.u64.wrap (a0))), bt102.2)) else (some (IntKind.u64.wrap (bt102.1 - (IntKind.u64.wrap (a1))), bt102.2))) else (if a1 < 0 then (some (IntKind.u64.wrap (bt102.1 - (IntKind.u64.wrap (a0))), bt102.2)) else (some (bt102.1, bt102.2))))
set_option maxHeartbeats 8000000 in
set_option maxRecDepth 100000 in
theorem q_product.calls (a0 : Int) (a1 : Int) (r1 : Int) (r2 : Int) (w : World) (h : q_product.f a0 a1 = some (r1, r2)) :
    Calls Try.prog 56 #[.int .i64 a0, .int .i64 a1] w fun e w' => e = .returned (.tuple #[.int .u64 r1, .int .u64 r2]) ∧ Drawn0 w w' := by
  have H : ((bits_Mul64.f (IntKind.u64.wrap (a0)) (IntKind.u64.wrap (a1))).bind fun bt102 => (if a0 < 0 then (if a1 < 0 then (some (IntKind.u64.wrap ((IntKind.u64.wrap (bt102.1 - (IntKind.u64.wrap (a1)))) - (IntKind.u64.wrap (a0))), bt102.2)) else (some (IntKind.u64.wrap (bt102.1 - (IntKind.u64.wrap (a1))), bt102.2))) else (if a1 < 0 then (some (IntKind.u64.wrap (bt102.1 - (IntKind.u64.wrap (a0))), bt102.2)) else (some (bt102.1, bt102.2))))) = some (r1, r2) := h
  clear h
  replace H := Option.bind_eq_some_iff.mp H
  obtain ⟨⟨t102, t103⟩, A30, H⟩ := H
  replace H : (if a0 < 0 then (if a1 < 0 then (some (IntKind.u64.wrap ((IntKind.u64.wrap (t102 - (IntKind.u64.wrap (a1)))) - (IntKind.u64.wrap (a0))), t103)) else (some (IntKind.u64.wrap (t102 - (IntKind.u64.wrap (a1))), t103))) else (if a1 < 0 then (some (IntKind.u64.wrap (t102 - (IntKind.u64.wrap (a0))), t103)) else (some (t102, t103)))) = some (r1, r2) := H
  have A3 := Aside0.mk A30
  clear A30
  by_cases c4 : a0 < 0
  · rw [if_pos c4] at H
    have c4b0 : decide (a0 < 0) = true := decide_eq_true c4
    clear c4
    by_cases c5 : a1 < 0
    · rw [if_pos c5] at H
      have c5b0 : decide (a1 < 0) = true := decide_eq_true c5
      clear c5
      simp only [Option.some.injEq, Prod.mk.injEq] at H
      obtain ⟨rfl, rfl⟩ := H
      go_enter Try.func56, Try.ntmps56
      go_wp2_with (first | ((with_reducible refine gate_callee (f := 58) rfl ?_); refine goesL_ (some 13) rfl rfl Try.func58 (by kernel_rfl) rfl #[.int .u64 (IntKind.u64.wrap (a0)), .int .u64 (IntKind.u64.wrap (a1))] rfl (by (try simp only [List.map_toArray, List.map_cons, List.map_nil]); first | done | rfl | (simp only [List.length_drop, List.length_take]; rfl)) ?_; (with_reducible refine (bits_Mul64.calls (IntKind.u64.wrap (a0)) (IntKind.u64.wrap (a1)) t102 t103 _ A3.out).mono ?_); rintro e w' ⟨rfl, ⟨nd, rfl⟩⟩; refine ⟨_, rfl, ?_⟩))
      go_ret2
      exact ⟨by first | rfl | (simp; done) | (simp [*]; done), by repeat (first | exact Drawn0.refl _ | apply Drawn0.step)⟩
    · rw [if_neg c5] at H
      have c5b0 : decide (a1 < 0) = false := decide_eq_false c5
      clear c5
      simp only [Option.some.injEq, Prod.mk.injEq] at H
      obtain ⟨rfl, rfl⟩ := H
      go_enter Try.func56, Try.ntmps56
      go_wp2_with (first | ((with_reducible refine gate_callee (f := 58) rfl ?_); refine goesL_ (some 13) rfl rfl Try.func58 (by kernel_rfl) rfl #[.int .u64 (IntKind.u64.wrap (a0)), .int .u64 (IntKind.u64.wrap (a1))] rfl (by (try simp only [List.map_toArray, List.map_cons, List.map_nil]); first | done | rfl | (simp only [List.length_drop, List.length_take]; rfl)) ?_; (with_reducible refine (bits_Mul64.calls (IntKind.u64.wrap (a0)) (IntKind.u64.wrap (a1)) t102 t103 _ A3.out).mono ?_); rintro e w' ⟨rfl, ⟨nd, rfl⟩⟩; refine ⟨_, rfl, ?_⟩))
      go_ret2
      exact ⟨by first | rfl | (simp; done) | (simp [*]; done), by repeat (first | exact Drawn0.refl _ | apply Drawn0.step)⟩
  · rw [if_neg c4] at H
    have c4b0 : decide (a0 < 0) = false := decide_eq_false c4
    clear c4
    by_cases c6 : a1 < 0
    · rw [if_pos c6] at H
      have c6b0 : decide (a1 < 0) = true := decide_eq_true c6
      clear c6
      simp only [Option.some.injEq, Prod.mk.injEq] at H
      obtain ⟨rfl, rfl⟩ := H
      go_enter Try.func56, Try.ntmps56
      go_wp2_with (first | ((with_reducible refine gate_callee (f := 58) rfl ?_); refine goesL_ (some 13) rfl rfl Try.func58 (by kernel_rfl) rfl #[.int .u64 (IntKind.u64.wrap (a0)), .int .u64 (IntKind.u64.wrap (a1))] rfl (by (try simp only [List.map_toArray, List.map_cons, List.map_nil]); first | done | rfl | (simp only [List.length_drop, List.length_take]; rfl)) ?_; (with_reducible refine (bits_Mul64.calls (IntKind.u64.wrap (a0)) (IntKind.u64.wrap (a1)) t102 t103 _ A3.out).mono ?_); rintro e w' ⟨rfl, ⟨nd, rfl⟩⟩; refine ⟨_, rfl, ?_⟩))
      go_ret2
      exact ⟨by first | rfl | (simp; done) | (simp [*]; done), by repeat (first | exact Drawn0.refl _ | apply Drawn0.step)⟩
    · rw [if_neg c6] at H
      have c6b0 : decide (a1 < 0) = false := decide_eq_false c6
      clear c6
      simp only [Option.some.injEq, Prod.mk.injEq] at H
      obtain ⟨rfl, rfl⟩ := H
      go_enter Try.func56, Try.ntmps56
      go_wp2_with (first | ((with_reducible refine gate_callee (f := 58) rfl ?_); refine goesL_ (some 13) rfl rfl Try.func58 (by kernel_rfl) rfl #[.int .u64 (IntKind.u64.wrap (a0)), .int .u64 (IntKind.u64.wrap (a1))] rfl (by (try simp only [List.map_toArray, List.map_cons, List.map_nil]); first | done | rfl | (simp only [List.length_drop, List.length_take]; rfl)) ?_; (with_reducible refine (bits_Mul64.calls (IntKind.u64.wrap (a0)) (IntKind.u64.wrap (a1)) t102 t103 _ A3.out).mono ?_); rintro e w' ⟨rfl, ⟨nd, rfl⟩⟩; refine ⟨_, rfl, ?_⟩))
      go_ret2
      exact ⟨by first | rfl | (simp; done) | (simp [*]; done), by repeat (first | exact Drawn0.refl _ | apply Drawn0.step)⟩

/-! ### q_Mul: function 45 -/
def q_Mul.f (k : Nat) (a0 : Int) (a1 : Int) : Option (Int) := (q_Hold.f a0).bind fun t104 => ((q_Hold.f a1).bind fun t105 => ((q_product.f t104 t105).bind fun bt106 => ((q_down.f k bt106.1 bt106.2).bind fun t108 => ((q_Hold.f t108).bind fun t109 => (some t109)))))
theorem q_Mul.mono : ∀ a0 a1 k, LeO (q_Mul.f k a0 a1) (q_Mul.f (k + 1) a0 a1) := by
  intro a0 a1 k
  unfold q_Mul.f
  repeat' first
      | (with_reducible exact q_down.mono _ _ _)
      | (with_reducible exact LeO.refl _)
      | (with_reducible exact LeO.none _)
      | (with_reducible refine LeO.ite ?_ ?_)
      | (with_reducible refine LeO.bind ?_ (fun _ => ?_))
      | exact q_down.mono _ _ _
      | exact LeO.none _
      | refine LeO.ite ?_ ?_
      | refine LeO.bind ?_ (fun _ => ?_)
set_option maxHeartbeats 8000000 in
set_option maxRecDepth 100000 in
theorem q_Mul.calls (k : Nat) (a0 : Int) (a1 : Int) (r : Int) (w : World) (h : q_Mul.f k a0 a1 = some r) :
    Calls Try.prog 45 #[.int .i64 a0, .int .i64 a1] w fun e w' => e = .returned (.int .i64 r) ∧ Drawn0 w w' := by
  have H : ((q_Hold.f a0).bind fun t104 => ((q_Hold.f a1).bind fun t105 => ((q_product.f t104 t105).bind fun bt106 => ((q_down.f k bt106.1 bt106.2).bind fun t108 => ((q_Hold.f t108).bind fun t109 => (some t109)))))) = some r := h
  clear h
  replace H := Option.bind_eq_some_iff.mp H
  obtain ⟨t104, A30, H⟩ := H
  replace H : ((q_Hold.f a1).bind fun t105 => ((q_product.f t104 t105).bind fun bt106 => ((q_down.f k bt106.1 bt106.2).bind fun t108 => ((q_Hold.f t108).bind fun t109 => (some t109))))) = some r := H
  have A3 := Aside0.mk A30
  clear A30
  replace H := Option.bind_eq_some_iff.mp H
  obtain ⟨t105, A40, H⟩ := H
  replace H : ((q_product.f t104 t105).bind fun bt106 => ((q_down.f k bt106.1 bt106.2).bind fun t108 => ((q_Hold.f t108).bind fun t109 => (some t109)))) = some r := H
  have A4 := Aside0.mk A40
  clear A40
  replace H := Option.bind_eq_some_iff.mp H
  obtain ⟨⟨t106, t107⟩, A50, H⟩ := H
  replace H : ((q_down.f k t106 t107).bind fun t108 => ((q_Hold.f t108).bind fun t109 => (some t109))) = some r := H
  have A5 := Aside0.mk A50
  clear A50
  replace H := Option.bind_eq_some_iff.mp H
  obtain ⟨t108, A60, H⟩ := H
  replace H : ((q_Hold.f t108).bind fun t109 => (some t109)) = some r := H
  have A6 := Aside0.mk A60
  clear A60
  replace H := Option.bind_eq_some_iff.mp H
  obtain ⟨t109, A70, H⟩ := H
  replace H : (some t109) = some r := H
  have A7 := Aside0.mk A70
  clear A70
  obtain rfl := Option.some.inj H
  go_enter Try.func45, Try.ntmps45
  go_wp2_with (first | ((with_reducible refine gate_callee (f := 30) rfl ?_); refine goesL_ (some 6) rfl rfl Try.func30 (by kernel_rfl) rfl #[.int .i64 a0] rfl (by (try simp only [List.map_toArray, List.map_cons, List.map_nil]); first | done | rfl | (simp only [List.length_drop, List.length_take]; rfl)) ?_; (with_reducible refine (q_Hold.calls a0 t104 _ A3.out).mono ?_); rintro e w' ⟨rfl, ⟨nd, rfl⟩⟩; refine ⟨_, rfl, ?_⟩) | ((with_reducible refine gate_callee (f := 30) rfl ?_); refine goesL_ (some 8) rfl rfl Try.func30 (by kernel_rfl) rfl #[.int .i64 a1] rfl (by (try simp only [List.map_toArray, List.map_cons, List.map_nil]); first | done | rfl | (simp only [List.length_drop, List.length_take]; rfl)) ?_; (with_reducible refine (q_Hold.calls a1 t105 _ A4.out).mono ?_); rintro e w' ⟨rfl, ⟨nd, rfl⟩⟩; refine ⟨_, rfl, ?_⟩) | ((with_reducible refine gate_callee (f := 56) rfl ?_); refine goesL_ (some 9) rfl rfl Try.func56 (by kernel_rfl) rfl #[.int .i64 t104, .int .i64 t105] rfl (by (try simp only [List.map_toArray, List.map_cons, List.map_nil]); first | done | rfl | (simp only [List.length_drop, List.length_take]; rfl)) ?_; (with_reducible refine (q_product.calls t104 t105 t106 t107 _ A5.out).mono ?_); rintro e w' ⟨rfl, ⟨nd, rfl⟩⟩; refine ⟨_, rfl, ?_⟩) | ((with_reducible refine gate_callee (f := 55) rfl ?_); refine goesL_ (some 12) rfl rfl Try.func55 (by kernel_rfl) rfl #[.int .u64 t106, .int .u64 t107] rfl (by (try simp only [List.map_toArray, List.map_cons, List.map_nil]); first | done | rfl | (simp only [List.length_drop, List.length_take]; rfl)) ?_; (with_reducible refine (q_down.calls k t106 t107 t108 _ A6.out).mono ?_); rintro e w' ⟨rfl, ⟨nd, rfl⟩⟩; refine ⟨_, rfl, ?_⟩) | ((with_reducible refine gate_callee (f := 30) rfl ?_); refine goesL_ (some 13) rfl rfl Try.func30 (by kernel_rfl) rfl #[.int .i64 t108] rfl (by (try simp only [List.map_toArray, List.map_cons, List.map_nil]); first | done | rfl | (simp only [List.length_drop, List.length_take]; rfl)) ?_; (with_reducible refine (q_Hold.calls t108 t109 _ A7.out).mono ?_); rintro e w' ⟨rfl, ⟨nd, rfl⟩⟩; refine ⟨_, rfl, ?_⟩))
  go_ret
  exact ⟨by first | rfl | (simp; done) | (simp [*]; done), by repeat (first | exact Drawn0.refl _ | apply Drawn0.step)⟩

/-! ### q_Add: function 46 -/
def q_Add.f (a0 : Int) (a1 : Int) : Option (Int) := (q_Hold.f a0).bind fun t110 => ((q_Hold.f a1).bind fun t111 => ((q_Hold.f (wrap64 (t110 + t111))).bind fun t112 => (some t112)))
set_option maxHeartbeats 8000000 in
set_option maxRecDepth 100000 in
theorem q_Add.calls (a0 : Int) (a1 : Int) (r : Int) (w : World) (h : q_Add.f a0 a1 = some r) :
    Calls Try.prog 46 #[.int .i64 a0, .int .i64 a1] w fun e w' => e = .returned (.int .i64 r) ∧ Drawn0 w w' := by
  have H : ((q_Hold.f a0).bind fun t110 => ((q_Hold.f a1).bind fun t111 => ((q_Hold.f (wrap64 (t110 + t111))).bind fun t112 => (some t112)))) = some r := h
  clear h
  replace H := Option.bind_eq_some_iff.mp H
  obtain ⟨t110, A30, H⟩ := H
  replace H : ((q_Hold.f a1).bind fun t111 => ((q_Hold.f (wrap64 (t110 + t111))).bind fun t112 => (some t112))) = some r := H
  have A3 := Aside0.mk A30
  clear A30
  replace H := Option.bind_eq_some_iff.mp H
  obtain ⟨t111, A40, H⟩ := H
  replace H : ((q_Hold.f (wrap64 (t110 + t111))).bind fun t112 => (some t112)) = some r := H
  have A4 := Aside0.mk A40
  clear A40
  replace H := Option.bind_eq_some_iff.mp H
  obtain ⟨t112, A50, H⟩ := H
  replace H : (some t112) = some r := H
  have A5 := Aside0.mk A50
  clear A50
  obtain rfl := Option.some.inj H
  go_enter Try.func46, Try.ntmps46
  go_wp2_with (first | ((with_reducible refine gate_callee (f := 30) rfl ?_); refine goesL_ (some 6) rfl rfl Try.func30 (by kernel_rfl) rfl #[.int .i64 a0] rfl (by (try simp only [List.map_toArray, List.map_cons, List.map_nil]); first | done | rfl | (simp only [List.length_drop, List.length_take]; rfl)) ?_; (with_reducible refine (q_Hold.calls a0 t110 _ A3.out).mono ?_); rintro e w' ⟨rfl, ⟨nd, rfl⟩⟩; refine ⟨_, rfl, ?_⟩) | ((with_reducible refine gate_callee (f := 30) rfl ?_); refine goesL_ (some 8) rfl rfl Try.func30 (by kernel_rfl) rfl #[.int .i64 a1] rfl (by (try simp only [List.map_toArray, List.map_cons, List.map_nil]); first | done | rfl | (simp only [List.length_drop, List.length_take]; rfl)) ?_; (with_reducible refine (q_Hold.calls a1 t111 _ A4.out).mono ?_); rintro e w' ⟨rfl, ⟨nd, rfl⟩⟩; refine ⟨_, rfl, ?_⟩) | ((with_reducible refine gate_callee (f := 30) rfl ?_); refine goesL_ (some 10) rfl rfl Try.func30 (by kernel_rfl) rfl #[.int .i64 (wrap64 (t110 + t111))] rfl (by (try simp only [List.map_toArray, List.map_cons, List.map_nil]); first | done | rfl | (simp only [List.length_drop, List.length_take]; rfl)) ?_; (with_reducible refine (q_Hold.calls (wrap64 (t110 + t111)) t112 _ A5.out).mono ?_); rintro e w' ⟨rfl, ⟨nd, rfl⟩⟩; refine ⟨_, rfl, ?_⟩))
  go_ret
  exact ⟨by first | rfl | (simp; done) | (simp [*]; done), by repeat (first | exact Drawn0.refl _ | apply Drawn0.step)⟩

/-! ### ease_Bend: function 29 -/
def ease_Bend.f (k : Nat) (a0 : Int) (a1 : Int) (a2 : Int) : Option (Int) := (q_Clamp.f a2 0 65536).bind fun t113 => ((q_Mul.f k (wrap64 (65536 - t113)) (wrap64 (65536 - t113))).bind fun t114 => ((q_Mul.f k t114 t113).bind fun t115 => ((q_Mul.f k (wrap64 (3 * t115)) a0).bind fun t116 => ((q_Mul.f k (wrap64 (65536 - t113)) t113).bind fun t117 => ((q_Mul.f k t117 t113).bind fun t118 => ((q_Mul.f k (wrap64 (3 * t118)) a1).bind fun t119 => ((q_Add.f t116 t119).bind fun t120 => ((q_Mul.f k t113 t113).bind fun t121 => ((q_Mul.f k t121 t113).bind fun t122 => ((q_Add.f t120 t122).bind fun t123 => (some t123)))))))))))
theorem ease_Bend.mono : ∀ a0 a1 a2 k, LeO (ease_Bend.f k a0 a1 a2) (ease_Bend.f (k + 1) a0 a1 a2) := by
  intro a0 a1 a2 k
  unfold ease_Bend.f
  repeat' first
      | (with_reducible exact q_Mul.mono _ _ _)
      | (with_reducible exact LeO.refl _)
      | (with_reducible exact LeO.none _)
      | (with_reducible refine LeO.ite ?_ ?_)
      | (with_reducible refine LeO.bind ?_ (fun _ => ?_))
      | exact q_Mul.mono _ _ _
      | exact LeO.none _
      | refine LeO.ite ?_ ?_
      | refine LeO.bind ?_ (fun _ => ?_)
set_option maxHeartbeats 8000000 in
set_option maxRecDepth 100000 in
theorem ease_Bend.calls (k : Nat) (a0 : Int) (a1 : Int) (a2 : Int) (r : Int) (w : World) (h : ease_Bend.f k a0 a1 a2 = some r) :
    Calls Try.prog 29 #[.int .i64 a0, .int .i64 a1, .int .i64 a2] w fun e w' => e = .returned (.int .i64 r) ∧ Drawn0 w w' := by
  have H : ((q_Clamp.f a2 0 65536).bind fun t113 => ((q_Mul.f k (wrap64 (65536 - t113)) (wrap64 (65536 - t113))).bind fun t114 => ((q_Mul.f k t114 t113).bind fun t115 => ((q_Mul.f k (wrap64 (3 * t115)) a0).bind fun t116 => ((q_Mul.f k (wrap64 (65536 - t113)) t113).bind fun t117 => ((q_Mul.f k t117 t113).bind fun t118 => ((q_Mul.f k (wrap64 (3 * t118)) a1).bind fun t119 => ((q_Add.f t116 t119).bind fun t120 => ((q_Mul.f k t113 t113).bind fun t121 => ((q_Mul.f k t121 t113).bind fun t122 => ((q_Add.f t120 t122).bind fun t123 => (some t123)))))))))))) = some r := h
  clear h
  replace H := Option.bind_eq_some_iff.mp H
  obtain ⟨t113, A40, H⟩ := H
  replace H : ((q_Mul.f k (wrap64 (65536 - t113)) (wrap64 (65536 - t113))).bind fun t114 => ((q_Mul.f k t114 t113).bind fun t115 => ((q_Mul.f k (wrap64 (3 * t115)) a0).bind fun t116 => ((q_Mul.f k (wrap64 (65536 - t113)) t113).bind fun t117 => ((q_Mul.f k t117 t113).bind fun t118 => ((q_Mul.f k (wrap64 (3 * t118)) a1).bind fun t119 => ((q_Add.f t116 t119).bind fun t120 => ((q_Mul.f k t113 t113).bind fun t121 => ((q_Mul.f k t121 t113).bind fun t122 => ((q_Add.f t120 t122).bind fun t123 => (some t123))))))))))) = some r := H
  have A4 := Aside0.mk A40
  clear A40
  replace H := Option.bind_eq_some_iff.mp H
  obtain ⟨t114, A50, H⟩ := H
  replace H : ((q_Mul.f k t114 t113).bind fun t115 => ((q_Mul.f k (wrap64 (3 * t115)) a0).bind fun t116 => ((q_Mul.f k (wrap64 (65536 - t113)) t113).bind fun t117 => ((q_Mul.f k t117 t113).bind fun t118 => ((q_Mul.f k (wrap64 (3 * t118)) a1).bind fun t119 => ((q_Add.f t116 t119).bind fun t120 => ((q_Mul.f k t113 t113).bind fun t121 => ((q_Mul.f k t121 t113).bind fun t122 => ((q_Add.f t120 t122).bind fun t123 => (some t123)))))))))) = some r := H
  have A5 := Aside0.mk A50
  clear A50
  replace H := Option.bind_eq_some_iff.mp H
  obtain ⟨t115, A60, H⟩ := H
  replace H : ((q_Mul.f k (wrap64 (3 * t115)) a0).bind fun t116 => ((q_Mul.f k (wrap64 (65536 - t113)) t113).bind fun t117 => ((q_Mul.f k t117 t113).bind fun t118 => ((q_Mul.f k (wrap64 (3 * t118)) a1).bind fun t119 => ((q_Add.f t116 t119).bind fun t120 => ((q_Mul.f k t113 t113).bind fun t121 => ((q_Mul.f k t121 t113).bind fun t122 => ((q_Add.f t120 t122).bind fun t123 => (some t123))))))))) = some r := H
  have A6 := Aside0.mk A60
  clear A60
  replace H := Option.bind_eq_some_iff.mp H
  obtain ⟨t116, A70, H⟩ := H
  replace H : ((q_Mul.f k (wrap64 (65536 - t113)) t113).bind fun t117 => ((q_Mul.f k t117 t113).bind fun t118 => ((q_Mul.f k (wrap64 (3 * t118)) a1).bind fun t119 => ((q_Add.f t116 t119).bind fun t120 => ((q_Mul.f k t113 t113).bind fun t121 => ((q_Mul.f k t121 t113).bind fun t122 => ((q_Add.f t120 t122).bind fun t123 => (some t123)))))))) = some r := H
  have A7 := Aside0.mk A70
  clear A70
  replace H := Option.bind_eq_some_iff.mp H
  obtain ⟨t117, A80, H⟩ := H
  replace H : ((q_Mul.f k t117 t113).bind fun t118 => ((q_Mul.f k (wrap64 (3 * t118)) a1).bind fun t119 => ((q_Add.f t116 t119).bind fun t120 => ((q_Mul.f k t113 t113).bind fun t121 => ((q_Mul.f k t121 t113).bind fun t122 => ((q_Add.f t120 t122).bind fun t123 => (some t123))))))) = some r := H
  have A8 := Aside0.mk A80
  clear A80
  replace H := Option.bind_eq_some_iff.mp H
  obtain ⟨t118, A90, H⟩ := H
  replace H : ((q_Mul.f k (wrap64 (3 * t118)) a1).bind fun t119 => ((q_Add.f t116 t119).bind fun t120 => ((q_Mul.f k t113 t113).bind fun t121 => ((q_Mul.f k t121 t113).bind fun t122 => ((q_Add.f t120 t122).bind fun t123 => (some t123)))))) = some r := H
  have A9 := Aside0.mk A90
  clear A90
  replace H := Option.bind_eq_some_iff.mp H
  obtain ⟨t119, A100, H⟩ := H
  replace H : ((q_Add.f t116 t119).bind fun t120 => ((q_Mul.f k t113 t113).bind fun t121 => ((q_Mul.f k t121 t113).bind fun t122 => ((q_Add.f t120 t122).bind fun t123 => (some t123))))) = some r := H
  have A10 := Aside0.mk A100
  clear A100
  replace H := Option.bind_eq_some_iff.mp H
  obtain ⟨t120, A110, H⟩ := H
  replace H : ((q_Mul.f k t113 t113).bind fun t121 => ((q_Mul.f k t121 t113).bind fun t122 => ((q_Add.f t120 t122).bind fun t123 => (some t123)))) = some r := H
  have A11 := Aside0.mk A110
  clear A110
  replace H := Option.bind_eq_some_iff.mp H
  obtain ⟨t121, A120, H⟩ := H
  replace H : ((q_Mul.f k t121 t113).bind fun t122 => ((q_Add.f t120 t122).bind fun t123 => (some t123))) = some r := H
  have A12 := Aside0.mk A120
  clear A120
  replace H := Option.bind_eq_some_iff.mp H
  obtain ⟨t122, A130, H⟩ := H
  replace H : ((q_Add.f t120 t122).bind fun t123 => (some t123)) = some r := H
  have A13 := Aside0.mk A130
  clear A130
  replace H := Option.bind_eq_some_iff.mp H
  obtain ⟨t123, A140, H⟩ := H
  replace H : (some t123) = some r := H
  have A14 := Aside0.mk A140
  clear A140
  obtain rfl := Option.some.inj H
  go_enter Try.func29, Try.ntmps29
  go_wp2_with (first | ((with_reducible refine gate_callee (f := 44) rfl ?_); refine goesL_ (some 11) rfl rfl Try.func44 (by kernel_rfl) rfl #[.int .i64 a2, .int .i64 0, .int .i64 65536] rfl (by (try simp only [List.map_toArray, List.map_cons, List.map_nil]); first | done | rfl | (simp only [List.length_drop, List.length_take]; rfl)) ?_; (with_reducible refine (q_Clamp.calls a2 0 65536 t113 _ A4.out).mono ?_); rintro e w' ⟨rfl, ⟨nd, rfl⟩⟩; refine ⟨_, rfl, ?_⟩) | ((with_reducible refine gate_callee (f := 45) rfl ?_); refine goesL_ (some 16) rfl rfl Try.func45 (by kernel_rfl) rfl #[.int .i64 (wrap64 (65536 - t113)), .int .i64 (wrap64 (65536 - t113))] rfl (by (try simp only [List.map_toArray, List.map_cons, List.map_nil]); first | done | rfl | (simp only [List.length_drop, List.length_take]; rfl)) ?_; (with_reducible refine (q_Mul.calls k (wrap64 (65536 - t113)) (wrap64 (65536 - t113)) t114 _ A5.out).mono ?_); rintro e w' ⟨rfl, ⟨nd, rfl⟩⟩; refine ⟨_, rfl, ?_⟩) | ((with_reducible refine gate_callee (f := 45) rfl ?_); refine goesL_ (some 18) rfl rfl Try.func45 (by kernel_rfl) rfl #[.int .i64 t114, .int .i64 t113] rfl (by (try simp only [List.map_toArray, List.map_cons, List.map_nil]); first | done | rfl | (simp only [List.length_drop, List.length_take]; rfl)) ?_; (with_reducible refine (q_Mul.calls k t114 t113 t115 _ A6.out).mono ?_); rintro e w' ⟨rfl, ⟨nd, rfl⟩⟩; refine ⟨_, rfl, ?_⟩) | ((with_reducible refine gate_callee (f := 45) rfl ?_); refine goesL_ (some 21) rfl rfl Try.func45 (by kernel_rfl) rfl #[.int .i64 (wrap64 (3 * t115)), .int .i64 a0] rfl (by (try simp only [List.map_toArray, List.map_cons, List.map_nil]); first | done | rfl | (simp only [List.length_drop, List.length_take]; rfl)) ?_; (with_reducible refine (q_Mul.calls k (wrap64 (3 * t115)) a0 t116 _ A7.out).mono ?_); rintro e w' ⟨rfl, ⟨nd, rfl⟩⟩; refine ⟨_, rfl, ?_⟩) | ((with_reducible refine gate_callee (f := 45) rfl ?_); refine goesL_ (some 24) rfl rfl Try.func45 (by kernel_rfl) rfl #[.int .i64 (wrap64 (65536 - t113)), .int .i64 t113] rfl (by (try simp only [List.map_toArray, List.map_cons, List.map_nil]); first | done | rfl | (simp only [List.length_drop, List.length_take]; rfl)) ?_; (with_reducible refine (q_Mul.calls k (wrap64 (65536 - t113)) t113 t117 _ A8.out).mono ?_); rintro e w' ⟨rfl, ⟨nd, rfl⟩⟩; refine ⟨_, rfl, ?_⟩) | ((with_reducible refine gate_callee (f := 45) rfl ?_); refine goesL_ (some 26) rfl rfl Try.func45 (by kernel_rfl) rfl #[.int .i64 t117, .int .i64 t113] rfl (by (try simp only [List.map_toArray, List.map_cons, List.map_nil]); first | done | rfl | (simp only [List.length_drop, List.length_take]; rfl)) ?_; (with_reducible refine (q_Mul.calls k t117 t113 t118 _ A9.out).mono ?_); rintro e w' ⟨rfl, ⟨nd, rfl⟩⟩; refine ⟨_, rfl, ?_⟩) | ((with_reducible refine gate_callee (f := 45) rfl ?_); refine goesL_ (some 29) rfl rfl Try.func45 (by kernel_rfl) rfl #[.int .i64 (wrap64 (3 * t118)), .int .i64 a1] rfl (by (try simp only [List.map_toArray, List.map_cons, List.map_nil]); first | done | rfl | (simp only [List.length_drop, List.length_take]; rfl)) ?_; (with_reducible refine (q_Mul.calls k (wrap64 (3 * t118)) a1 t119 _ A10.out).mono ?_); rintro e w' ⟨rfl, ⟨nd, rfl⟩⟩; refine ⟨_, rfl, ?_⟩) | ((with_reducible refine gate_callee (f := 46) rfl ?_); refine goesL_ (some 32) rfl rfl Try.func46 (by kernel_rfl) rfl #[.int .i64 t116, .int .i64 t119] rfl (by (try simp only [List.map_toArray, List.map_cons, List.map_nil]); first | done | rfl | (simp only [List.length_drop, List.length_take]; rfl)) ?_; (with_reducible refine (q_Add.calls t116 t119 t120 _ A11.out).mono ?_); rintro e w' ⟨rfl, ⟨nd, rfl⟩⟩; refine ⟨_, rfl, ?_⟩) | ((with_reducible refine gate_callee (f := 45) rfl ?_); refine goesL_ (some 35) rfl rfl Try.func45 (by kernel_rfl) rfl #[.int .i64 t113, .int .i64 t113] rfl (by (try simp only [List.map_toArray, List.map_cons, List.map_nil]); first | done | rfl | (simp only [List.length_drop, List.length_take]; rfl)) ?_; (with_reducible refine (q_Mul.calls k t113 t113 t121 _ A12.out).mono ?_); rintro e w' ⟨rfl, ⟨nd, rfl⟩⟩; refine ⟨_, rfl, ?_⟩) | ((with_reducible refine gate_callee (f := 45) rfl ?_); refine goesL_ (some 37) rfl rfl Try.func45 (by kernel_rfl) rfl #[.int .i64 t121, .int .i64 t113] rfl (by (try simp only [List.map_toArray, List.map_cons, List.map_nil]); first | done | rfl | (simp only [List.length_drop, List.length_take]; rfl)) ?_; (with_reducible refine (q_Mul.calls k t121 t113 t122 _ A13.out).mono ?_); rintro e w' ⟨rfl, ⟨nd, rfl⟩⟩; refine ⟨_, rfl, ?_⟩) | ((with_reducible refine gate_callee (f := 46) rfl ?_); refine goesL_ (some 38) rfl rfl Try.func46 (by kernel_rfl) rfl #[.int .i64 t120, .int .i64 t122] rfl (by (try simp only [List.map_toArray, List.map_cons, List.map_nil]); first | done | rfl | (simp only [List.length_drop, List.length_take]; rfl)) ?_; (with_reducible refine (q_Add.calls t120 t122 t123 _ A14.out).mono ?_); rintro e w' ⟨rfl, ⟨nd, rfl⟩⟩; refine ⟨_, rfl, ?_⟩))
  go_ret
  exact ⟨by first | rfl | (simp; done) | (simp [*]; done), by repeat (first | exact Drawn0.refl _ | apply Drawn0.step)⟩

end Go.Proofs.Ytejnbjclcdmopaa.PA
