/- Written by a program of this session (wip/hprint.py, over the kit's print program): Go functions as Lean functions, and for each a proof that its call answers what that function says. No condition beyond those stated. -/
import Derived.Test.YtejnbjclcdmopaaPAx0
namespace Go.Proofs.Ytejnbjclcdmopaa.PA
open Go.RowKit Go.Proofs.YtejnbjclcdmopaaW.PrintWords Go.Proofs.YtejnbjclcdmopaaW.PrintLast Go.Proofs.YtejnbjclcdmopaaW.PrintMore
attribute [local go_sem] max2_int min2_int max_two min_two max_three min_three max_four min_four   -- for this text's walks alone
attribute [local go_sem] Go.Proofs.Ytejnbjclcdmopaa.MS.isSome_setCell
set_option linter.unusedVariables false
set_option linter.unusedSimpArgs false

/-! ### q_Clamp: function 44 -/
def q_Clamp.f (a0 : Int) (a1 : Int) (a2 : Int) : Option (Int) := if a0 < a1 then (some a1) else (if a0 > a2 then (some a2) else (some a0))
set_option maxHeartbeats 8000000 in
set_option maxRecDepth 100000 in
theorem q_Clamp.calls (a0 : Int) (a1 : Int) (a2 : Int) (r : Int) (w : World) (h : q_Clamp.f a0 a1 a2 = some r) :
    Calls Try.prog 44 #[.int .i64 a0, .int .i64 a1, .int .i64 a2] w fun e w' => e = .returned (.int .i64 r) ∧ Drawn0 w w' := by
  have H : (if a0 < a1 then (some a1) else (if a0 > a2 then (some a2) else (some a0))) = some r := h
  clear h
  by_cases c4 : a0 < a1
  · rw [if_pos c4] at H
    have c4b0 : decide (a0 < a1) = true := decide_eq_true c4
    clear c4
    obtain rfl := Option.some.inj H
    go_enter Try.func44, Try.ntmps44
    go_wp2
    go_ret
    exact ⟨by first | rfl | (simp; done) | (simp [*]; done), by repeat (first | exact Drawn0.refl _ | apply Drawn0.step)⟩
  · rw [if_neg c4] at H
    have c4b0 : decide (a0 < a1) = false := decide_eq_false c4
    clear c4
    by_cases c5 : a0 > a2
    · rw [if_pos c5] at H
      have c5b0 : decide (a2 < a0) = true := decide_eq_true c5
      clear c5
      obtain rfl := Option.some.inj H
      go_enter Try.func44, Try.ntmps44
      go_wp2
      go_ret
      exact ⟨by first | rfl | (simp; done) | (simp [*]; done), by repeat (first | exact Drawn0.refl _ | apply Drawn0.step)⟩
    · rw [if_neg c5] at H
      have c5b0 : decide (a2 < a0) = false := decide_eq_false c5
      clear c5
      obtain rfl := Option.some.inj H
      go_enter Try.func44, Try.ntmps44
      go_wp2
      go_ret
      exact ⟨by first | rfl | (simp; done) | (simp [*]; done), by repeat (first | exact Drawn0.refl _ | apply Drawn0.step)⟩

/-! ### q_Hold: function 30 -/
def q_Hold.f (a0 : Int) : Option (Int) := (q_Clamp.f a0 (-1099511627776) 1099511627776).bind fun t101 => (some t101)
set_option maxHeartbeats 8000000 in
set_option maxRecDepth 100000 in
theorem q_Hold.calls (a0 : Int) (r : Int) (w : World) (h : q_Hold.f a0 = some r) :
    Calls Try.prog 30 #[.int .i64 a0] w fun e w' => e = .returned (.int .i64 r) ∧ Drawn0 w w' := by
  have H : ((q_Clamp.f a0 (-1099511627776) 1099511627776).bind fun t101 => (some t101)) = some r := h
  clear h
  replace H := Option.bind_eq_some_iff.mp H
  obtain ⟨t101, A20, H⟩ := H
  replace H : (some t101) = some r := H
  have A2 := Aside0.mk A20
  clear A20
  obtain rfl := Option.some.inj H
  go_enter Try.func30, Try.ntmps30
  go_wp2_with (first | ((with_reducible refine gate_callee (f := 44) rfl ?_); refine goesL_ (some 4) rfl rfl Try.func44 (by kernel_rfl) rfl #[.int .i64 a0, .int .i64 (-1099511627776), .int .i64 1099511627776] rfl (by (try simp only [List.map_toArray, List.map_cons, List.map_nil]); first | done | rfl | (simp only [List.length_drop, List.length_take]; rfl)) ?_; (with_reducible refine (q_Clamp.calls a0 (-1099511627776) 1099511627776 t101 _ A2.out).mono ?_); rintro e w' ⟨rfl, ⟨nd, rfl⟩⟩; refine ⟨_, rfl, ?_⟩))
  go_ret
  exact ⟨by first | rfl | (simp; done) | (simp [*]; done), by repeat (first | exact Drawn0.refl _ | apply Drawn0.step)⟩

/-! ### q_down: function 55 -/
def q_down.j0 : Nat → Int → Int → Bool → Option (Int)
  | 0, _, _, _ => none
  | k + 1, x5, x6, x15 => if x15 = true then (some (-9223372036854775808)) else (if x5 > 0 then (some 9223372036854775807) else (if x5 = 0 then (if (x6 / 9223372036854775808) = 0 then (some (wrap64 (x6))) else (some 9223372036854775807)) else (some (wrap64 (x6)))))
def q_down.f (k : Nat) (a0 : Int) (a1 : Int) : Option (Int) := if ((wrap64 (a0)) / 65536) < (-1) then (q_down.j0 k ((wrap64 (a0)) / 65536) (Go.bits .or .u64 (IntKind.u64.wrap (a0 * 281474976710656)) (a1 / 65536)) true) else (if ((wrap64 (a0)) / 65536) = (-1) then (q_down.j0 k ((wrap64 (a0)) / 65536) (Go.bits .or .u64 (IntKind.u64.wrap (a0 * 281474976710656)) (a1 / 65536)) (((Go.bits .or .u64 (IntKind.u64.wrap (a0 * 281474976710656)) (a1 / 65536)) / 9223372036854775808) == 0)) else (q_down.j0 k ((wrap64 (a0)) / 65536) (Go.bits .or .u64 (IntKind.u64.wrap (a0 * 281474976710656)) (a1 / 65536)) false))
theorem q_down.mono_l : ∀ k, (∀ y0 y1 y2, LeO (q_down.j0 k y0 y1 y2) (q_down.j0 (k + 1) y0 y1 y2))
  | 0 => fun _ _ _ r h => by simp [q_down.j0] at h
  | k + 1 => by
    have ih0 := q_down.mono_l k
    · intro y0 y1 y2
      unfold q_down.j0
      repeat' first
      | (with_reducible exact ih0 _ _ _)
      | (with_reducible exact LeO.refl _)
      | (with_reducible exact LeO.none _)
      | (with_reducible refine LeO.ite ?_ ?_)
      | (with_reducible refine LeO.bind ?_ (fun _ => ?_))
      | exact ih0 _ _ _
      | exact LeO.none _
      | refine LeO.ite ?_ ?_
      | refine LeO.bind ?_ (fun _ => ?_)
theorem q_down.mono : ∀ a0 a1 k, LeO (q_down.f k a0 a1) (q_down.f (k + 1) a0 a1) := by
  intro a0 a1 k
  have ih0 := q_down.mono_l k
  unfold q_down.f
  repeat' first
      | (with_reducible exact ih0 _ _ _)
      | (with_reducible exact LeO.refl _)
      | (with_reducible exact LeO.none _)
      | (with_reducible refine LeO.ite ?_ ?_)
      | (with_reducible refine LeO.bind ?_ (fun _ => ?_))
      | exact ih0 _ _ _
      | exact LeO.none _
      | refine LeO.ite ?_ ?_
      | refine LeO.bind ?_ (fun _ => ?_)
set_option maxHeartbeats 8000000 in
set_option maxRecDepth 100000 in
theorem q_down.calls (k : Nat) (a0 : Int) (a1 : Int) (r : Int) (w : World) (h : q_down.f k a0 a1 = some r) :
    Calls Try.prog 55 #[.int .u64 a0, .int .u64 a1] w fun e w' => e = .returned (.int .i64 r) ∧ Drawn0 w w' := by
  have H : (if ((wrap64 (a0)) / 65536) < (-1) then (q_down.j0 k ((wrap64 (a0)) / 65536) (Go.bits .or .u64 (IntKind.u64.wrap (a0 * 281474976710656)) (a1 / 65536)) true) else (if ((wrap64 (a0)) / 65536) = (-1) then (q_down.j0 k ((wrap64 (a0)) / 65536) (Go.bits .or .u64 (IntKind.u64.wrap (a0 * 281474976710656)) (a1 / 65536)) (((Go.bits .or .u64 (IntKind.u64.wrap (a0 * 281474976710656)) (a1 / 65536)) / 9223372036854775808) == 0)) else (q_down.j0 k ((wrap64 (a0)) / 65536) (Go.bits .or .u64 (IntKind.u64.wrap (a0 * 281474976710656)) (a1 / 65536)) false))) = some r := h
  clear h
  have HC3 := Aside0.mk H
  clear H
  go_enter Try.func55, Try.ntmps55
  go_upto_region 3 with (fail)
  go_cut [15] (fun v15 wc => ∃ (kq : Nat) (x15_2 : Bool), v15 = .bool x15_2 ∧ Aside0 (q_down.j0 kq ((wrap64 (a0)) / 65536) (Go.bits .or .u64 (IntKind.u64.wrap (a0 * 281474976710656)) (a1 / 65536)) x15_2 = some r) ∧ Aside0 (kq ≤ k) ∧ Drawn0 w wc)
  case first =>
    have H := HC3.out
    clear HC3
    by_cases c4 : ((wrap64 (a0)) / 65536) < (-1)
    · rw [if_pos c4] at H
      have c4b0 : decide (((wrap64 (a0)) / 65536) < (-1)) = true := decide_eq_true c4
      clear c4
      (first | rw [c4b0] | (simp only [i64_w, i32_w]; rw [c4b0]) | skip)
      have H' := Aside0.mk H
      clear H
      go_wp2
      go_meet
      case rel => exact ⟨_, (true), (by first | rfl | (simp; done) | (simp [*]; done)), H', ⟨by first | omega | exact Nat.le_refl _⟩, by repeat (first | exact Drawn0.refl _ | apply Drawn0.step)⟩
    · rw [if_neg c4] at H
      have c4b0 : decide (((wrap64 (a0)) / 65536) < (-1)) = false := decide_eq_false c4
      clear c4
      (first | rw [c4b0] | (simp only [i64_w, i32_w]; rw [c4b0]) | skip)
      by_cases c5 : ((wrap64 (a0)) / 65536) = (-1)
      · rw [if_pos c5] at H
        have c5b0 : (((wrap64 (a0)) / 65536) == (-1)) = true := beq_iff_eq.mpr c5
        have c5b1 : (((wrap64 (a0)) / 65536) != (-1)) = false := bne_eq_false_iff_eq.mpr c5
        clear c5
        have H' := Aside0.mk H
        clear H
        go_wp2
        go_meet
        case rel => exact ⟨_, ((((Go.bits .or .u64 (IntKind.u64.wrap (a0 * 281474976710656)) (a1 / 65536)) / 9223372036854775808) == 0)), (by first | rfl | (simp; done) | (simp [*]; done)), H', ⟨by first | omega | exact Nat.le_refl _⟩, by repeat (first | exact Drawn0.refl _ | apply Drawn0.step)⟩
      · rw [if_neg c5] at H
        have c5b0 : (((wrap64 (a0)) / 65536) == (-1)) = false := beq_eq_false_iff_ne.mpr c5
        have c5b1 : (((wrap64 (a0)) / 65536) != (-1)) = true := bne_iff_ne.mpr c5
        have H' := Aside0.mk H
        clear H
        go_wp2
        go_meet
        case rel => exact ⟨_, (false), (by first | rfl | (simp; done) | (simp [*]; done)), H', ⟨by first | omega | exact Nat.le_refl _⟩, by repeat (first | exact Drawn0.refl _ | apply Drawn0.step)⟩
  case rest =>
    clear HC3
    try clear p2
    try clear c4
    try clear c4b0
    try clear c5
    try clear c5b0
    try clear c5b1
    obtain ⟨kq, x15_2, rfl, HA, HJ2, ⟨mc2, rfl⟩⟩ := hcut
    cases kq with
    | zero => exact absurd HA.out (by simp [q_down.j0])
    | succ kj2 =>
      have H := HA.out
      clear HA
      simp only [q_down.j0] at H
      by_cases c6 : x15_2 = true
      · subst c6
        have H1 : (some (-9223372036854775808)) = some r := by rw [if_pos rfl] at H; exact H
        clear H
        have H := H1
        clear H1
        obtain rfl := Option.some.inj H
        go_wp2
        go_ret
        exact ⟨by first | rfl | (simp; done) | (simp [*]; done), by repeat (first | exact Drawn0.refl _ | apply Drawn0.step)⟩
      · replace c6 := Bool.eq_false_iff.mpr c6
        subst c6
        have H1 : (if ((wrap64 (a0)) / 65536) > 0 then (some 9223372036854775807) else (if ((wrap64 (a0)) / 65536) = 0 then (if ((Go.bits .or .u64 (IntKind.u64.wrap (a0 * 281474976710656)) (a1 / 65536)) / 9223372036854775808) = 0 then (some (wrap64 ((Go.bits .or .u64 (IntKind.u64.wrap (a0 * 281474976710656)) (a1 / 65536))))) else (some 9223372036854775807)) else (some (wrap64 ((Go.bits .or .u64 (IntKind.u64.wrap (a0 * 281474976710656)) (a1 / 65536))))))) = some r := by rw [if_neg (show ¬ (false = true) by decide)] at H; exact H
        clear H
        have H := H1
        clear H1
        by_cases c7 : ((wrap64 (a0)) / 65536) > 0
        · rw [if_pos c7] at H
          have c7b0 : decide (0 < ((wrap64 (a0)) / 65536)) = true := decide_eq_true c7
          clear c7
          obtain rfl := Option.some.inj H
          go_wp2
          go_ret
          exact ⟨by first | rfl | (simp; done) | (simp [*]; done), by repeat (first | exact Drawn0.refl _ | apply Drawn0.step)⟩
        · rw [if_neg c7] at H
          have c7b0 : decide (0 < ((wrap64 (a0)) / 65536)) = false := decide_eq_false c7
          clear c7
          by_cases c8 : ((wrap64 (a0)) / 65536) = 0
          · rw [if_pos c8] at H
            have c8b0 : (((wrap64 (a0)) / 65536) == 0) = true := beq_iff_eq.mpr c8
            have c8b1 : (((wrap64 (a0)) / 65536) != 0) = false := bne_eq_false_iff_eq.mpr c8
            clear c8
            by_cases c9 : ((Go.bits .or .u64 (IntKind.u64.wrap (a0 * 281474976710656)) (a1 / 65536)) / 9223372036854775808) = 0
            · rw [if_pos c9] at H
              have c9b0 : (((Go.bits .or .u64 (IntKind.u64.wrap (a0 * 281474976710656)) (a1 / 65536)) / 9223372036854775808) == 0) = true := beq_iff_eq.mpr c9
              have c9b1 : (((Go.bits .or .u64 (IntKind.u64.wrap (a0 * 281474976710656)) (a1 / 65536)) / 9223372036854775808) != 0) = false := bne_eq_false_iff_eq.mpr c9
              clear c9
              obtain rfl := Option.some.inj H
              go_wp2
              go_ret
              exact ⟨by first | rfl | (simp; done) | (simp [*]; done), by repeat (first | exact Drawn0.refl _ | apply Drawn0.step)⟩
            · rw [if_neg c9] at H
              have c9b0 : (((Go.bits .or .u64 (IntKind.u64.wrap (a0 * 281474976710656)) (a1 / 65536)) / 9223372036854775808) == 0) = false := beq_eq_false_iff_ne.mpr c9
              have c9b1 : (((Go.bits .or .u64 (IntKind.u64.wrap (a0 * 281474976710656)) (a1 / 65536)) / 9223372036854775808) != 0) = true := bne_iff_ne.mpr c9
              obtain rfl := Option.some.inj H
              go_wp2
              go_ret
              exact ⟨by first | rfl | (simp; done) | (simp [*]; done), by repeat (first | exact Drawn0.refl _ | apply Drawn0.step)⟩
          · rw [if_neg c8] at H
            have c8b0 : (((wrap64 (a0)) / 65536) == 0) = false := beq_eq_false_iff_ne.mpr c8
            have c8b1 : (((wrap64 (a0)) / 65536) != 0) = true := bne_iff_ne.mpr c8
            obtain rfl := Option.some.inj H
            go_wp2
            go_ret
            exact ⟨by first | rfl | (simp; done) | (simp [*]; done), by repeat (first | exact Drawn0.refl _ | apply Drawn0.step)⟩

/-! ### bits_Mul64: function 58 -/
def bits_Mul64.f (a0 : Int) (a1 : Int) : Option (Int × Int) := some (IntKind.u64.wrap ((IntKind.u64.wrap ((IntKind.u64.wrap ((a0 / 4294967296) * (a1 / 4294967296))) + ((IntKind.u64.wrap ((IntKind.u64.wrap ((a0 / 4294967296) * (Go.bits .and .u64 a1 4294967295))) + ((IntKind.u64.wrap ((Go.bits .and .u64 a0 4294967295) * (Go.bits .and .u64 a1 4294967295))) / 4294967296))) / 4294967296))) + ((IntKind.u64.wrap ((Go.bits .and .u64 (IntKind.u64.wrap ((IntKind.u64.wrap ((a0 / 4294967296) * (Go.bits .and .u64 a1 4294967295))) + ((IntKind.u64.wrap ((Go.bits .and .u64 a0 4294967295) * (Go.bits .and .u64 a1 4294967295))) / 4294967296))) 4294967295) + (IntKind.u64.wrap ((Go.bits .and .u64 a0 4294967295) * (a1 / 4294967296))))) / 4294967296)), IntKind.u64.wrap (a0 * a1))
set_option maxHeartbeats 8000000 in
set_option maxRecDepth 100000 in
theorem bits_Mul64.calls (a0 : Int) (a1 : Int) (r1 : Int) (r2 : Int) (w : World) (h : bits_Mul64.f a0 a1 = some (r1, r2)) :
    Calls Try.prog 58 #[.int .u64 a0, .int .u64 a1] w fun e w' => e = .returned (.tuple #[.int .u64 r1, .int .u64 r2]) ∧ Drawn0 w w' := by
  have H : (some (IntKind.u64.wrap ((IntKind.u64.wrap ((IntKind.u64.wrap ((a0 / 4294967296) * (a1 / 4294967296))) + ((IntKind.u64.wrap ((IntKind.u64.wrap ((a0 / 4294967296) * (Go.bits .and .u64 a1 4294967295))) + ((IntKind.u64.wrap ((Go.bits .and .u64 a0 4294967295) * (Go.bits .and .u64 a1 4294967295))) / 4294967296))) / 4294967296))) + ((IntKind.u64.wrap ((Go.bits .and .u64 (IntKind.u64.wrap ((IntKind.u64.wrap ((a0 / 4294967296) * (Go.bits .and .u64 a1 4294967295))) + ((IntKind.u64.wrap ((Go.bits .and .u64 a0 4294967295) * (Go.bits .and .u64 a1 4294967295))) / 4294967296))) 4294967295) + (IntKind.u64.wrap ((Go.bits .and .u64 a0 4294967295) * (a1 / 4294967296))))) / 4294967296)), IntKind.u64.wrap (a0 * a1))) = some (r1, r2) := h
  clear h
  simp only [Option.some.injEq, Prod.mk.injEq] at H
  obtain ⟨rfl, rfl⟩ := H
  go_enter Try.func58, Try.ntmps58
  go_wp2
  go_ret2
  exact ⟨by first | rfl | (simp; done) | (simp [*]; done), by repeat (first | exact Drawn0.refl _ | apply Drawn0.step)⟩

end Go.Proofs.Ytejnbjclcdmopaa.PA
