/- Written by a program of this session (wip/hprint.py, over the kit's print program): Go functions as Lean functions, and for each a proof that its call answers what that function says. No condition beyond those stated. -/
import Derived.Test.YtejnbjclcdmopaaPAx0
import Derived.Test.YtejnbjclcdmopaaPAx8
import Derived.Test.YtejnbjclcdmopaaPAx10
namespace Go.Proofs.Ytejnbjclcdmopaa.PA
open Go.RowKit Go.Proofs.YtejnbjclcdmopaaW.PrintWords Go.Proofs.YtejnbjclcdmopaaW.PrintLast Go.Proofs.YtejnbjclcdmopaaW.PrintMore
attribute [local go_sem] max2_int min2_int max_two min_two max_three min_three max_four min_four   -- for this text's walks alone
attribute [local go_sem] Go.Proofs.Ytejnbjclcdmopaa.MS.isSome_setCell
set_option linter.unusedVariables false
set_option linter.unusedSimpArgs false

/-! ### mutoscoperef1_down: function 59 -/
def mutoscoperef1_down.j0 : Nat → Bool → Int → Bool → Option (Int)
  | 0, _, _, _ => none
  | k + 1, x3, x9, x31 => if x31 = true then (if x3 = true then ((mutoscoperef1_Hold.f (wrap64 (-(wrap64 (mn (IntKind.u64.wrap (x9 + 1)) 4611686018427387904))))).bind fun t168 => (some t168)) else ((mutoscoperef1_Hold.f (wrap64 (mn (IntKind.u64.wrap (x9 + 1)) 4611686018427387904))).bind fun t169 => (some t169))) else (if x3 = true then ((mutoscoperef1_Hold.f (wrap64 (-(wrap64 (mn x9 4611686018427387904))))).bind fun t170 => (some t170)) else ((mutoscoperef1_Hold.f (wrap64 (mn x9 4611686018427387904))).bind fun t171 => (some t171)))
def mutoscoperef1_down.f (k : Nat) (a0 : Int) (a1 : Int) (a2 : Int) (a3 : Bool) : Option (Int) := if a0 ≥ a2 then (if a3 = true then (some (-1099511627776)) else (some 1099511627776)) else ((bits_Div64.f k a0 a1 a2).bind fun bt166 => (if a3 = true then (if bt166.2 > 0 then (mutoscoperef1_down.j0 k a3 bt166.1 (decide (bt166.1 < 4611686018427387904))) else (mutoscoperef1_down.j0 k a3 bt166.1 false)) else (mutoscoperef1_down.j0 k a3 bt166.1 false)))
theorem mutoscoperef1_down.mono_l : ∀ k, (∀ y0 y1 y2, LeO (mutoscoperef1_down.j0 k y0 y1 y2) (mutoscoperef1_down.j0 (k + 1) y0 y1 y2))
  | 0 => fun _ _ _ r h => by simp [mutoscoperef1_down.j0] at h
  | k + 1 => by
    have ih0 := mutoscoperef1_down.mono_l k
    · intro y0 y1 y2
      unfold mutoscoperef1_down.j0
      repeat' first
      | (with_reducible exact ih0 _ _ _)
      | (with_reducible exact bits_Div64.mono _ _ _ _)
      | (with_reducible exact LeO.refl _)
      | (with_reducible exact LeO.none _)
      | (with_reducible refine LeO.ite ?_ ?_)
      | (with_reducible refine LeO.bind ?_ (fun _ => ?_))
      | exact ih0 _ _ _
      | exact bits_Div64.mono _ _ _ _
      | exact LeO.none _
      | refine LeO.ite ?_ ?_
      | refine LeO.bind ?_ (fun _ => ?_)
theorem mutoscoperef1_down.mono : ∀ a0 a1 a2 a3 k, LeO (mutoscoperef1_down.f k a0 a1 a2 a3) (mutoscoperef1_down.f (k + 1) a0 a1 a2 a3) := by
  intro a0 a1 a2 a3 k
  have ih0 := mutoscoperef1_down.mono_l k
  unfold mutoscoperef1_down.f
  repeat' first
      | (with_reducible exact ih0 _ _ _)
      | (with_reducible exact bits_Div64.mono _ _ _ _)
      | (with_reducible exact LeO.refl _)
      | (with_reducible exact LeO.none _)
      | (with_reducible refine LeO.ite ?_ ?_)
      | (with_reducible refine LeO.bind ?_ (fun _ => ?_))
      | exact ih0 _ _ _
      | exact bits_Div64.mono _ _ _ _
      | exact LeO.none _
      | refine LeO.ite ?_ ?_
      | refine LeO.bind ?_ (fun _ => ?_)
set_option maxHeartbeats 8000000 in
set_option maxRecDepth 100000 in
theorem mutoscoperef1_down.calls (k : Nat) (a0 : Int) (a1 : Int) (a2 : Int) (a3 : Bool) (r : Int) (w : World) (h : mutoscoperef1_down.f k a0 a1 a2 a3 = some r) :
    Calls Try.prog 59 #[.int .u64 a0, .int .u64 a1, .int .u64 a2, .bool a3] w fun e w' => e = .returned (.int .i64 r) ∧ Below w.heap.size w w' := by
  have HB := Aside0.mk (Below.refl w.heap.size w)
  have H : (if a0 ≥ a2 then (if a3 = true then (some (-1099511627776)) else (some 1099511627776)) else ((bits_Div64.f k a0 a1 a2).bind fun bt166 => (if a3 = true then (if bt166.2 > 0 then (mutoscoperef1_down.j0 k a3 bt166.1 (decide (bt166.1 < 4611686018427387904))) else (mutoscoperef1_down.j0 k a3 bt166.1 false)) else (mutoscoperef1_down.j0 k a3 bt166.1 false)))) = some r := h
  clear h
  by_cases c5 : a0 ≥ a2
  · rw [if_pos c5] at H
    have c5b0 : decide (a2 ≤ a0) = true := decide_eq_true c5
    clear c5
    by_cases c6 : a3 = true
    · subst c6
      have H1 : (some (-1099511627776)) = some r := by rw [if_pos rfl] at H; exact H
      clear H
      have H := H1
      clear H1
      obtain rfl := Option.some.inj H
      go_enter Try.func59, Try.ntmps59
      go_wp2
      go_ret
      exact ⟨by first | rfl | (simp [errW_none, errW_some] <;> rfl) | (simp [*, errW_none, errW_some] <;> rfl), by repeat (first | (with_reducible first | exact HB.out | apply below_alloc | apply pw_below_drewN | apply below_drew1) | exact HB.out)⟩
    · replace c6 := Bool.eq_false_iff.mpr c6
      subst c6
      have H1 : (some 1099511627776) = some r := by rw [if_neg (show ¬ (false = true) by decide)] at H; exact H
      clear H
      have H := H1
      clear H1
      obtain rfl := Option.some.inj H
      go_enter Try.func59, Try.ntmps59
      go_wp2
      go_ret
      exact ⟨by first | rfl | (simp [errW_none, errW_some] <;> rfl) | (simp [*, errW_none, errW_some] <;> rfl), by repeat (first | (with_reducible first | exact HB.out | apply below_alloc | apply pw_below_drewN | apply below_drew1) | exact HB.out)⟩
  · rw [if_neg c5] at H
    have c5b0 : decide (a2 ≤ a0) = false := decide_eq_false c5
    clear c5
    replace H := Option.bind_eq_some_iff.mp H
    obtain ⟨⟨t166, t167⟩, A70, H⟩ := H
    replace H : (if a3 = true then (if t167 > 0 then (mutoscoperef1_down.j0 k a3 t166 (decide (t166 < 4611686018427387904))) else (mutoscoperef1_down.j0 k a3 t166 false)) else (mutoscoperef1_down.j0 k a3 t166 false)) = some r := H
    have A7 := Aside0.mk A70
    clear A70
    have HC8 := Aside0.mk H
    clear H
    go_enter Try.func59, Try.ntmps59
    go_upto_region 6 with (first | ((with_reducible refine gate_callee (f := 60) rfl ?_); refine goesL_ (some 20) rfl rfl Try.func60 (by kernel_rfl) rfl #[.int .u64 a0, .int .u64 a1, .int .u64 a2] rfl (by (try simp only [List.map_toArray, List.map_cons, List.map_nil]); first | done | rfl | (simp only [List.length_drop, List.length_take]; rfl)) ?_; (with_reducible refine (bits_Div64.calls k a0 a1 a2 t166 t167 _ A7.out).mono ?_); rintro e w' ⟨rfl, ⟨nd, rfl⟩⟩; refine ⟨_, rfl, ?_⟩))
    (try simp only [Act.put, List.setIfInBounds_toArray, List.set_cons_zero, List.set_cons_succ])
    go_cut [31] (fun v31 wc => ∃ (kq : Nat) (x31_7 : Bool), v31 = .bool x31_7 ∧ Aside0 (mutoscoperef1_down.j0 kq a3 t166 x31_7 = some r) ∧ Aside0 (kq ≤ k) ∧ Aside0 (Below w.heap.size w wc))
    case first =>
      have H := HC8.out
      clear HC8
      by_cases c9 : a3 = true
      · subst c9
        have H1 : (if t167 > 0 then (mutoscoperef1_down.j0 k true t166 (decide (t166 < 4611686018427387904))) else (mutoscoperef1_down.j0 k true t166 false)) = some r := by rw [if_pos rfl] at H; exact H
        clear H
        have H := H1
        clear H1
        by_cases c10 : t167 > 0
        · rw [if_pos c10] at H
          have c10b0 : decide (0 < t167) = true := decide_eq_true c10
          clear c10
          (first | rw [c10b0] | (simp only [i64_w, i32_w]; rw [c10b0]) | skip)
          have H' := Aside0.mk H
          clear H
          go_wp2
          go_meet
          case rel => exact ⟨_, (decide (t166 < 4611686018427387904)), (by first | rfl | (simp; done) | (simp [*]; done)), H', ⟨by first | omega | exact Nat.le_refl _⟩, ⟨by repeat (first | (with_reducible first | exact HB.out | apply below_alloc | apply pw_below_drewN | apply below_drew1) | exact HB.out)⟩⟩
        · rw [if_neg c10] at H
          have c10b0 : decide (0 < t167) = false := decide_eq_false c10
          clear c10
          (first | rw [c10b0] | (simp only [i64_w, i32_w]; rw [c10b0]) | skip)
          have H' := Aside0.mk H
          clear H
          go_wp2
          go_meet
          case rel => exact ⟨_, (false), (by first | rfl | (simp; done) | (simp [*]; done)), H', ⟨by first | omega | exact Nat.le_refl _⟩, ⟨by repeat (first | (with_reducible first | exact HB.out | apply below_alloc | apply pw_below_drewN | apply below_drew1) | exact HB.out)⟩⟩
      · replace c9 := Bool.eq_false_iff.mpr c9
        subst c9
        have H1 : (mutoscoperef1_down.j0 k false t166 false) = some r := by rw [if_neg (show ¬ (false = true) by decide)] at H; exact H
        clear H
        have H := H1
        clear H1
        have H' := Aside0.mk H
        clear H
        go_wp2
        go_meet
        case rel => exact ⟨_, (false), (by first | rfl | (simp; done) | (simp [*]; done)), H', ⟨by first | omega | exact Nat.le_refl _⟩, ⟨by repeat (first | (with_reducible first | exact HB.out | apply below_alloc | apply pw_below_drewN | apply below_drew1) | exact HB.out)⟩⟩
    case rest =>
      clear HC8
      try clear c1
      try clear p2
      try clear c5
      try clear c5b0
      try clear c6
      try clear c9
      try clear c10
      try clear c10b0
      obtain ⟨kq, x31_7, rfl, HA, HJ7, HB⟩ := hcut
      cases kq with
      | zero => exact absurd HA.out (by simp [mutoscoperef1_down.j0])
      | succ kj7 =>
        have H := HA.out
        clear HA
        simp only [mutoscoperef1_down.j0] at H
        by_cases c11 : x31_7 = true
        · subst c11
          have H1 : (if a3 = true then ((mutoscoperef1_Hold.f (wrap64 (-(wrap64 (mn (IntKind.u64.wrap (t166 + 1)) 4611686018427387904))))).bind fun t168 => (some t168)) else ((mutoscoperef1_Hold.f (wrap64 (mn (IntKind.u64.wrap (t166 + 1)) 4611686018427387904))).bind fun t169 => (some t169))) = some r := by rw [if_pos rfl] at H; exact H
          clear H
          have H := H1
          clear H1
          obtain ⟨ji12, hji12⟩ : ∃ j_ : Int, (mn (IntKind.u64.wrap (t166 + 1)) 4611686018427387904) = j_ := ⟨_, rfl⟩
          replace H : (if a3 = true then ((mutoscoperef1_Hold.f (wrap64 (-(wrap64 (ji12))))).bind fun t168 => (some t168)) else ((mutoscoperef1_Hold.f (wrap64 (ji12))).bind fun t169 => (some t169))) = some r := by first | (rw [hji12] at H; exact H) | (simp only [hji12] at H ⊢; exact H)
          have hji12_ : (if 4611686018427387904 < (IntKind.u64.wrap (t166 + 1)) then 4611686018427387904 else (IntKind.u64.wrap (t166 + 1))) = ji12 := hji12
          by_cases c13 : a3 = true
          · subst c13
            have H1 : ((mutoscoperef1_Hold.f (wrap64 (-(wrap64 (ji12))))).bind fun t168 => (some t168)) = some r := by rw [if_pos rfl] at H; exact H
            clear H
            have H := H1
            clear H1
            replace H := Option.bind_eq_some_iff.mp H
            obtain ⟨t168, A140, H⟩ := H
            replace H : (some t168) = some r := H
            have A14 := Aside0.mk A140
            clear A140
            obtain rfl := Option.some.inj H
            go_wp2_with (first | ((with_reducible refine gate_callee (f := 40) rfl ?_); refine goesL_ (some 41) rfl rfl Try.func40 (by kernel_rfl) rfl #[.int .i64 (wrap64 (-(wrap64 (ji12))))] rfl (by (try simp only [List.map_toArray, List.map_cons, List.map_nil]); first | done | (simp only [hji12]; rfl) | rfl | (simp only [List.length_drop, List.length_take]; rfl)) ?_; (with_reducible refine (mutoscoperef1_Hold.calls (wrap64 (-(wrap64 (ji12)))) t168 _ A14.out).mono ?_); rintro e w' ⟨rfl, ⟨nd, rfl⟩⟩; refine ⟨_, rfl, ?_⟩))
            go_ret
            exact ⟨by first | rfl | (simp [errW_none, errW_some] <;> rfl) | (simp only [← hji12]; first | rfl | (simp [errW_none, errW_some] <;> rfl)) | (simp [*, errW_none, errW_some] <;> rfl), by repeat (first | (with_reducible first | exact HB.out | apply below_alloc | apply pw_below_drewN | apply below_drew1) | exact HB.out)⟩
          · replace c13 := Bool.eq_false_iff.mpr c13
            subst c13
            have H1 : ((mutoscoperef1_Hold.f (wrap64 (ji12))).bind fun t169 => (some t169)) = some r := by rw [if_neg (show ¬ (false = true) by decide)] at H; exact H
            clear H
            have H := H1
            clear H1
            replace H := Option.bind_eq_some_iff.mp H
            obtain ⟨t169, A150, H⟩ := H
            replace H : (some t169) = some r := H
            have A15 := Aside0.mk A150
            clear A150
            obtain rfl := Option.some.inj H
            go_wp2_with (first | ((with_reducible refine gate_callee (f := 40) rfl ?_); refine goesL_ (some 41) rfl rfl Try.func40 (by kernel_rfl) rfl #[.int .i64 (wrap64 (ji12))] rfl (by (try simp only [List.map_toArray, List.map_cons, List.map_nil]); first | done | (simp only [hji12]; rfl) | rfl | (simp only [List.length_drop, List.length_take]; rfl)) ?_; (with_reducible refine (mutoscoperef1_Hold.calls (wrap64 (ji12)) t169 _ A15.out).mono ?_); rintro e w' ⟨rfl, ⟨nd, rfl⟩⟩; refine ⟨_, rfl, ?_⟩))
            go_ret
            exact ⟨by first | rfl | (simp [errW_none, errW_some] <;> rfl) | (simp only [← hji12]; first | rfl | (simp [errW_none, errW_some] <;> rfl)) | (simp [*, errW_none, errW_some] <;> rfl), by repeat (first | (with_reducible first | exact HB.out | apply below_alloc | apply pw_below_drewN | apply below_drew1) | exact HB.out)⟩
        · replace c11 := Bool.eq_false_iff.mpr c11
          subst c11
          have H1 : (if a3 = true then ((mutoscoperef1_Hold.f (wrap64 (-(wrap64 (mn t166 4611686018427387904))))).bind fun t170 => (some t170)) else ((mutoscoperef1_Hold.f (wrap64 (mn t166 4611686018427387904))).bind fun t171 => (some t171))) = some r := by rw [if_neg (show ¬ (false = true) by decide)] at H; exact H
          clear H
          have H := H1
          clear H1
          obtain ⟨ji16, hji16⟩ : ∃ j_ : Int, (mn t166 4611686018427387904) = j_ := ⟨_, rfl⟩
          replace H : (if a3 = true then ((mutoscoperef1_Hold.f (wrap64 (-(wrap64 (ji16))))).bind fun t170 => (some t170)) else ((mutoscoperef1_Hold.f (wrap64 (ji16))).bind fun t171 => (some t171))) = some r := by first | (rw [hji16] at H; exact H) | (simp only [hji16] at H ⊢; exact H)
          have hji16_ : (if 4611686018427387904 < t166 then 4611686018427387904 else t166) = ji16 := hji16
          by_cases c17 : a3 = true
          · subst c17
            have H1 : ((mutoscoperef1_Hold.f (wrap64 (-(wrap64 (ji16))))).bind fun t170 => (some t170)) = some r := by rw [if_pos rfl] at H; exact H
            clear H
            have H := H1
            clear H1
            replace H := Option.bind_eq_some_iff.mp H
            obtain ⟨t170, A180, H⟩ := H
            replace H : (some t170) = some r := H
            have A18 := Aside0.mk A180
            clear A180
            obtain rfl := Option.some.inj H
            go_wp2_with (first | ((with_reducible refine gate_callee (f := 40) rfl ?_); refine goesL_ (some 41) rfl rfl Try.func40 (by kernel_rfl) rfl #[.int .i64 (wrap64 (-(wrap64 (ji16))))] rfl (by (try simp only [List.map_toArray, List.map_cons, List.map_nil]); first | done | (simp only [hji16]; rfl) | rfl | (simp only [List.length_drop, List.length_take]; rfl)) ?_; (with_reducible refine (mutoscoperef1_Hold.calls (wrap64 (-(wrap64 (ji16)))) t170 _ A18.out).mono ?_); rintro e w' ⟨rfl, ⟨nd, rfl⟩⟩; refine ⟨_, rfl, ?_⟩))
            go_ret
            exact ⟨by first | rfl | (simp [errW_none, errW_some] <;> rfl) | (simp only [← hji16]; first | rfl | (simp [errW_none, errW_some] <;> rfl)) | (simp [*, errW_none, errW_some] <;> rfl), by repeat (first | (with_reducible first | exact HB.out | apply below_alloc | apply pw_below_drewN | apply below_drew1) | exact HB.out)⟩
          · replace c17 := Bool.eq_false_iff.mpr c17
            subst c17
            have H1 : ((mutoscoperef1_Hold.f (wrap64 (ji16))).bind fun t171 => (some t171)) = some r := by rw [if_neg (show ¬ (false = true) by decide)] at H; exact H
            clear H
            have H := H1
            clear H1
            replace H := Option.bind_eq_some_iff.mp H
            obtain ⟨t171, A190, H⟩ := H
            replace H : (some t171) = some r := H
            have A19 := Aside0.mk A190
            clear A190
            obtain rfl := Option.some.inj H
            go_wp2_with (first | ((with_reducible refine gate_callee (f := 40) rfl ?_); refine goesL_ (some 41) rfl rfl Try.func40 (by kernel_rfl) rfl #[.int .i64 (wrap64 (ji16))] rfl (by (try simp only [List.map_toArray, List.map_cons, List.map_nil]); first | done | (simp only [hji16]; rfl) | rfl | (simp only [List.length_drop, List.length_take]; rfl)) ?_; (with_reducible refine (mutoscoperef1_Hold.calls (wrap64 (ji16)) t171 _ A19.out).mono ?_); rintro e w' ⟨rfl, ⟨nd, rfl⟩⟩; refine ⟨_, rfl, ?_⟩))
            go_ret
            exact ⟨by first | rfl | (simp [errW_none, errW_some] <;> rfl) | (simp only [← hji16]; first | rfl | (simp [errW_none, errW_some] <;> rfl)) | (simp [*, errW_none, errW_some] <;> rfl), by repeat (first | (with_reducible first | exact HB.out | apply below_alloc | apply pw_below_drewN | apply below_drew1) | exact HB.out)⟩

end Go.Proofs.Ytejnbjclcdmopaa.PA
