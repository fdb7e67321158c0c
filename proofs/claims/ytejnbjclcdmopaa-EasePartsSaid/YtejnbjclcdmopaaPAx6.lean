/- Written by a program of this session (wip/hprint.py, over the kit's print program): Go functions as Lean functions, and for each a proof that its call answers what that function says. No condition beyond those stated. -/
import Derived.Test.YtejnbjclcdmopaaPAx0
import Derived.Test.YtejnbjclcdmopaaPAx4
import Derived.Test.YtejnbjclcdmopaaPAx5
namespace Go.Proofs.Ytejnbjclcdmopaa.PA
open Go.RowKit Go.Proofs.YtejnbjclcdmopaaW.PrintWords Go.Proofs.YtejnbjclcdmopaaW.PrintLast Go.Proofs.YtejnbjclcdmopaaW.PrintMore
attribute [local go_sem] max2_int min2_int max_two min_two max_three min_three max_four min_four   -- for this text's walks alone
attribute [local go_sem] Go.Proofs.Ytejnbjclcdmopaa.MS.isSome_setCell
set_option linter.unusedVariables false
set_option linter.unusedSimpArgs false

/-! ### mutoscopelaw4_EaseParts: function 4 -/
def mutoscopelaw4_EaseParts.f (k : Nat) (a0 : Int) (a1 : Int) (a2 : Int) : Option (Bool) := (ease_Part.f (Int.tmod a0 1073741824) (wrap64 ((Int.tmod a0 1073741824) + (wrap64 (1 + (Go.bits .and .i64 a1 65535))))) (wrap64 ((Int.tmod a0 1073741824) + (Go.bits .and .i64 a2 65535)))).bind fun t142 => (if (Go.bits .and .i64 a2 65535) ≥ (wrap64 (1 + (Go.bits .and .i64 a1 65535))) then (if t142 = 65536 then ((mutoscopelaw4_known.f k).bind fun t143 => (some t143)) else (none)) else (if (wrap64 (1 + (Go.bits .and .i64 a1 65535))) = 0 then (none) else (if t142 = (wrap64 (Int.tdiv (wrap64 ((Go.bits .and .i64 a2 65535) * 65536)) (wrap64 (1 + (Go.bits .and .i64 a1 65535))))) then ((ease_Part.f (Int.tmod a0 1073741824) (wrap64 ((Int.tmod a0 1073741824) + (wrap64 (1 + (Go.bits .and .i64 a1 65535))))) (Int.tmod a0 1073741824)).bind fun t144 => (if t144 = 0 then ((ease_Part.f (Int.tmod a0 1073741824) (wrap64 ((Int.tmod a0 1073741824) + (wrap64 (1 + (Go.bits .and .i64 a1 65535))))) (wrap64 ((Int.tmod a0 1073741824) - 1))).bind fun t145 => (if t145 = 0 then ((mutoscopelaw4_known.f k).bind fun t146 => (some t146)) else (none))) else (none))) else (none))))
theorem mutoscopelaw4_EaseParts.mono : ∀ a0 a1 a2 k, LeO (mutoscopelaw4_EaseParts.f k a0 a1 a2) (mutoscopelaw4_EaseParts.f (k + 1) a0 a1 a2) := by
  intro a0 a1 a2 k
  unfold mutoscopelaw4_EaseParts.f
  repeat' first
      | (with_reducible exact mutoscopelaw4_known.mono _)
      | (with_reducible exact LeO.refl _)
      | (with_reducible exact LeO.none _)
      | (with_reducible refine LeO.ite ?_ ?_)
      | (with_reducible refine LeO.bind ?_ (fun _ => ?_))
      | exact mutoscopelaw4_known.mono _
      | exact LeO.none _
      | refine LeO.ite ?_ ?_
      | refine LeO.bind ?_ (fun _ => ?_)
set_option maxHeartbeats 8000000 in
set_option maxRecDepth 100000 in
theorem mutoscopelaw4_EaseParts.calls (k : Nat) (a0 : Int) (a1 : Int) (a2 : Int) (r : Bool) (w : World) (h : mutoscopelaw4_EaseParts.f k a0 a1 a2 = some r) :
    Calls Try.prog 4 #[.int .i64 a0, .int .i64 a1, .int .i64 a2] w fun e w' => e = .returned (.bool r) ∧ Below w.heap.size w w' := by
  have HB := Aside0.mk (Below.refl w.heap.size w)
  have H : ((ease_Part.f (Int.tmod a0 1073741824) (wrap64 ((Int.tmod a0 1073741824) + (wrap64 (1 + (Go.bits .and .i64 a1 65535))))) (wrap64 ((Int.tmod a0 1073741824) + (Go.bits .and .i64 a2 65535)))).bind fun t142 => (if (Go.bits .and .i64 a2 65535) ≥ (wrap64 (1 + (Go.bits .and .i64 a1 65535))) then (if t142 = 65536 then ((mutoscopelaw4_known.f k).bind fun t143 => (some t143)) else (none)) else (if (wrap64 (1 + (Go.bits .and .i64 a1 65535))) = 0 then (none) else (if t142 = (wrap64 (Int.tdiv (wrap64 ((Go.bits .and .i64 a2 65535) * 65536)) (wrap64 (1 + (Go.bits .and .i64 a1 65535))))) then ((ease_Part.f (Int.tmod a0 1073741824) (wrap64 ((Int.tmod a0 1073741824) + (wrap64 (1 + (Go.bits .and .i64 a1 65535))))) (Int.tmod a0 1073741824)).bind fun t144 => (if t144 = 0 then ((ease_Part.f (Int.tmod a0 1073741824) (wrap64 ((Int.tmod a0 1073741824) + (wrap64 (1 + (Go.bits .and .i64 a1 65535))))) (wrap64 ((Int.tmod a0 1073741824) - 1))).bind fun t145 => (if t145 = 0 then ((mutoscopelaw4_known.f k).bind fun t146 => (some t146)) else (none))) else (none))) else (none))))) = some r := h
  clear h
  replace H := Option.bind_eq_some_iff.mp H
  obtain ⟨t142, A40, H⟩ := H
  replace H : (if (Go.bits .and .i64 a2 65535) ≥ (wrap64 (1 + (Go.bits .and .i64 a1 65535))) then (if t142 = 65536 then ((mutoscopelaw4_known.f k).bind fun t143 => (some t143)) else (none)) else (if (wrap64 (1 + (Go.bits .and .i64 a1 65535))) = 0 then (none) else (if t142 = (wrap64 (Int.tdiv (wrap64 ((Go.bits .and .i64 a2 65535) * 65536)) (wrap64 (1 + (Go.bits .and .i64 a1 65535))))) then ((ease_Part.f (Int.tmod a0 1073741824) (wrap64 ((Int.tmod a0 1073741824) + (wrap64 (1 + (Go.bits .and .i64 a1 65535))))) (Int.tmod a0 1073741824)).bind fun t144 => (if t144 = 0 then ((ease_Part.f (Int.tmod a0 1073741824) (wrap64 ((Int.tmod a0 1073741824) + (wrap64 (1 + (Go.bits .and .i64 a1 65535))))) (wrap64 ((Int.tmod a0 1073741824) - 1))).bind fun t145 => (if t145 = 0 then ((mutoscopelaw4_known.f k).bind fun t146 => (some t146)) else (none))) else (none))) else (none)))) = some r := H
  have A4 := Aside0.mk A40
  clear A40
  by_cases c5 : (Go.bits .and .i64 a2 65535) ≥ (wrap64 (1 + (Go.bits .and .i64 a1 65535)))
  · rw [if_pos c5] at H
    have c5b0 : decide ((wrap64 (1 + (Go.bits .and .i64 a1 65535))) ≤ (Go.bits .and .i64 a2 65535)) = true := decide_eq_true c5
    clear c5
    by_cases c6 : t142 = 65536
    · rw [if_pos c6] at H
      have c6b0 : (t142 == 65536) = true := beq_iff_eq.mpr c6
      have c6b1 : (t142 != 65536) = false := bne_eq_false_iff_eq.mpr c6
      clear c6
      replace H := Option.bind_eq_some_iff.mp H
      obtain ⟨t143, A70, H⟩ := H
      replace H : (some t143) = some r := H
      have A7 := Aside0.mk A70
      clear A70
      obtain rfl := Option.some.inj H
      go_enter Try.func4, Try.ntmps4
      go_wp2_with (first | ((with_reducible refine gate_callee (f := 15) rfl ?_); refine goesL_ (some 25) rfl rfl Try.func15 (by kernel_rfl) rfl #[.int .i64 (Int.tmod a0 1073741824), .int .i64 (wrap64 ((Int.tmod a0 1073741824) + (wrap64 (1 + (Go.bits .and .i64 a1 65535))))), .int .i64 (wrap64 ((Int.tmod a0 1073741824) + (Go.bits .and .i64 a2 65535)))] rfl (by (try simp only [List.map_toArray, List.map_cons, List.map_nil]); first | done | rfl | (simp only [List.length_drop, List.length_take]; rfl)) ?_; (with_reducible refine (ease_Part.calls (Int.tmod a0 1073741824) (wrap64 ((Int.tmod a0 1073741824) + (wrap64 (1 + (Go.bits .and .i64 a1 65535))))) (wrap64 ((Int.tmod a0 1073741824) + (Go.bits .and .i64 a2 65535))) t142 _ A4.out).mono ?_); rintro e w' ⟨rfl, ⟨nd, rfl⟩⟩; refine ⟨_, rfl, ?_⟩) | (go_at_call 14; (with_reducible refine (mutoscopelaw4_known.calls k  t143 _ A7.out).mono ?_); rintro e w8 ⟨rfl, hb⟩; have n0_ := Aside0.mk (below_step (by repeat (first | (with_reducible first | exact HB.out | apply below_alloc | apply pw_below_drewN | apply below_drew1) | exact HB.out)) hb); clear HB; have HB := n0_; clear n0_; (try clear hb); (try clear hb2); (try clear hk); (try clear hi)))
      go_ret
      exact ⟨by first | rfl | (simp [errW_none, errW_some] <;> rfl) | (simp [*, errW_none, errW_some] <;> rfl), by repeat (first | (with_reducible first | exact HB.out | apply below_alloc | apply pw_below_drewN | apply below_drew1) | exact HB.out)⟩
    · rw [if_neg c6] at H
      exact absurd H (by simp)
  · rw [if_neg c5] at H
    have c5b0 : decide ((wrap64 (1 + (Go.bits .and .i64 a1 65535))) ≤ (Go.bits .and .i64 a2 65535)) = false := decide_eq_false c5
    clear c5
    by_cases c9 : (wrap64 (1 + (Go.bits .and .i64 a1 65535))) = 0
    · rw [if_pos c9] at H
      exact absurd H (by simp)
    · rw [if_neg c9] at H
      have c9b0 : ((wrap64 (1 + (Go.bits .and .i64 a1 65535))) == 0) = false := beq_eq_false_iff_ne.mpr c9
      have c9b1 : ((wrap64 (1 + (Go.bits .and .i64 a1 65535))) != 0) = true := bne_iff_ne.mpr c9
      by_cases c10 : t142 = (wrap64 (Int.tdiv (wrap64 ((Go.bits .and .i64 a2 65535) * 65536)) (wrap64 (1 + (Go.bits .and .i64 a1 65535)))))
      · rw [if_pos c10] at H
        have c10b0 : (t142 == (wrap64 (Int.tdiv (wrap64 ((Go.bits .and .i64 a2 65535) * 65536)) (wrap64 (1 + (Go.bits .and .i64 a1 65535)))))) = true := beq_iff_eq.mpr c10
        have c10b1 : (t142 != (wrap64 (Int.tdiv (wrap64 ((Go.bits .and .i64 a2 65535) * 65536)) (wrap64 (1 + (Go.bits .and .i64 a1 65535)))))) = false := bne_eq_false_iff_eq.mpr c10
        clear c10
        replace H := Option.bind_eq_some_iff.mp H
        obtain ⟨t144, A110, H⟩ := H
        replace H : (if t144 = 0 then ((ease_Part.f (Int.tmod a0 1073741824) (wrap64 ((Int.tmod a0 1073741824) + (wrap64 (1 + (Go.bits .and .i64 a1 65535))))) (wrap64 ((Int.tmod a0 1073741824) - 1))).bind fun t145 => (if t145 = 0 then ((mutoscopelaw4_known.f k).bind fun t146 => (some t146)) else (none))) else (none)) = some r := H
        have A11 := Aside0.mk A110
        clear A110
        by_cases c12 : t144 = 0
        · rw [if_pos c12] at H
          have c12b0 : (t144 == 0) = true := beq_iff_eq.mpr c12
          have c12b1 : (t144 != 0) = false := bne_eq_false_iff_eq.mpr c12
          clear c12
          replace H := Option.bind_eq_some_iff.mp H
          obtain ⟨t145, A130, H⟩ := H
          replace H : (if t145 = 0 then ((mutoscopelaw4_known.f k).bind fun t146 => (some t146)) else (none)) = some r := H
          have A13 := Aside0.mk A130
          clear A130
          by_cases c14 : t145 = 0
          · rw [if_pos c14] at H
            have c14b0 : (t145 == 0) = true := beq_iff_eq.mpr c14
            have c14b1 : (t145 != 0) = false := bne_eq_false_iff_eq.mpr c14
            clear c14
            replace H := Option.bind_eq_some_iff.mp H
            obtain ⟨t146, A150, H⟩ := H
            replace H : (some t146) = some r := H
            have A15 := Aside0.mk A150
            clear A150
            obtain rfl := Option.some.inj H
            go_enter Try.func4, Try.ntmps4
            go_wp2_with (first | ((with_reducible refine gate_callee (f := 15) rfl ?_); refine goesL_ (some 25) rfl rfl Try.func15 (by kernel_rfl) rfl #[.int .i64 (Int.tmod a0 1073741824), .int .i64 (wrap64 ((Int.tmod a0 1073741824) + (wrap64 (1 + (Go.bits .and .i64 a1 65535))))), .int .i64 (wrap64 ((Int.tmod a0 1073741824) + (Go.bits .and .i64 a2 65535)))] rfl (by (try simp only [List.map_toArray, List.map_cons, List.map_nil]); first | done | rfl | (simp only [List.length_drop, List.length_take]; rfl)) ?_; (with_reducible refine (ease_Part.calls (Int.tmod a0 1073741824) (wrap64 ((Int.tmod a0 1073741824) + (wrap64 (1 + (Go.bits .and .i64 a1 65535))))) (wrap64 ((Int.tmod a0 1073741824) + (Go.bits .and .i64 a2 65535))) t142 _ A4.out).mono ?_); rintro e w' ⟨rfl, ⟨nd, rfl⟩⟩; refine ⟨_, rfl, ?_⟩) | (go_at_call 15; (with_reducible refine (ease_Part.calls (Int.tmod a0 1073741824) (wrap64 ((Int.tmod a0 1073741824) + (wrap64 (1 + (Go.bits .and .i64 a1 65535))))) (Int.tmod a0 1073741824) t144 _ A11.out).mono ?_); rintro e w' ⟨rfl, ⟨nd, rfl⟩⟩) | (go_at_call 15; (with_reducible refine (ease_Part.calls (Int.tmod a0 1073741824) (wrap64 ((Int.tmod a0 1073741824) + (wrap64 (1 + (Go.bits .and .i64 a1 65535))))) (wrap64 ((Int.tmod a0 1073741824) - 1)) t145 _ A13.out).mono ?_); rintro e w' ⟨rfl, ⟨nd, rfl⟩⟩) | (go_at_call 14; (with_reducible refine (mutoscopelaw4_known.calls k  t146 _ A15.out).mono ?_); rintro e w16 ⟨rfl, hb⟩; have n0_ := Aside0.mk (below_step (by repeat (first | (with_reducible first | exact HB.out | apply below_alloc | apply pw_below_drewN | apply below_drew1) | exact HB.out)) hb); clear HB; have HB := n0_; clear n0_; (try clear hb); (try clear hb2); (try clear hk); (try clear hi)))
            go_ret
            exact ⟨by first | rfl | (simp [errW_none, errW_some] <;> rfl) | (simp [*, errW_none, errW_some] <;> rfl), by repeat (first | (with_reducible first | exact HB.out | apply below_alloc | apply pw_below_drewN | apply below_drew1) | exact HB.out)⟩
          · rw [if_neg c14] at H
            exact absurd H (by simp)
        · rw [if_neg c12] at H
          exact absurd H (by simp)
      · rw [if_neg c10] at H
        exact absurd H (by simp)

/-- THE ONE PURE STATEMENT of mutoscopelaw4_EaseParts: yours. -/
def mutoscopelaw4_EaseParts.Pure : Prop := ∀ (a0 : Int) (a1 : Int) (a2 : Int), (Lit.int .i64 a0).wf = true → (Lit.int .i64 a1).wf = true → (Lit.int .i64 a2).wf = true → ∃ k, mutoscopelaw4_EaseParts.f k a0 a1 a2 = some true
theorem mutoscopelaw4_EaseParts.walk (P : mutoscopelaw4_EaseParts.Pure) (a0 : Int) (a1 : Int) (a2 : Int) (w : World) (w0 : (Lit.int .i64 a0).wf = true) (w1 : (Lit.int .i64 a1).wf = true) (w2 : (Lit.int .i64 a2).wf = true) :
    Calls Try.prog 4 #[.int .i64 a0, .int .i64 a1, .int .i64 a2] w fun e w' => e = .returned (.bool true) ∧ Below w.heap.size w w' := by
  obtain ⟨k, h⟩ := P a0 a1 a2 w0 w1 w2
  refine (mutoscopelaw4_EaseParts.calls k a0 a1 a2 true w h).mono ?_
  rintro e w' ⟨rfl, hd⟩
  exact ⟨rfl, hd⟩

/-! ### mutoscopelaw4_EaseEven: function 5 -/
def mutoscopelaw4_EaseEven.f (k : Nat) (a0 : Int) : Option (Bool) := (ease_At.f k 21845 21845 43690 43690 (Go.bits .and .i64 a0 65535)).bind fun t148 => (if t148 ≥ (wrap64 ((Go.bits .and .i64 a0 65535) - 32)) then (if t148 ≤ (wrap64 ((Go.bits .and .i64 a0 65535) + 32)) then ((ease_Right.f 21845 21845 43690 43690).bind fun t149 => (if t149 = true then ((mutoscopelaw4_known.f k).bind fun t150 => (some t150)) else (none))) else (none)) else (none))
theorem mutoscopelaw4_EaseEven.mono : ∀ a0 k, LeO (mutoscopelaw4_EaseEven.f k a0) (mutoscopelaw4_EaseEven.f (k + 1) a0) := by
  intro a0 k
  unfold mutoscopelaw4_EaseEven.f
  repeat' first
      | (with_reducible exact ease_At.mono _ _ _ _ _ _)
      | (with_reducible exact mutoscopelaw4_known.mono _)
      | (with_reducible exact LeO.refl _)
      | (with_reducible exact LeO.none _)
      | (with_reducible refine LeO.ite ?_ ?_)
      | (with_reducible refine LeO.bind ?_ (fun _ => ?_))
      | exact ease_At.mono _ _ _ _ _ _
      | exact mutoscopelaw4_known.mono _
      | exact LeO.none _
      | refine LeO.ite ?_ ?_
      | refine LeO.bind ?_ (fun _ => ?_)
set_option maxHeartbeats 8000000 in
set_option maxRecDepth 100000 in
theorem mutoscopelaw4_EaseEven.calls (k : Nat) (a0 : Int) (r : Bool) (w : World) (h : mutoscopelaw4_EaseEven.f k a0 = some r) :
    Calls Try.prog 5 #[.int .i64 a0] w fun e w' => e = .returned (.bool r) ∧ Below w.heap.size w w' := by
  have hu23 := Try.underlying23
  have HB := Aside0.mk (Below.refl w.heap.size w)
  have H : ((ease_At.f k 21845 21845 43690 43690 (Go.bits .and .i64 a0 65535)).bind fun t148 => (if t148 ≥ (wrap64 ((Go.bits .and .i64 a0 65535) - 32)) then (if t148 ≤ (wrap64 ((Go.bits .and .i64 a0 65535) + 32)) then ((ease_Right.f 21845 21845 43690 43690).bind fun t149 => (if t149 = true then ((mutoscopelaw4_known.f k).bind fun t150 => (some t150)) else (none))) else (none)) else (none))) = some r := h
  clear h
  replace H := Option.bind_eq_some_iff.mp H
  obtain ⟨t148, A20, H⟩ := H
  replace H : (if t148 ≥ (wrap64 ((Go.bits .and .i64 a0 65535) - 32)) then (if t148 ≤ (wrap64 ((Go.bits .and .i64 a0 65535) + 32)) then ((ease_Right.f 21845 21845 43690 43690).bind fun t149 => (if t149 = true then ((mutoscopelaw4_known.f k).bind fun t150 => (some t150)) else (none))) else (none)) else (none)) = some r := H
  have A2 := Aside0.mk A20
  clear A20
  by_cases c3 : t148 ≥ (wrap64 ((Go.bits .and .i64 a0 65535) - 32))
  · rw [if_pos c3] at H
    have c3b0 : decide ((wrap64 ((Go.bits .and .i64 a0 65535) - 32)) ≤ t148) = true := decide_eq_true c3
    clear c3
    by_cases c4 : t148 ≤ (wrap64 ((Go.bits .and .i64 a0 65535) + 32))
    · rw [if_pos c4] at H
      have c4b0 : decide (t148 ≤ (wrap64 ((Go.bits .and .i64 a0 65535) + 32))) = true := decide_eq_true c4
      clear c4
      replace H := Option.bind_eq_some_iff.mp H
      obtain ⟨t149, A50, H⟩ := H
      replace H : (if t149 = true then ((mutoscopelaw4_known.f k).bind fun t150 => (some t150)) else (none)) = some r := H
      have A5 := Aside0.mk A50
      clear A50
      by_cases c6 : t149 = true
      · subst c6
        have H1 : ((mutoscopelaw4_known.f k).bind fun t150 => (some t150)) = some r := by rw [if_pos rfl] at H; exact H
        clear H
        have H := H1
        clear H1
        replace H := Option.bind_eq_some_iff.mp H
        obtain ⟨t150, A70, H⟩ := H
        replace H : (some t150) = some r := H
        have A7 := Aside0.mk A70
        clear A70
        obtain rfl := Option.some.inj H
        go_enter Try.func5, Try.ntmps5
        go_wp2_with (first | ((with_reducible refine gate_dst (N := 3) rfl ?_); refine box_event ?hg (N := 3) ?hd (cs := #[.int .i64 0, .int .i64 0, .int .i64 0, .int .i64 0]) (t := 23) ?hr ?_; (case hd => rfl); (case hg => rfl); (case hr => first | (go_simp; done) | (go_simp; rfl)); intro gb147 hg w8 hbox hb; have n0_ := Aside0.mk (below_step (by repeat (first | (with_reducible first | exact HB.out | apply below_alloc | apply pw_below_drewN | apply below_drew1) | exact HB.out)) hb); have n1_ := Aside0.mk (hbox); have n2_ := Aside0.mk ((by rw [hg]; exact (below_size (by repeat (first | (with_reducible first | exact HB.out | apply below_alloc | apply pw_below_drewN | apply below_drew1) | exact HB.out))) : w.heap.size ≤ gb147)); have n3_ := Aside0.mk ((by rw [hg]; exact (below_size (by repeat (first | (with_reducible first | exact HB.out | apply below_alloc | apply pw_below_drewN | apply below_drew1) | exact HB.out))) : w.heap.size ≤ gb147)); clear HB; have HB := n0_; have BK147 := n1_; have GW147 := n2_; have GE147 := n3_; clear n0_ n1_ n2_ n3_; clear hb hbox hg; have hcz9_0 : w8.cell? ⟨gb147, 0, none⟩ = some (.int .i64 0) := (blk_cell BK147.out 0).trans rfl; have hcz9_1 : w8.cell? ⟨gb147, 1, none⟩ = some (.int .i64 0) := (blk_cell BK147.out 1).trans rfl; have hcz9_2 : w8.cell? ⟨gb147, 2, none⟩ = some (.int .i64 0) := (blk_cell BK147.out 2).trans rfl; have hcz9_3 : w8.cell? ⟨gb147, 3, none⟩ = some (.int .i64 0) := (blk_cell BK147.out 3).trans rfl; have hfz9_0 := blk_frozen BK147.out 0; have hfz9_1 := blk_frozen BK147.out 1; have hfz9_2 := blk_frozen BK147.out 2; have hfz9_3 := blk_frozen BK147.out 3) | ((with_reducible refine gate_callee (f := 13) rfl ?_); refine goesL_ (some 11) rfl rfl Try.func13 (by kernel_rfl) rfl #[.agg #[.int .i64 21845, .int .i64 21845, .int .i64 43690, .int .i64 43690], .int .i64 (Go.bits .and .i64 a0 65535)] rfl (by (try simp only [List.map_toArray, List.map_cons, List.map_nil]); first | done | rfl | (simp only [List.length_drop, List.length_take]; rfl)) ?_; (with_reducible refine (ease_At.calls k 21845 21845 43690 43690 (Go.bits .and .i64 a0 65535) t148 _ A2.out).mono ?_); rintro e w10 ⟨rfl, hb⟩; refine ⟨_, rfl, ?_⟩; have n0_ := Aside0.mk (blk_below (g := gb147) (o := .cells #[.int .i64 21845, .int .i64 21845, .int .i64 43690, .int .i64 43690] 23 (0, 0)) (by (with_reducible repeat (first | refine blk_drewN ?_ _ | refine blk_drew ?_ | refine blk_alloc ?_ _)); refine blk_put (cs := #[.int .i64 21845, .int .i64 21845, .int .i64 43690, .int .i64 0]) ?_ 3 _ rfl; (with_reducible repeat (first | refine blk_drewN ?_ _ | refine blk_drew ?_ | refine blk_alloc ?_ _)); refine blk_put (cs := #[.int .i64 21845, .int .i64 21845, .int .i64 0, .int .i64 0]) ?_ 2 _ rfl; (with_reducible repeat (first | refine blk_drewN ?_ _ | refine blk_drew ?_ | refine blk_alloc ?_ _)); refine blk_put (cs := #[.int .i64 21845, .int .i64 0, .int .i64 0, .int .i64 0]) ?_ 1 _ rfl; (with_reducible repeat (first | refine blk_drewN ?_ _ | refine blk_drew ?_ | refine blk_alloc ?_ _)); refine blk_put (cs := #[.int .i64 0, .int .i64 0, .int .i64 0, .int .i64 0]) ?_ 0 _ rfl; (with_reducible repeat (first | refine blk_drewN ?_ _ | refine blk_drew ?_ | refine blk_alloc ?_ _)); exact BK147.out) hb); have n1_ := Aside0.mk (below_step (by repeat (first | (with_reducible first | exact HB.out | apply below_alloc | apply pw_below_drewN | apply below_drew1 | refine below_set ?_ GE147.out) | exact HB.out)) hb); clear BK147; clear HB; have BK147 := n0_; have HB := n1_; clear n0_ n1_; (try clear hb); (try clear hb2); (try clear hk); (try clear hi); have hcz11_0 : w10.cell? ⟨gb147, 0, none⟩ = some (.int .i64 21845) := (blk_cell BK147.out 0).trans rfl; have hcz11_1 : w10.cell? ⟨gb147, 1, none⟩ = some (.int .i64 21845) := (blk_cell BK147.out 1).trans rfl; have hcz11_2 : w10.cell? ⟨gb147, 2, none⟩ = some (.int .i64 43690) := (blk_cell BK147.out 2).trans rfl; have hcz11_3 : w10.cell? ⟨gb147, 3, none⟩ = some (.int .i64 43690) := (blk_cell BK147.out 3).trans rfl; have hfz11_0 := blk_frozen BK147.out 0; have hfz11_1 := blk_frozen BK147.out 1; have hfz11_2 := blk_frozen BK147.out 2; have hfz11_3 := blk_frozen BK147.out 3) | (go_at_call 16; (with_reducible refine (ease_Right.calls 21845 21845 43690 43690 true _ A5.out).mono ?_); rintro e w12 ⟨rfl, hb⟩; have n0_ := Aside0.mk (blk_below (g := gb147) (o := .cells #[.int .i64 21845, .int .i64 21845, .int .i64 43690, .int .i64 43690] 23 (0, 0)) (by (with_reducible repeat (first | refine blk_drewN ?_ _ | refine blk_drew ?_ | refine blk_alloc ?_ _)); exact BK147.out) hb); have n1_ := Aside0.mk (below_step (by repeat (first | (with_reducible first | exact HB.out | apply below_alloc | apply pw_below_drewN | apply below_drew1 | refine below_set ?_ GE147.out) | exact HB.out)) hb); clear BK147; clear HB; have BK147 := n0_; have HB := n1_; clear n0_ n1_; (try clear hb); (try clear hb2); (try clear hk); (try clear hi)) | (go_at_call 14; (with_reducible refine (mutoscopelaw4_known.calls k  t150 _ A7.out).mono ?_); rintro e w13 ⟨rfl, hb⟩; have n0_ := Aside0.mk (blk_below (g := gb147) (o := .cells #[.int .i64 21845, .int .i64 21845, .int .i64 43690, .int .i64 43690] 23 (0, 0)) (by (with_reducible repeat (first | refine blk_drewN ?_ _ | refine blk_drew ?_ | refine blk_alloc ?_ _)); exact BK147.out) hb); have n1_ := Aside0.mk (below_step (by repeat (first | (with_reducible first | exact HB.out | apply below_alloc | apply pw_below_drewN | apply below_drew1 | refine below_set ?_ GE147.out) | exact HB.out)) hb); clear BK147; clear HB; have BK147 := n0_; have HB := n1_; clear n0_ n1_; (try clear hb); (try clear hb2); (try clear hk); (try clear hi)))
        go_ret
        exact ⟨by first | rfl | (simp [errW_none, errW_some] <;> rfl) | (simp [*, errW_none, errW_some] <;> rfl), by repeat (first | (with_reducible first | exact HB.out | apply below_alloc | apply pw_below_drewN | apply below_drew1 | refine below_set ?_ GE147.out) | exact HB.out)⟩
      · replace c6 := Bool.eq_false_iff.mpr c6
        subst c6
        have H1 : (none) = some r := by rw [if_neg (show ¬ (false = true) by decide)] at H; exact H
        clear H
        have H := H1
        clear H1
        exact absurd H (by simp)
    · rw [if_neg c4] at H
      exact absurd H (by simp)
  · rw [if_neg c3] at H
    exact absurd H (by simp)

/-- THE ONE PURE STATEMENT of mutoscopelaw4_EaseEven: yours. -/
def mutoscopelaw4_EaseEven.Pure : Prop := ∀ (a0 : Int), (Lit.int .i64 a0).wf = true → ∃ k, mutoscopelaw4_EaseEven.f k a0 = some true
theorem mutoscopelaw4_EaseEven.walk (P : mutoscopelaw4_EaseEven.Pure) (a0 : Int) (w : World) (w0 : (Lit.int .i64 a0).wf = true) :
    Calls Try.prog 5 #[.int .i64 a0] w fun e w' => e = .returned (.bool true) ∧ Below w.heap.size w w' := by
  obtain ⟨k, h⟩ := P a0 w0
  refine (mutoscopelaw4_EaseEven.calls k a0 true w h).mono ?_
  rintro e w' ⟨rfl, hd⟩
  exact ⟨rfl, hd⟩

end Go.Proofs.Ytejnbjclcdmopaa.PA
