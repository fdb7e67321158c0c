/- Written by a program of this session (wip/hprint.py, over the kit's print program): Go functions as Lean functions, and for each a proof that its call answers what that function says. No condition beyond those stated. -/
import Derived.Test.YtejnbjclcdmopaaPAx0
import Derived.Test.YtejnbjclcdmopaaPAx4
import Derived.Test.YtejnbjclcdmopaaPAx5
import Derived.Test.YtejnbjclcdmopaaPAx14
import Derived.Test.YtejnbjclcdmopaaPAx15
namespace Go.Proofs.Ytejnbjclcdmopaa.PA
open Go.RowKit Go.Proofs.YtejnbjclcdmopaaW.PrintWords Go.Proofs.YtejnbjclcdmopaaW.PrintLast Go.Proofs.YtejnbjclcdmopaaW.PrintMore
attribute [local go_sem] max2_int min2_int max_two min_two max_three min_three max_four min_four   -- for this text's walks alone
attribute [local go_sem] Go.Proofs.Ytejnbjclcdmopaa.MS.isSome_setCell
set_option linter.unusedVariables false
set_option linter.unusedSimpArgs false

/-! ### mutoscopelaw4_right: function 25 -/
def mutoscopelaw4_right.f (a0_0 : Int) (a0_1 : Int) (a0_2 : Int) (a0_3 : Int) : Option (Int × Int × Int × Int) := some (Go.bits .and .i64 a0_0 65535, Int.tmod a0_1 131072, Go.bits .and .i64 a0_2 65535, Int.tmod a0_3 131072)
set_option maxHeartbeats 8000000 in
set_option maxRecDepth 100000 in
theorem mutoscopelaw4_right.calls (a0_0 : Int) (a0_1 : Int) (a0_2 : Int) (a0_3 : Int) (r1 : Int) (r2 : Int) (r3 : Int) (r4 : Int) (w : World) (h : mutoscopelaw4_right.f a0_0 a0_1 a0_2 a0_3 = some (r1, r2, r3, r4)) :
    Calls Try.prog 25 #[.agg #[.int .i64 a0_0, .int .i64 a0_1, .int .i64 a0_2, .int .i64 a0_3]] w fun e w' => e = .returned (.agg #[.int .i64 r1, .int .i64 r2, .int .i64 r3, .int .i64 r4]) ∧ Below w.heap.size w w' := by
  have hu23 := Try.underlying23
  have HB := Aside0.mk (Below.refl w.heap.size w)
  have H : (some (Go.bits .and .i64 a0_0 65535, Int.tmod a0_1 131072, Go.bits .and .i64 a0_2 65535, Int.tmod a0_3 131072)) = some (r1, r2, r3, r4) := h
  clear h
  simp only [Option.some.injEq, Prod.mk.injEq] at H
  obtain ⟨rfl, rfl, rfl, rfl⟩ := H
  go_enter Try.func25, Try.ntmps25
  go_wp2_with (first | ((with_reducible refine gate_dst (N := 1) rfl ?_); refine box_event ?hg (N := 1) ?hd (cs := #[.int .i64 a0_0, .int .i64 a0_1, .int .i64 a0_2, .int .i64 a0_3]) (t := 23) ?hr ?_; (case hd => rfl); (case hg => rfl); (case hr => first | (go_simp; done) | (go_simp; rfl)); intro gb231 hg w2 hbox hb; have n0_ := Aside0.mk (below_step (by repeat (first | (with_reducible first | exact HB.out | apply below_alloc | apply pw_below_drewN | apply below_drew1) | exact HB.out)) hb); have n1_ := Aside0.mk (hbox); have n2_ := Aside0.mk ((by rw [hg]; exact (below_size (by repeat (first | (with_reducible first | exact HB.out | apply below_alloc | apply pw_below_drewN | apply below_drew1) | exact HB.out))) : w.heap.size ≤ gb231)); have n3_ := Aside0.mk ((by rw [hg]; exact (below_size (by repeat (first | (with_reducible first | exact HB.out | apply below_alloc | apply pw_below_drewN | apply below_drew1) | exact HB.out))) : w.heap.size ≤ gb231)); clear HB; have HB := n0_; have BK231 := n1_; have GW231 := n2_; have GE231 := n3_; clear n0_ n1_ n2_ n3_; clear hb hbox hg) | ((with_reducible refine gate_dst (N := 2) rfl ?_); refine box_event ?hg (N := 2) ?hd (cs := #[.int .i64 0, .int .i64 0, .int .i64 0, .int .i64 0]) (t := 23) ?hr ?_; (case hd => rfl); (case hg => rfl); (case hr => first | (go_simp; done) | (go_simp; rfl)); intro gb232 hg w3 hbox hb; have n0_ := Aside0.mk (blk_below (g := gb231) (o := .cells #[.int .i64 a0_0, .int .i64 a0_1, .int .i64 a0_2, .int .i64 a0_3] 23 (0, 0)) (by (with_reducible repeat (first | refine blk_drewN ?_ _ | refine blk_drew ?_ | refine blk_alloc ?_ _)); exact BK231.out) hb); have n1_ := Aside0.mk (below_step (by repeat (first | (with_reducible first | exact HB.out | apply below_alloc | apply pw_below_drewN | apply below_drew1 | refine below_set ?_ GE231.out) | exact HB.out)) hb); have n2_ := Aside0.mk (hbox); have n3_ := Aside0.mk ((by rw [hg]; exact (below_size (by repeat (first | (with_reducible first | exact HB.out | apply below_alloc | apply pw_below_drewN | apply below_drew1 | refine below_set ?_ GE231.out) | exact HB.out))) : w.heap.size ≤ gb232)); have n4_ := Aside0.mk ((by rw [hg]; exact (below_size (by repeat (first | (with_reducible first | exact HB.out | apply below_alloc | apply pw_below_drewN | apply below_drew1 | refine below_set ?_ GE231.out) | exact HB.out))) : w.heap.size ≤ gb232)); have n5_ := Aside0.mk ((by rw [hg]; exact Nat.ne_of_lt (blk_lt (g := gb231) (o := .cells #[.int .i64 a0_0, .int .i64 a0_1, .int .i64 a0_2, .int .i64 a0_3] 23 (0, 0)) (by (with_reducible repeat (first | refine blk_drewN ?_ _ | refine blk_drew ?_ | refine blk_alloc ?_ _)); exact BK231.out)) : gb231 ≠ gb232)); have n6_ := Aside0.mk ((by rw [hg]; exact Nat.ne_of_gt (blk_lt (g := gb231) (o := .cells #[.int .i64 a0_0, .int .i64 a0_1, .int .i64 a0_2, .int .i64 a0_3] 23 (0, 0)) (by (with_reducible repeat (first | refine blk_drewN ?_ _ | refine blk_drew ?_ | refine blk_alloc ?_ _)); exact BK231.out)) : gb232 ≠ gb231)); clear BK231; clear HB; have BK231 := n0_; have HB := n1_; have BK232 := n2_; have GW232 := n3_; have GE232 := n4_; have NB231_232 := n5_; have NB232_231 := n6_; clear n0_ n1_ n2_ n3_ n4_ n5_ n6_; clear hb hbox hg; have hnb4 := NB231_232.out; have hnc4 := NB232_231.out; have hcz5_0 : w3.cell? ⟨gb231, 0, none⟩ = some (.int .i64 a0_0) := (blk_cell BK231.out 0).trans rfl; have hcz5_1 : w3.cell? ⟨gb231, 1, none⟩ = some (.int .i64 a0_1) := (blk_cell BK231.out 1).trans rfl; have hcz5_2 : w3.cell? ⟨gb231, 2, none⟩ = some (.int .i64 a0_2) := (blk_cell BK231.out 2).trans rfl; have hcz5_3 : w3.cell? ⟨gb231, 3, none⟩ = some (.int .i64 a0_3) := (blk_cell BK231.out 3).trans rfl; have hfz5_0 := blk_frozen BK231.out 0; have hfz5_1 := blk_frozen BK231.out 1; have hfz5_2 := blk_frozen BK231.out 2; have hfz5_3 := blk_frozen BK231.out 3; have hcz6_0 : w3.cell? ⟨gb232, 0, none⟩ = some (.int .i64 0) := (blk_cell BK232.out 0).trans rfl; have hcz6_1 : w3.cell? ⟨gb232, 1, none⟩ = some (.int .i64 0) := (blk_cell BK232.out 1).trans rfl; have hcz6_2 : w3.cell? ⟨gb232, 2, none⟩ = some (.int .i64 0) := (blk_cell BK232.out 2).trans rfl; have hcz6_3 : w3.cell? ⟨gb232, 3, none⟩ = some (.int .i64 0) := (blk_cell BK232.out 3).trans rfl; have hfz6_0 := blk_frozen BK232.out 0; have hfz6_1 := blk_frozen BK232.out 1; have hfz6_2 := blk_frozen BK232.out 2; have hfz6_3 := blk_frozen BK232.out 3))
  refine bodyPost_ret (results_cell_row rfl _ _ gb232 23 #[.int .i64 (Go.bits .and .i64 a0_0 65535), .int .i64 (Int.tmod a0_1 131072), .int .i64 (Go.bits .and .i64 a0_2 65535), .int .i64 (Int.tmod a0_3 131072)] (0, 0) _ rfl (by (with_reducible repeat (first | refine blk_drewN ?_ _ | refine blk_drew ?_ | refine blk_alloc ?_ _)); refine blk_put (cs := #[.int .i64 (Go.bits .and .i64 a0_0 65535), .int .i64 (Int.tmod a0_1 131072), .int .i64 (Go.bits .and .i64 a0_2 65535), .int .i64 0]) ?_ 3 _ rfl; (with_reducible repeat (first | refine blk_drewN ?_ _ | refine blk_drew ?_ | refine blk_alloc ?_ _)); refine blk_put (cs := #[.int .i64 (Go.bits .and .i64 a0_0 65535), .int .i64 (Int.tmod a0_1 131072), .int .i64 0, .int .i64 0]) ?_ 2 _ rfl; (with_reducible repeat (first | refine blk_drewN ?_ _ | refine blk_drew ?_ | refine blk_alloc ?_ _)); refine blk_put (cs := #[.int .i64 (Go.bits .and .i64 a0_0 65535), .int .i64 0, .int .i64 0, .int .i64 0]) ?_ 1 _ rfl; (with_reducible repeat (first | refine blk_drewN ?_ _ | refine blk_drew ?_ | refine blk_alloc ?_ _)); refine blk_put (cs := #[.int .i64 0, .int .i64 0, .int .i64 0, .int .i64 0]) ?_ 0 _ rfl; (with_reducible repeat (first | refine blk_drewN ?_ _ | refine blk_drew ?_ | refine blk_alloc ?_ _)); exact BK232.out) Try.underlying23 rfl (by kernel_rfl)) rfl ?_
  exact ⟨by first | rfl | (simp [errW_none, errW_some] <;> rfl) | (simp [*, errW_none, errW_some] <;> rfl), by repeat (first | (with_reducible first | exact HB.out | apply below_alloc | apply pw_below_drewN | apply below_drew1 | refine below_set ?_ GE231.out | refine below_set ?_ GE232.out) | exact HB.out)⟩

/-! ### mutoscopelaw4_EaseTells: function 10 -/
def mutoscopelaw4_EaseTells.f (k : Nat) (a0_0 : Int) (a0_1 : Int) (a0_2 : Int) (a0_3 : Int) (a1 : Int) (a2 : Int) (a3 : Int) (a4 : Int) : Option (Bool) := (mutoscopelaw4_same.f k a0_0 a0_1 a0_2 a0_3 a1).bind fun t234 => (if t234 = true then ((mutoscopelaw4_right.f a0_0 a0_1 a0_2 a0_3).bind fun bt235 => ((mutoscopelaw4_same.f k bt235.1 bt235.2.1 bt235.2.2.1 bt235.2.2.2 (Go.bits .and .i64 a1 65535)).bind fun t239 => (if t239 = true then ((mutoscopelaw4_same.f k a0_0 a0_1 a0_2 a0_3 (Go.bits .and .i64 a1 65535)).bind fun t240 => (if t240 = true then ((ease_Part.f a2 a3 a4).bind fun t241 => ((mutoscoperef5_Part.f a2 a3 a4).bind fun t242 => (if t241 = t242 then ((ease_Part.f (a2 / 1125899906842624) (a3 / 1125899906842624) (a4 / 1125899906842624)).bind fun t243 => ((mutoscoperef5_Part.f (a2 / 1125899906842624) (a3 / 1125899906842624) (a4 / 1125899906842624)).bind fun t244 => (if t243 = t244 then ((mutoscopelaw4_known.f k).bind fun t245 => (some t245)) else (none)))) else (none)))) else (none))) else (none)))) else (none))
theorem mutoscopelaw4_EaseTells.mono : ∀ a0 a1 a2 a3 a4 a5 a6 a7 k, LeO (mutoscopelaw4_EaseTells.f k a0 a1 a2 a3 a4 a5 a6 a7) (mutoscopelaw4_EaseTells.f (k + 1) a0 a1 a2 a3 a4 a5 a6 a7) := by
  intro a0 a1 a2 a3 a4 a5 a6 a7 k
  unfold mutoscopelaw4_EaseTells.f
  repeat' first
      | (with_reducible exact mutoscopelaw4_known.mono _)
      | (with_reducible exact mutoscopelaw4_same.mono _ _ _ _ _ _)
      | (with_reducible exact LeO.refl _)
      | (with_reducible exact LeO.none _)
      | (with_reducible refine LeO.ite ?_ ?_)
      | (with_reducible refine LeO.bind ?_ (fun _ => ?_))
      | exact mutoscopelaw4_known.mono _
      | exact mutoscopelaw4_same.mono _ _ _ _ _ _
      | exact LeO.none _
      | refine LeO.ite ?_ ?_
      | refine LeO.bind ?_ (fun _ => ?_)
set_option maxHeartbeats 8000000 in
set_option maxRecDepth 100000 in
theorem mutoscopelaw4_EaseTells.calls (k : Nat) (a0_0 : Int) (a0_1 : Int) (a0_2 : Int) (a0_3 : Int) (a1 : Int) (a2 : Int) (a3 : Int) (a4 : Int) (r : Bool) (w : World) (h : mutoscopelaw4_EaseTells.f k a0_0 a0_1 a0_2 a0_3 a1 a2 a3 a4 = some r) :
    Calls Try.prog 10 #[.agg #[.int .i64 a0_0, .int .i64 a0_1, .int .i64 a0_2, .int .i64 a0_3], .int .i64 a1, .int .i64 a2, .int .i64 a3, .int .i64 a4] w fun e w' => e = .returned (.bool r) ∧ Below w.heap.size w w' := by
  have hu23 := Try.underlying23
  have HB := Aside0.mk (Below.refl w.heap.size w)
  have H : ((mutoscopelaw4_same.f k a0_0 a0_1 a0_2 a0_3 a1).bind fun t234 => (if t234 = true then ((mutoscopelaw4_right.f a0_0 a0_1 a0_2 a0_3).bind fun bt235 => ((mutoscopelaw4_same.f k bt235.1 bt235.2.1 bt235.2.2.1 bt235.2.2.2 (Go.bits .and .i64 a1 65535)).bind fun t239 => (if t239 = true then ((mutoscopelaw4_same.f k a0_0 a0_1 a0_2 a0_3 (Go.bits .and .i64 a1 65535)).bind fun t240 => (if t240 = true then ((ease_Part.f a2 a3 a4).bind fun t241 => ((mutoscoperef5_Part.f a2 a3 a4).bind fun t242 => (if t241 = t242 then ((ease_Part.f (a2 / 1125899906842624) (a3 / 1125899906842624) (a4 / 1125899906842624)).bind fun t243 => ((mutoscoperef5_Part.f (a2 / 1125899906842624) (a3 / 1125899906842624) (a4 / 1125899906842624)).bind fun t244 => (if t243 = t244 then ((mutoscopelaw4_known.f k).bind fun t245 => (some t245)) else (none)))) else (none)))) else (none))) else (none)))) else (none))) = some r := h
  clear h
  replace H := Option.bind_eq_some_iff.mp H
  obtain ⟨t234, A60, H⟩ := H
  replace H : (if t234 = true then ((mutoscopelaw4_right.f a0_0 a0_1 a0_2 a0_3).bind fun bt235 => ((mutoscopelaw4_same.f k bt235.1 bt235.2.1 bt235.2.2.1 bt235.2.2.2 (Go.bits .and .i64 a1 65535)).bind fun t239 => (if t239 = true then ((mutoscopelaw4_same.f k a0_0 a0_1 a0_2 a0_3 (Go.bits .and .i64 a1 65535)).bind fun t240 => (if t240 = true then ((ease_Part.f a2 a3 a4).bind fun t241 => ((mutoscoperef5_Part.f a2 a3 a4).bind fun t242 => (if t241 = t242 then ((ease_Part.f (a2 / 1125899906842624) (a3 / 1125899906842624) (a4 / 1125899906842624)).bind fun t243 => ((mutoscoperef5_Part.f (a2 / 1125899906842624) (a3 / 1125899906842624) (a4 / 1125899906842624)).bind fun t244 => (if t243 = t244 then ((mutoscopelaw4_known.f k).bind fun t245 => (some t245)) else (none)))) else (none)))) else (none))) else (none)))) else (none)) = some r := H
  have A6 := Aside0.mk A60
  clear A60
  by_cases c7 : t234 = true
  · subst c7
    have H1 : ((mutoscopelaw4_right.f a0_0 a0_1 a0_2 a0_3).bind fun bt235 => ((mutoscopelaw4_same.f k bt235.1 bt235.2.1 bt235.2.2.1 bt235.2.2.2 (Go.bits .and .i64 a1 65535)).bind fun t239 => (if t239 = true then ((mutoscopelaw4_same.f k a0_0 a0_1 a0_2 a0_3 (Go.bits .and .i64 a1 65535)).bind fun t240 => (if t240 = true then ((ease_Part.f a2 a3 a4).bind fun t241 => ((mutoscoperef5_Part.f a2 a3 a4).bind fun t242 => (if t241 = t242 then ((ease_Part.f (a2 / 1125899906842624) (a3 / 1125899906842624) (a4 / 1125899906842624)).bind fun t243 => ((mutoscoperef5_Part.f (a2 / 1125899906842624) (a3 / 1125899906842624) (a4 / 1125899906842624)).bind fun t244 => (if t243 = t244 then ((mutoscopelaw4_known.f k).bind fun t245 => (some t245)) else (none)))) else (none)))) else (none))) else (none)))) = some r := by rw [if_pos rfl] at H; exact H
    clear H
    have H := H1
    clear H1
    replace H := Option.bind_eq_some_iff.mp H
    obtain ⟨⟨t235, t236, t237, t238⟩, A80, H⟩ := H
    replace H : ((mutoscopelaw4_same.f k t235 t236 t237 t238 (Go.bits .and .i64 a1 65535)).bind fun t239 => (if t239 = true then ((mutoscopelaw4_same.f k a0_0 a0_1 a0_2 a0_3 (Go.bits .and .i64 a1 65535)).bind fun t240 => (if t240 = true then ((ease_Part.f a2 a3 a4).bind fun t241 => ((mutoscoperef5_Part.f a2 a3 a4).bind fun t242 => (if t241 = t242 then ((ease_Part.f (a2 / 1125899906842624) (a3 / 1125899906842624) (a4 / 1125899906842624)).bind fun t243 => ((mutoscoperef5_Part.f (a2 / 1125899906842624) (a3 / 1125899906842624) (a4 / 1125899906842624)).bind fun t244 => (if t243 = t244 then ((mutoscopelaw4_known.f k).bind fun t245 => (some t245)) else (none)))) else (none)))) else (none))) else (none))) = some r := H
    have A8 := Aside0.mk A80
    clear A80
    replace H := Option.bind_eq_some_iff.mp H
    obtain ⟨t239, A90, H⟩ := H
    replace H : (if t239 = true then ((mutoscopelaw4_same.f k a0_0 a0_1 a0_2 a0_3 (Go.bits .and .i64 a1 65535)).bind fun t240 => (if t240 = true then ((ease_Part.f a2 a3 a4).bind fun t241 => ((mutoscoperef5_Part.f a2 a3 a4).bind fun t242 => (if t241 = t242 then ((ease_Part.f (a2 / 1125899906842624) (a3 / 1125899906842624) (a4 / 1125899906842624)).bind fun t243 => ((mutoscoperef5_Part.f (a2 / 1125899906842624) (a3 / 1125899906842624) (a4 / 1125899906842624)).bind fun t244 => (if t243 = t244 then ((mutoscopelaw4_known.f k).bind fun t245 => (some t245)) else (none)))) else (none)))) else (none))) else (none)) = some r := H
    have A9 := Aside0.mk A90
    clear A90
    by_cases c10 : t239 = true
    · subst c10
      have H1 : ((mutoscopelaw4_same.f k a0_0 a0_1 a0_2 a0_3 (Go.bits .and .i64 a1 65535)).bind fun t240 => (if t240 = true then ((ease_Part.f a2 a3 a4).bind fun t241 => ((mutoscoperef5_Part.f a2 a3 a4).bind fun t242 => (if t241 = t242 then ((ease_Part.f (a2 / 1125899906842624) (a3 / 1125899906842624) (a4 / 1125899906842624)).bind fun t243 => ((mutoscoperef5_Part.f (a2 / 1125899906842624) (a3 / 1125899906842624) (a4 / 1125899906842624)).bind fun t244 => (if t243 = t244 then ((mutoscopelaw4_known.f k).bind fun t245 => (some t245)) else (none)))) else (none)))) else (none))) = some r := by rw [if_pos rfl] at H; exact H
      clear H
      have H := H1
      clear H1
      replace H := Option.bind_eq_some_iff.mp H
      obtain ⟨t240, A110, H⟩ := H
      replace H : (if t240 = true then ((ease_Part.f a2 a3 a4).bind fun t241 => ((mutoscoperef5_Part.f a2 a3 a4).bind fun t242 => (if t241 = t242 then ((ease_Part.f (a2 / 1125899906842624) (a3 / 1125899906842624) (a4 / 1125899906842624)).bind fun t243 => ((mutoscoperef5_Part.f (a2 / 1125899906842624) (a3 / 1125899906842624) (a4 / 1125899906842624)).bind fun t244 => (if t243 = t244 then ((mutoscopelaw4_known.f k).bind fun t245 => (some t245)) else (none)))) else (none)))) else (none)) = some r := H
      have A11 := Aside0.mk A110
      clear A110
      by_cases c12 : t240 = true
      · subst c12
        have H1 : ((ease_Part.f a2 a3 a4).bind fun t241 => ((mutoscoperef5_Part.f a2 a3 a4).bind fun t242 => (if t241 = t242 then ((ease_Part.f (a2 / 1125899906842624) (a3 / 1125899906842624) (a4 / 1125899906842624)).bind fun t243 => ((mutoscoperef5_Part.f (a2 / 1125899906842624) (a3 / 1125899906842624) (a4 / 1125899906842624)).bind fun t244 => (if t243 = t244 then ((mutoscopelaw4_known.f k).bind fun t245 => (some t245)) else (none)))) else (none)))) = some r := by rw [if_pos rfl] at H; exact H
        clear H
        have H := H1
        clear H1
        replace H := Option.bind_eq_some_iff.mp H
        obtain ⟨t241, A130, H⟩ := H
        replace H : ((mutoscoperef5_Part.f a2 a3 a4).bind fun t242 => (if t241 = t242 then ((ease_Part.f (a2 / 1125899906842624) (a3 / 1125899906842624) (a4 / 1125899906842624)).bind fun t243 => ((mutoscoperef5_Part.f (a2 / 1125899906842624) (a3 / 1125899906842624) (a4 / 1125899906842624)).bind fun t244 => (if t243 = t244 then ((mutoscopelaw4_known.f k).bind fun t245 => (some t245)) else (none)))) else (none))) = some r := H
        have A13 := Aside0.mk A130
        clear A130
        replace H := Option.bind_eq_some_iff.mp H
        obtain ⟨t242, A140, H⟩ := H
        replace H : (if t241 = t242 then ((ease_Part.f (a2 / 1125899906842624) (a3 / 1125899906842624) (a4 / 1125899906842624)).bind fun t243 => ((mutoscoperef5_Part.f (a2 / 1125899906842624) (a3 / 1125899906842624) (a4 / 1125899906842624)).bind fun t244 => (if t243 = t244 then ((mutoscopelaw4_known.f k).bind fun t245 => (some t245)) else (none)))) else (none)) = some r := H
        have A14 := Aside0.mk A140
        clear A140
        by_cases c15 : t241 = t242
        · rw [if_pos c15] at H
          have c15b0 : (t241 == t242) = true := beq_iff_eq.mpr c15
          have c15b1 : (t241 != t242) = false := bne_eq_false_iff_eq.mpr c15
          clear c15
          replace H := Option.bind_eq_some_iff.mp H
          obtain ⟨t243, A160, H⟩ := H
          replace H : ((mutoscoperef5_Part.f (a2 / 1125899906842624) (a3 / 1125899906842624) (a4 / 1125899906842624)).bind fun t244 => (if t243 = t244 then ((mutoscopelaw4_known.f k).bind fun t245 => (some t245)) else (none))) = some r := H
          have A16 := Aside0.mk A160
          clear A160
          replace H := Option.bind_eq_some_iff.mp H
          obtain ⟨t244, A170, H⟩ := H
          replace H : (if t243 = t244 then ((mutoscopelaw4_known.f k).bind fun t245 => (some t245)) else (none)) = some r := H
          have A17 := Aside0.mk A170
          clear A170
          by_cases c18 : t243 = t244
          · rw [if_pos c18] at H
            have c18b0 : (t243 == t244) = true := beq_iff_eq.mpr c18
            have c18b1 : (t243 != t244) = false := bne_eq_false_iff_eq.mpr c18
            clear c18
            replace H := Option.bind_eq_some_iff.mp H
            obtain ⟨t245, A190, H⟩ := H
            replace H : (some t245) = some r := H
            have A19 := Aside0.mk A190
            clear A190
            obtain rfl := Option.some.inj H
            go_enter Try.func10, Try.ntmps10
            go_wp2_with (first | ((with_reducible refine gate_dst (N := 5) rfl ?_); refine box_event ?hg (N := 5) ?hd (cs := #[.int .i64 a0_0, .int .i64 a0_1, .int .i64 a0_2, .int .i64 a0_3]) (t := 23) ?hr ?_; (case hd => rfl); (case hg => rfl); (case hr => first | (go_simp; done) | (go_simp; rfl)); intro gb233 hg w20 hbox hb; have n0_ := Aside0.mk (below_step (by repeat (first | (with_reducible first | exact HB.out | apply below_alloc | apply pw_below_drewN | apply below_drew1) | exact HB.out)) hb); have n1_ := Aside0.mk (hbox); have n2_ := Aside0.mk ((by rw [hg]; exact (below_size (by repeat (first | (with_reducible first | exact HB.out | apply below_alloc | apply pw_below_drewN | apply below_drew1) | exact HB.out))) : w.heap.size ≤ gb233)); have n3_ := Aside0.mk ((by rw [hg]; exact (below_size (by repeat (first | (with_reducible first | exact HB.out | apply below_alloc | apply pw_below_drewN | apply below_drew1) | exact HB.out))) : w.heap.size ≤ gb233)); clear HB; have HB := n0_; have BK233 := n1_; have GW233 := n2_; have GE233 := n3_; clear n0_ n1_ n2_ n3_; clear hb hbox hg; have hcz21_0 : w20.cell? ⟨gb233, 0, none⟩ = some (.int .i64 a0_0) := (blk_cell BK233.out 0).trans rfl; have hcz21_1 : w20.cell? ⟨gb233, 1, none⟩ = some (.int .i64 a0_1) := (blk_cell BK233.out 1).trans rfl; have hcz21_2 : w20.cell? ⟨gb233, 2, none⟩ = some (.int .i64 a0_2) := (blk_cell BK233.out 2).trans rfl; have hcz21_3 : w20.cell? ⟨gb233, 3, none⟩ = some (.int .i64 a0_3) := (blk_cell BK233.out 3).trans rfl; have hfz21_0 := blk_frozen BK233.out 0; have hfz21_1 := blk_frozen BK233.out 1; have hfz21_2 := blk_frozen BK233.out 2; have hfz21_3 := blk_frozen BK233.out 3) | ((with_reducible refine gate_callee (f := 23) rfl ?_); refine goesL_ (some 13) rfl rfl Try.func23 (by kernel_rfl) rfl #[.agg #[.int .i64 a0_0, .int .i64 a0_1, .int .i64 a0_2, .int .i64 a0_3], .int .i64 a1] rfl (by (try simp only [List.map_toArray, List.map_cons, List.map_nil]); first | done | rfl | (simp only [List.length_drop, List.length_take]; rfl)) ?_; (with_reducible refine (mutoscopelaw4_same.calls k a0_0 a0_1 a0_2 a0_3 a1 true _ A6.out).mono ?_); rintro e w22 ⟨rfl, hb⟩; refine ⟨_, rfl, ?_⟩; have n0_ := Aside0.mk (blk_below (g := gb233) (o := .cells #[.int .i64 a0_0, .int .i64 a0_1, .int .i64 a0_2, .int .i64 a0_3] 23 (0, 0)) (by (with_reducible repeat (first | refine blk_drewN ?_ _ | refine blk_drew ?_ | refine blk_alloc ?_ _)); exact BK233.out) hb); have n1_ := Aside0.mk (below_step (by repeat (first | (with_reducible first | exact HB.out | apply below_alloc | apply pw_below_drewN | apply below_drew1 | refine below_set ?_ GE233.out) | exact HB.out)) hb); clear BK233; clear HB; have BK233 := n0_; have HB := n1_; clear n0_ n1_; (try clear hb); (try clear hb2); (try clear hk); (try clear hi); have hcz23_0 : w22.cell? ⟨gb233, 0, none⟩ = some (.int .i64 a0_0) := (blk_cell BK233.out 0).trans rfl; have hcz23_1 : w22.cell? ⟨gb233, 1, none⟩ = some (.int .i64 a0_1) := (blk_cell BK233.out 1).trans rfl; have hcz23_2 : w22.cell? ⟨gb233, 2, none⟩ = some (.int .i64 a0_2) := (blk_cell BK233.out 2).trans rfl; have hcz23_3 : w22.cell? ⟨gb233, 3, none⟩ = some (.int .i64 a0_3) := (blk_cell BK233.out 3).trans rfl; have hfz23_0 := blk_frozen BK233.out 0; have hfz23_1 := blk_frozen BK233.out 1; have hfz23_2 := blk_frozen BK233.out 2; have hfz23_3 := blk_frozen BK233.out 3) | (go_at_call 25; (with_reducible refine (mutoscopelaw4_right.calls a0_0 a0_1 a0_2 a0_3 t235 t236 t237 t238 _ A8.out).mono ?_); rintro e w24 ⟨rfl, hb⟩; have n0_ := Aside0.mk (blk_below (g := gb233) (o := .cells #[.int .i64 a0_0, .int .i64 a0_1, .int .i64 a0_2, .int .i64 a0_3] 23 (0, 0)) (by (with_reducible repeat (first | refine blk_drewN ?_ _ | refine blk_drew ?_ | refine blk_alloc ?_ _)); exact BK233.out) hb); have n1_ := Aside0.mk (below_step (by repeat (first | (with_reducible first | exact HB.out | apply below_alloc | apply pw_below_drewN | apply below_drew1 | refine below_set ?_ GE233.out) | exact HB.out)) hb); clear BK233; clear HB; have BK233 := n0_; have HB := n1_; clear n0_ n1_; (try clear hb); (try clear hb2); (try clear hk); (try clear hi)) | (go_at_call 23; (with_reducible refine (mutoscopelaw4_same.calls k t235 t236 t237 t238 (Go.bits .and .i64 a1 65535) true _ A9.out).mono ?_); rintro e w25 ⟨rfl, hb⟩; have n0_ := Aside0.mk (blk_below (g := gb233) (o := .cells #[.int .i64 a0_0, .int .i64 a0_1, .int .i64 a0_2, .int .i64 a0_3] 23 (0, 0)) (by (with_reducible repeat (first | refine blk_drewN ?_ _ | refine blk_drew ?_ | refine blk_alloc ?_ _)); exact BK233.out) hb); have n1_ := Aside0.mk (below_step (by repeat (first | (with_reducible first | exact HB.out | apply below_alloc | apply pw_below_drewN | apply below_drew1 | refine below_set ?_ GE233.out) | exact HB.out)) hb); clear BK233; clear HB; have BK233 := n0_; have HB := n1_; clear n0_ n1_; (try clear hb); (try clear hb2); (try clear hk); (try clear hi); have hcz26_0 : w25.cell? ⟨gb233, 0, none⟩ = some (.int .i64 a0_0) := (blk_cell BK233.out 0).trans rfl; have hcz26_1 : w25.cell? ⟨gb233, 1, none⟩ = some (.int .i64 a0_1) := (blk_cell BK233.out 1).trans rfl; have hcz26_2 : w25.cell? ⟨gb233, 2, none⟩ = some (.int .i64 a0_2) := (blk_cell BK233.out 2).trans rfl; have hcz26_3 : w25.cell? ⟨gb233, 3, none⟩ = some (.int .i64 a0_3) := (blk_cell BK233.out 3).trans rfl; have hfz26_0 := blk_frozen BK233.out 0; have hfz26_1 := blk_frozen BK233.out 1; have hfz26_2 := blk_frozen BK233.out 2; have hfz26_3 := blk_frozen BK233.out 3) | (go_at_call 23; (with_reducible refine (mutoscopelaw4_same.calls k a0_0 a0_1 a0_2 a0_3 (Go.bits .and .i64 a1 65535) true _ A11.out).mono ?_); rintro e w27 ⟨rfl, hb⟩; have n0_ := Aside0.mk (blk_below (g := gb233) (o := .cells #[.int .i64 a0_0, .int .i64 a0_1, .int .i64 a0_2, .int .i64 a0_3] 23 (0, 0)) (by (with_reducible repeat (first | refine blk_drewN ?_ _ | refine blk_drew ?_ | refine blk_alloc ?_ _)); exact BK233.out) hb); have n1_ := Aside0.mk (below_step (by repeat (first | (with_reducible first | exact HB.out | apply below_alloc | apply pw_below_drewN | apply below_drew1 | refine below_set ?_ GE233.out) | exact HB.out)) hb); clear BK233; clear HB; have BK233 := n0_; have HB := n1_; clear n0_ n1_; (try clear hb); (try clear hb2); (try clear hk); (try clear hi)) | (go_at_call 15; (with_reducible refine (ease_Part.calls a2 a3 a4 t241 _ A13.out).mono ?_); rintro e w' ⟨rfl, ⟨nd, rfl⟩⟩) | (go_at_call 24; (with_reducible refine (mutoscoperef5_Part.calls a2 a3 a4 t242 _ A14.out).mono ?_); rintro e w' ⟨rfl, ⟨nd, rfl⟩⟩) | (go_at_call 15; (with_reducible refine (ease_Part.calls (a2 / 1125899906842624) (a3 / 1125899906842624) (a4 / 1125899906842624) t243 _ A16.out).mono ?_); rintro e w' ⟨rfl, ⟨nd, rfl⟩⟩) | (go_at_call 24; (with_reducible refine (mutoscoperef5_Part.calls (a2 / 1125899906842624) (a3 / 1125899906842624) (a4 / 1125899906842624) t244 _ A17.out).mono ?_); rintro e w' ⟨rfl, ⟨nd, rfl⟩⟩) | (go_at_call 14; (with_reducible refine (mutoscopelaw4_known.calls k  t245 _ A19.out).mono ?_); rintro e w28 ⟨rfl, hb⟩; have n0_ := Aside0.mk (blk_below (g := gb233) (o := .cells #[.int .i64 a0_0, .int .i64 a0_1, .int .i64 a0_2, .int .i64 a0_3] 23 (0, 0)) (by (with_reducible repeat (first | refine blk_drewN ?_ _ | refine blk_drew ?_ | refine blk_alloc ?_ _)); exact BK233.out) hb); have n1_ := Aside0.mk (below_step (by repeat (first | (with_reducible first | exact HB.out | apply below_alloc | apply pw_below_drewN | apply below_drew1 | refine below_set ?_ GE233.out) | exact HB.out)) hb); clear BK233; clear HB; have BK233 := n0_; have HB := n1_; clear n0_ n1_; (try clear hb); (try clear hb2); (try clear hk); (try clear hi)))
            go_ret
            exact ⟨by first | rfl | (simp [errW_none, errW_some] <;> rfl) | (simp [*, errW_none, errW_some] <;> rfl), by repeat (first | (with_reducible first | exact HB.out | apply below_alloc | apply pw_below_drewN | apply below_drew1 | refine below_set ?_ GE233.out) | exact HB.out)⟩
          · rw [if_neg c18] at H
            exact absurd H (by simp)
        · rw [if_neg c15] at H
          exact absurd H (by simp)
      · replace c12 := Bool.eq_false_iff.mpr c12
        subst c12
        have H1 : (none) = some r := by rw [if_neg (show ¬ (false = true) by decide)] at H; exact H
        clear H
        have H := H1
        clear H1
        exact absurd H (by simp)
    · replace c10 := Bool.eq_false_iff.mpr c10
      subst c10
      have H1 : (none) = some r := by rw [if_neg (show ¬ (false = true) by decide)] at H; exact H
      clear H
      have H := H1
      clear H1
      exact absurd H (by simp)
  · replace c7 := Bool.eq_false_iff.mpr c7
    subst c7
    have H1 : (none) = some r := by rw [if_neg (show ¬ (false = true) by decide)] at H; exact H
    clear H
    have H := H1
    clear H1
    exact absurd H (by simp)

/-- THE ONE PURE STATEMENT of mutoscopelaw4_EaseTells: yours. -/
def mutoscopelaw4_EaseTells.Pure : Prop := ∀ (a0_0 : Int) (a0_1 : Int) (a0_2 : Int) (a0_3 : Int) (a1 : Int) (a2 : Int) (a3 : Int) (a4 : Int), (((Lit.int .i64 ((⟨a0_0, a0_1, a0_2, a0_3⟩ : S23).f0)).wf = true) ∧ ((Lit.int .i64 ((⟨a0_0, a0_1, a0_2, a0_3⟩ : S23).f1)).wf = true) ∧ ((Lit.int .i64 ((⟨a0_0, a0_1, a0_2, a0_3⟩ : S23).f2)).wf = true) ∧ ((Lit.int .i64 ((⟨a0_0, a0_1, a0_2, a0_3⟩ : S23).f3)).wf = true)) → ((Lit.int .i64 a1).wf = true) → ((Lit.int .i64 a2).wf = true) → ((Lit.int .i64 a3).wf = true) → ((Lit.int .i64 a4).wf = true) → ∃ k, mutoscopelaw4_EaseTells.f k a0_0 a0_1 a0_2 a0_3 a1 a2 a3 a4 = some true

end Go.Proofs.Ytejnbjclcdmopaa.PA
